/- THE LAW QueuePlays: a queue gives what was put in, in order, each till it is popped by its own Token: the row's function answers true and leaves memory as it was.
   The walks step through the compiled bodies; here the row's reading of the arguments is opened and the answer shut. -/
import Derived.Test.YtmokhopjnjecbabM4
import Derived.Test.YtmokhopjnjecbabRows
import Derived.Eval
import Derived.KernelRfl
import Derived.SizedLaws
import Derived.ChangeSlices
import Derived.ProofKit
import Derived.OpenShut
import Derived.ShutString
import Derived.ChangeOld
import Derived.ChangeMaps5
import Derived.Below
namespace Go.Proofs.Ytmokhopjnjecbab
open Go.Ev
set_option maxRecDepth 100000

/-- pedlar/pedlarref04.VSameAll: parameters [37, 37], results [.t 4], calls ref04_VSame -/
def wl_ref04_VSameAll_0 : Mk := ⟨[false, false, true, true, true, true, true, true, true, true, true, true, false, false, true, true, true, true, true, true, true, true, true, true, true, true, true], []⟩
abbrev s_ref04_VSameAll_0 (t0 t1 t12 t13 : AV) : List AV := [t0, t1, .any, .any, .any, .any, .any, .any, .any, .any, .any, .any, t12, t13, .any, .any, .any, .any, .any, .any, .any, .any, .any, .any, .any, .any, .any]
def c_ref04_VSameAll_l0 : Cd := (.seq (.reg [⟨(some 14), none, (.bin .lss), [.t 13, .t 12]⟩]) (.seq (.cond (.t 14) .skip (.exit 0)) (.seq (.blk 1 [] (.seq (.reg [⟨(some 15), none, .mv, [.t 13]⟩, ⟨(some 5), none, .mv, [.t 15]⟩]) (.seq (.reg [⟨(some 16), none, .mv, [.t 0]⟩, ⟨(some 17), none, .mv, [.t 5]⟩, ⟨(some 18), none, (.ixS 7), [.t 16, .t 17]⟩, ⟨(some 19), none, (.ldn 7), [.t 18]⟩, ⟨(some 20), none, .mv, [.t 1]⟩, ⟨(some 21), none, .mv, [.t 5]⟩, ⟨(some 22), none, (.ixS 7), [.t 20, .t 21]⟩, ⟨(some 23), none, (.ldn 7), [.t 22]⟩, ⟨(some 24), none, (.call F_ref04_VSame 0), [.t 19, .t 23]⟩, ⟨(some 25), none, .not, [.t 24]⟩]) (.cond (.t 25) (.seq (.reg [⟨(some 4), none, .mv, [.c (.bool false)]⟩]) .ret) .skip)))) (.reg [⟨(some 26), none, (.bin .add), [.t 13, .c (.int .i64 1)]⟩, ⟨(some 13), none, .mv, [.t 26]⟩]))))
def wb_ref04_VSameAll_0 : List Bool := [true, true, true, true, true, true, true, true, true, true, true, true, true, true, true, true, true, true, true, true, true, true, true, true, true, true, true]
abbrev e_ref04_VSameAll_0 : List AV := [.any, .any, .any, .any, .any, .any, .any, .any, .any, .any, .any, .any, .any, .any, .any, .any, .any, .any, .any, .any, .any, .any, .any, .any, .any, .any, .any]
abbrev i_ref04_VSameAll_0 : List It := [.lp wl_ref04_VSameAll_0 c_ref04_VSameAll_l0, .blk 0 wb_ref04_VSameAll_0]
def c_ref04_VSameAll_k0 : Cd := (.seq (.reg [⟨(some 4), none, .mv, [.c (.bool true)]⟩]) .ret)
def c_ref04_VSameAll : Cd := (.seq (.reg [⟨(some 4), none, .mv, [.c (.bool false)]⟩]) (.seq (.seq (.reg [⟨(some 6), none, .mv, [.t 0]⟩, ⟨(some 7), none, .len, [.t 6]⟩, ⟨(some 8), none, .mv, [.t 1]⟩, ⟨(some 9), none, .len, [.t 8]⟩, ⟨(some 10), none, (.bin .neq), [.t 7, .t 9]⟩]) (.cond (.t 10) (.seq (.reg [⟨(some 4), none, .mv, [.c (.bool false)]⟩]) .ret) .skip)) (.seq (.seq (.reg [⟨(some 11), none, .mv, [.t 0]⟩, ⟨(some 12), none, .len, [.t 11]⟩, ⟨(some 13), none, .mv, [.c (.int .i64 0)]⟩]) (.blk 0 wb_ref04_VSameAll_0 (.loop wl_ref04_VSameAll_0 c_ref04_VSameAll_l0))) c_ref04_VSameAll_k0)))
theorem comp_ref04_VSameAll : compF Try.prog (mset [] [] []) (cset [] [] []) (wset [(0, wl_ref04_VSameAll_0, wb_ref04_VSameAll_0)] []) Try.f28 = some c_ref04_VSameAll := by kernel_rfl
theorem ok_ref04_VSameAll : fnOk Try.prog F_ref04_VSameAll = true := by kernel_rfl
theorem calls_ref04_VSameAll {args : List AV} {r : AV} (h : RunsX Try.prog 0 (Gives [.t 4] r) [.c c_ref04_VSameAll] (args ++ List.replicate (27 - args.length) (.tup [])) [] zeroC) : PCalls Try.prog F_ref04_VSameAll args r :=
  pcallsF Try.checked.mixed Try.func28 ok_ref04_VSameAll comp_ref04_VSameAll rfl (rs := [.t 4]) (by kernel_rfl) h
theorem hcalls_ref04_VSameAll {args : List AV} {Hin Hout : Heap} {nx nx2 : Ctr} {r : AV} (φ : Nat) (ks : List (Nat × Nat)) (h : RunsX Try.prog φ (GivesH ks [.t 4] r Hout nx2) [.c c_ref04_VSameAll] (args ++ List.replicate (27 - args.length) (.tup [])) Hin nx) : HCalls Try.prog F_ref04_VSameAll args Hin nx r Hout nx2 :=
  hcallsF Try.checked.mixed Try.func28 ok_ref04_VSameAll comp_ref04_VSameAll rfl (rs := [.t 4]) (by kernel_rfl) φ ks h

def tab_CdVsa : List (Nat × Cd × Nat × List RS) := [(F_ref04_VSameAll, c_ref04_VSameAll, 27, [.t 4])]
theorem tok_CdVsa : TabOk Try.prog (tabOf tab_CdVsa) := tab_cons calls_ref04_VSameAll hcalls_ref04_VSameAll (tab_nil)
end Go.Proofs.Ytmokhopjnjecbab
/- Lists of versions, alike. -/
-- short
-- fuel 300
namespace Go.Proofs.Ytmokhopjnjecbab
open Go.Ev
set_option linter.unusedVariables false
set_option linter.unusedSimpArgs false
set_option maxRecDepth 100000
set_option maxHeartbeats 3200000
theorem vsame_self {v : Ver} (h : VRt v) : PCalls Try.prog F_ref04_VSame [vv v, vv v] (.bool true) := by
  have := refVSame_calls v v (by have := xrt_size h.2.2.2.2.2.2.2.2.1; omega)
  rw [xteq_true.2 rfl, show vhead v v = true from cdec_t ⟨rfl, rfl, rfl, rfl, rfl⟩] at this
  exact this
theorem vsameall_loop (l : List Ver) (hl : l.length ≤ 1000) (hv : ∀ v ∈ l, VRt v) : ∀ (post pre : List Ver), l = pre ++ post → ∀ nx : Ctr,
    RunsX Try.prog 0 (Gives [.t 4] (.bool true)) (i_ref04_VSameAll_0 ++ [.c c_ref04_VSameAll_k0]) (s_ref04_VSameAll_0 (.fz 7 (l.map vv) none) (.fz 7 (l.map vv) none) (.int .i64 (l.length : Nat)) (.int .i64 (pre.length : Nat))) [] nx := by
  intro post
  induction post with
  | nil =>
    intro pre h1 nx
    rw [List.append_nil] at h1
    subst h1
    refine round (its := [.blk 0 wb_ref04_VSameAll_0]) (k0 := [.c c_ref04_VSameAll_k0]) 300 trivial trivial (fun A eA => ?_)
    simp (disch := first | omega | (simp only [avs_len, List.length_cons, List.length_append, List.length_nil, List.length_take, List.length_drop, List.length_map]; omega) | (simp only [cells, scal1, allSz, List.length_cons, List.length_nil, List.length_append, List.length_map, List.all_cons, List.all_nil, avs_len, beq_self_eq_true, Bool.and_self, and_self, or_true, true_or, reduceCtorEq, *]; done) | fail) only [c_ref04_VSameAll, wl_ref04_VSameAll_0, s_ref04_VSameAll_0, c_ref04_VSameAll_l0, wb_ref04_VSameAll_0, c_ref04_VSameAll_k0, go_sem, Nat.reduceAdd, Nat.reduceSub, Nat.reduceMul, Nat.reduceLT, Nat.reduceLeDiff, Int.reduceToNat, Nat.reduceEqDiff, Nat.reduceBEq, ↓reduceIte, reduceCtorEq, eA, scal1]
    refine walk0 (its := [.c c_ref04_VSameAll_k0]) 300 trivial (fun A eA => ?_)
    simp (disch := first | omega | (simp only [avs_len, List.length_cons, List.length_append, List.length_nil, List.length_take, List.length_drop, List.length_map]; omega) | (simp only [cells, scal1, allSz, List.length_cons, List.length_nil, List.length_append, List.length_map, List.all_cons, List.all_nil, avs_len, beq_self_eq_true, Bool.and_self, and_self, or_true, true_or, reduceCtorEq, *]; done) | fail) only [c_ref04_VSameAll, wl_ref04_VSameAll_0, s_ref04_VSameAll_0, c_ref04_VSameAll_l0, wb_ref04_VSameAll_0, c_ref04_VSameAll_k0, go_sem, Nat.reduceAdd, Nat.reduceSub, Nat.reduceMul, Nat.reduceLT, Nat.reduceLeDiff, Int.reduceToNat, Nat.reduceEqDiff, Nat.reduceBEq, ↓reduceIte, reduceCtorEq, eA, scal1]
    exact doneG rfl
  | cons p post ih =>
    intro pre h1 nx
    have hlt : pre.length < l.length := by rw [h1]; simp
    have hpm : p ∈ l := by rw [h1]; simp
    have hih := ih (pre ++ [p]) (by rw [h1]; simp) nx
    rw [show (pre ++ [p]).length = pre.length + 1 by simp] at hih
    have g0 : (l.map vv)[((pre.length : Nat) : Int).toNat]? = some (vv p) := by
      rw [Int.toNat_natCast, h1, List.getElem?_map, List.getElem?_append_right (Nat.le_refl _), Nat.sub_self]; rfl
    have w1 : IntKind.i64.wrap ((pre.length : Int) + 1) = ((pre.length + 1 : Nat) : Int) := by rw [wrap64 (by omega) (by omega)]; omega
    refine round (its := [.blk 0 wb_ref04_VSameAll_0]) (k0 := [.c c_ref04_VSameAll_k0]) 300 trivial trivial (fun A eA => ?_)
    simp (disch := first | omega | (simp only [avs_len, List.length_cons, List.length_append, List.length_nil, List.length_take, List.length_drop, List.length_map]; omega) | (simp only [cells, scal1, allSz, List.length_cons, List.length_nil, List.length_append, List.length_map, List.all_cons, List.all_nil, avs_len, beq_self_eq_true, Bool.and_self, and_self, or_true, true_or, reduceCtorEq, *]; done) | fail) only [c_ref04_VSameAll, wl_ref04_VSameAll_0, s_ref04_VSameAll_0, c_ref04_VSameAll_l0, wb_ref04_VSameAll_0, c_ref04_VSameAll_k0, go_sem, Nat.reduceAdd, Nat.reduceSub, Nat.reduceMul, Nat.reduceLT, Nat.reduceLeDiff, Int.reduceToNat, Nat.reduceEqDiff, Nat.reduceBEq, ↓reduceIte, reduceCtorEq, eA, scal1, ↓optI_of g0, w1]
    refine call0 300 trivial trivial (vsame_self (hv p hpm)) (.inl rfl) (fun A eA => ?_)
    simp (disch := first | omega | (simp only [avs_len, List.length_cons, List.length_append, List.length_nil, List.length_take, List.length_drop, List.length_map]; omega) | (simp only [cells, scal1, allSz, List.length_cons, List.length_nil, List.length_append, List.length_map, List.all_cons, List.all_nil, avs_len, beq_self_eq_true, Bool.and_self, and_self, or_true, true_or, reduceCtorEq, *]; done) | fail) only [c_ref04_VSameAll, wl_ref04_VSameAll_0, s_ref04_VSameAll_0, c_ref04_VSameAll_l0, wb_ref04_VSameAll_0, c_ref04_VSameAll_k0, go_sem, Nat.reduceAdd, Nat.reduceSub, Nat.reduceMul, Nat.reduceLT, Nat.reduceLeDiff, Int.reduceToNat, Nat.reduceEqDiff, Nat.reduceBEq, ↓reduceIte, reduceCtorEq, eA, scal1, ↓optI_of g0, w1]
    exact hih
theorem vsameall_calls {l : List Ver} (hl : l.length ≤ 1000) (hv : ∀ v ∈ l, VRt v) : PCalls Try.prog F_ref04_VSameAll [.fz 7 (l.map vv) none, .fz 7 (l.map vv) none] (.bool true) := by
  refine calls_ref04_VSameAll (walk0 300 trivial (fun A eA => ?_))
  simp (disch := first | omega | (simp only [avs_len, List.length_cons, List.length_append, List.length_nil, List.length_take, List.length_drop, List.length_map]; omega) | (simp only [cells, scal1, allSz, List.length_cons, List.length_nil, List.length_append, List.length_map, List.all_cons, List.all_nil, avs_len, beq_self_eq_true, Bool.and_self, and_self, or_true, true_or, reduceCtorEq, *]; done) | fail) only [c_ref04_VSameAll, wl_ref04_VSameAll_0, s_ref04_VSameAll_0, c_ref04_VSameAll_l0, wb_ref04_VSameAll_0, c_ref04_VSameAll_k0, go_sem, Nat.reduceAdd, Nat.reduceSub, Nat.reduceMul, Nat.reduceLT, Nat.reduceLeDiff, Int.reduceToNat, Nat.reduceEqDiff, Nat.reduceBEq, ↓reduceIte, reduceCtorEq, eA, scal1, List.length_map]
  exact vsameall_loop l hl hv l [] rfl _
end Go.Proofs.Ytmokhopjnjecbab
/- The law on versions: what is looked at, what a program that does nothing answers wrongly. -/
namespace Go.Proofs.Ytmokhopjnjecbab
open Go.Ev
set_option linter.unusedVariables false
set_option linter.unusedSimpArgs false
set_option maxRecDepth 100000
set_option maxHeartbeats 3200000
variable {R : List AV → Heap → Ctr → Prop} {k : List It} {H : Heap} {nx : Ctr} {φ : Nat}

def tab_xright : List (Nat × Cd × Nat × List RS) := [(F_event_Right, c_event_Right, 10, [.t 2]), (F_event_count, c_event_count, 48, [.t 4]), (F_event_leaf, c_event_leaf, 7, [.t 2]), (F_event_short, c_event_short, 47, [.t 2]), (F_event_Same, c_event_Same, 8, [.t 4]), (F_event_same, c_event_same, 47, [.t 6])]
theorem tok_xright : TabOk Try.prog (tabOf tab_xright) := tab_cons calls_event_Right hcalls_event_Right (tab_cons calls_event_count hcalls_event_count (tab_cons calls_event_leaf hcalls_event_leaf (tab_cons calls_event_short hcalls_event_short (tab_cons calls_event_Same hcalls_event_Same (tab_cons calls_event_same hcalls_event_same (tab_nil))))))
theorem vawake_calls : PCalls Try.prog F_law07_awake [] (.bool true) :=
  evalF_calls (T := tabOf (tab_CdVersion ++ tab_xright)) (n := 300) (tab_append tok_CdVersion tok_xright) (by kernel_rfl)
def fewL : Nat → List Ver → Bool
  | _, [] => true
  | i, v :: l => decide (i < 40) && decide (v.key.size ≤ 100) && decide (v.value.size ≤ 300) && decide (xlcnt 30 v.event ≤ 1000) && fewL (i + 1) l
theorem fewL_mem : ∀ {l : List Ver} {i : Nat}, fewL i l = true → l.length ≤ 40 - i ∧ ∀ v ∈ l, v.key.size ≤ 100 ∧ v.value.size ≤ 300 ∧ v.event.size ≤ 1000
  | [], i, _ => by simp
  | v :: l, i, h => by
    simp only [fewL, Bool.and_eq_true, decide_eq_true_eq] at h
    obtain ⟨h1, h2⟩ := fewL_mem h.2
    refine ⟨by simp only [List.length_cons]; omega, fun w hw => ?_⟩
    rcases List.mem_cons.1 hw with rfl | hw
    · have := xlcnt_size 30 w.event h.1.2
      exact ⟨h.1.1.1.2, h.1.1.2, by omega⟩
    · exact h2 w hw
theorem vv_get (l : List Ver) (i : Nat) : (l.map vv)[i]? = l[i]?.map vv := List.getElem?_map ..
theorem few_loop (l : List Ver) (c : Option Nat) (hl : l.length < 2 ^ 63) : ∀ (post pre : List Ver), l = pre ++ post → ∀ nx : Ctr,
    RunsX Try.prog 0 (Gives [.t 2] (.bool (fewL pre.length post))) (i_law07_Few_0 ++ [.c c_law07_Few_k0]) (s_law07_Few_0 (.fz 7 (l.map vv) c) (.int .i64 (l.length : Nat)) (.int .i64 (pre.length : Nat))) [] nx := by
  intro post
  induction post with
  | nil =>
    intro pre h1 nx
    have h5 : l.length = pre.length := by rw [h1]; simp
    refine round (its := [.blk 0 wb_law07_Few_0]) (k0 := [.c c_law07_Few_k0]) 100 trivial trivial (fun A eA => ?_)
    simp (disch := first | omega | (simp only [avs_len, List.length_cons, List.length_append, List.length_nil, List.length_take, List.length_drop, List.length_map]; omega)) only [c_law07_Few, wl_law07_Few_0, s_law07_Few_0, c_law07_Few_l0, wb_law07_Few_0, c_law07_Few_k0, ↓advStep, ↓execK, ↓opK, ↓binK, ↓intK, ↓strK, evs, ev, getT, setT, put, List.replicate, List.cons_append, List.nil_append, List.length_cons, List.length_nil, ↓mapK, ↓frzK_sl, ↓frzK_agg, ↓frzK_tup, ↓frzK_ifc, ↓frzK_func, ↓frzK_int, ↓frzK_bool, ↓frzK_str, ↓frzK_nilp, ↓frzK_nils, ↓frzK_nilm, ↓frzK_nilf, ↓frzK_nili, ↓frzK_fz, ↓frzK_any, ↓frzK_ptr, ↓frzK_ro, ↓getB, setB, kill, killM, dropK, keysOf, capOf_nn, zeroC, bump, frzT, thaw, gets, putAll, ↓getsK, ↓getR, ↓retK, retv, find, cells, ↓nilpK, ↓nilsK, ↓nilfK, ↓niliK, ↓bndK, ↓cutK, ↓fillK, ↓exitK, List.append_nil, List.drop, List.take, Nat.reduceAdd, Nat.reduceSub, Nat.reduceMul, Nat.reduceLT, Nat.reduceLeDiff, Nat.zero_add, Nat.add_zero, Nat.mul_one, Int.reduceToNat, Nat.reduceEqDiff, Nat.succ_ne_self, Nat.le_refl, Nat.one_ne_zero, Nat.reduceBEq, Nat.lt_irrefl, List.length_append, Int.toNat_zero, Int.toNat_one, List.take_zero, List.drop_zero, Nat.zero_mul, sel, rest, keyIn, ↓reduceIte, ↓if_pos, ↓if_neg, reduceCtorEq, Bool.not_true, Bool.not_false, Bool.false_eq_true, Bool.true_eq_false, and_self, and_true, true_and, false_and, and_false, decide_true, decide_false, decide_eq_true, decide_eq_false, decide_eq_true_eq, decide_eq_false_iff_not, Bool.not_eq_true, Bool.not_eq_false, Bool.not_eq_eq_eq_not, Decidable.not_not, eA]
    refine walk0 (its := [.c c_law07_Few_k0]) 100 trivial (fun A eA => ?_)
    simp (disch := first | omega | (simp only [avs_len, List.length_cons, List.length_append, List.length_nil, List.length_take, List.length_drop, List.length_map]; omega)) only [c_law07_Few, wl_law07_Few_0, s_law07_Few_0, c_law07_Few_l0, wb_law07_Few_0, c_law07_Few_k0, ↓advStep, ↓execK, ↓opK, ↓binK, ↓intK, ↓strK, evs, ev, getT, setT, put, List.replicate, List.cons_append, List.nil_append, List.length_cons, List.length_nil, ↓mapK, ↓frzK_sl, ↓frzK_agg, ↓frzK_tup, ↓frzK_ifc, ↓frzK_func, ↓frzK_int, ↓frzK_bool, ↓frzK_str, ↓frzK_nilp, ↓frzK_nils, ↓frzK_nilm, ↓frzK_nilf, ↓frzK_nili, ↓frzK_fz, ↓frzK_any, ↓frzK_ptr, ↓frzK_ro, ↓getB, setB, kill, killM, dropK, keysOf, capOf_nn, zeroC, bump, frzT, thaw, gets, putAll, ↓getsK, ↓getR, ↓retK, retv, find, cells, ↓nilpK, ↓nilsK, ↓nilfK, ↓niliK, ↓bndK, ↓cutK, ↓fillK, ↓exitK, List.append_nil, List.drop, List.take, Nat.reduceAdd, Nat.reduceSub, Nat.reduceMul, Nat.reduceLT, Nat.reduceLeDiff, Nat.zero_add, Nat.add_zero, Nat.mul_one, Int.reduceToNat, Nat.reduceEqDiff, Nat.succ_ne_self, Nat.le_refl, Nat.one_ne_zero, Nat.reduceBEq, Nat.lt_irrefl, List.length_append, Int.toNat_zero, Int.toNat_one, List.take_zero, List.drop_zero, Nat.zero_mul, sel, rest, keyIn, ↓reduceIte, ↓if_pos, ↓if_neg, reduceCtorEq, Bool.not_true, Bool.not_false, Bool.false_eq_true, Bool.true_eq_false, and_self, and_true, true_and, false_and, and_false, decide_true, decide_false, decide_eq_true, decide_eq_false, decide_eq_true_eq, decide_eq_false_iff_not, Bool.not_eq_true, Bool.not_eq_false, Bool.not_eq_eq_eq_not, Decidable.not_not, eA]
    exact doneG rfl
  | cons v post ih =>
    intro pre h1 nx
    have hlt : pre.length < l.length := by rw [h1]; simp
    have g0 : (List.map vv l)[pre.length]? = some (vv v) := by rw [vv_get, h1]; simp
    have w1 : IntKind.i64.wrap ((pre.length : Int) + 1) = ((pre.length + 1 : Nat) : Int) := by rw [IntKind.wrap_i64]; omega
    have hih := ih (pre ++ [v]) (by rw [h1]; simp) nx
    rw [show (pre ++ [v]).length = pre.length + 1 by simp] at hih
    have c := xFew_calls v.event
    simp only [fewL]
    refine round (its := [.blk 0 wb_law07_Few_0]) (k0 := [.c c_law07_Few_k0]) 100 trivial trivial (fun A eA => ?_)
    by_cases h1 : pre.length < 40
    case neg =>
      rw [decide_eq_false h1, Bool.false_and, Bool.false_and, Bool.false_and, Bool.false_and]
      simp (disch := first | omega | (simp only [avs_len, List.length_cons, List.length_append, List.length_nil, List.length_take, List.length_drop, List.length_map]; omega)) only [c_law07_Few, wl_law07_Few_0, s_law07_Few_0, c_law07_Few_l0, wb_law07_Few_0, c_law07_Few_k0, ↓advStep, ↓execK, ↓opK, ↓binK, ↓intK, ↓strK, evs, ev, getT, setT, put, List.replicate, List.cons_append, List.nil_append, List.length_cons, List.length_nil, ↓mapK, ↓frzK_sl, ↓frzK_agg, ↓frzK_tup, ↓frzK_ifc, ↓frzK_func, ↓frzK_int, ↓frzK_bool, ↓frzK_str, ↓frzK_nilp, ↓frzK_nils, ↓frzK_nilm, ↓frzK_nilf, ↓frzK_nili, ↓frzK_fz, ↓frzK_any, ↓frzK_ptr, ↓frzK_ro, ↓getB, setB, kill, killM, dropK, keysOf, capOf_nn, zeroC, bump, frzT, thaw, gets, putAll, ↓getsK, ↓getR, ↓retK, retv, find, cells, ↓nilpK, ↓nilsK, ↓nilfK, ↓niliK, ↓bndK, ↓cutK, ↓fillK, ↓exitK, List.append_nil, List.drop, List.take, Nat.reduceAdd, Nat.reduceSub, Nat.reduceMul, Nat.reduceLT, Nat.reduceLeDiff, Nat.zero_add, Nat.add_zero, Nat.mul_one, Int.reduceToNat, Nat.reduceEqDiff, Nat.succ_ne_self, Nat.le_refl, Nat.one_ne_zero, Nat.reduceBEq, Nat.lt_irrefl, List.length_append, Int.toNat_zero, Int.toNat_one, List.take_zero, List.drop_zero, Nat.zero_mul, sel, rest, keyIn, ↓reduceIte, ↓if_pos, ↓if_neg, reduceCtorEq, Bool.not_true, Bool.not_false, Bool.false_eq_true, Bool.true_eq_false, and_self, and_true, true_and, false_and, and_false, decide_true, decide_false, decide_eq_true, decide_eq_false, decide_eq_true_eq, decide_eq_false_iff_not, Bool.not_eq_true, Bool.not_eq_false, Bool.not_eq_eq_eq_not, Decidable.not_not, eA]
      exact doneG rfl
    by_cases h2 : v.key.size ≤ 100
    case neg =>
      rw [decide_eq_false h2, Bool.and_false, Bool.false_and, Bool.false_and, Bool.false_and]
      simp (disch := first | omega | (simp only [avs_len, List.length_cons, List.length_append, List.length_nil, List.length_take, List.length_drop, List.length_map]; omega)) only [c_law07_Few, wl_law07_Few_0, s_law07_Few_0, c_law07_Few_l0, wb_law07_Few_0, c_law07_Few_k0, ↓advStep, ↓execK, ↓opK, ↓binK, ↓intK, ↓strK, evs, ev, getT, setT, put, List.replicate, List.cons_append, List.nil_append, List.length_cons, List.length_nil, ↓mapK, ↓frzK_sl, ↓frzK_agg, ↓frzK_tup, ↓frzK_ifc, ↓frzK_func, ↓frzK_int, ↓frzK_bool, ↓frzK_str, ↓frzK_nilp, ↓frzK_nils, ↓frzK_nilm, ↓frzK_nilf, ↓frzK_nili, ↓frzK_fz, ↓frzK_any, ↓frzK_ptr, ↓frzK_ro, ↓getB, setB, kill, killM, dropK, keysOf, capOf_nn, zeroC, bump, frzT, thaw, gets, putAll, ↓getsK, ↓getR, ↓retK, retv, find, cells, ↓nilpK, ↓nilsK, ↓nilfK, ↓niliK, ↓bndK, ↓cutK, ↓fillK, ↓exitK, List.append_nil, List.drop, List.take, Nat.reduceAdd, Nat.reduceSub, Nat.reduceMul, Nat.reduceLT, Nat.reduceLeDiff, Nat.zero_add, Nat.add_zero, Nat.mul_one, Int.reduceToNat, Nat.reduceEqDiff, Nat.succ_ne_self, Nat.le_refl, Nat.one_ne_zero, Nat.reduceBEq, Nat.lt_irrefl, List.length_append, Int.toNat_zero, Int.toNat_one, List.take_zero, List.drop_zero, Nat.zero_mul, sel, rest, keyIn, ↓reduceIte, ↓if_pos, ↓if_neg, reduceCtorEq, Bool.not_true, Bool.not_false, Bool.false_eq_true, Bool.true_eq_false, and_self, and_true, true_and, false_and, and_false, decide_true, decide_false, decide_eq_true, decide_eq_false, decide_eq_true_eq, decide_eq_false_iff_not, Bool.not_eq_true, Bool.not_eq_false, Bool.not_eq_eq_eq_not, Decidable.not_not, eA, Int.toNat_natCast, g0]
      exact doneG rfl
    by_cases h3 : v.value.size ≤ 300
    case neg =>
      rw [decide_eq_false h3, Bool.and_false, Bool.false_and, Bool.false_and]
      simp (disch := first | omega | (simp only [avs_len, List.length_cons, List.length_append, List.length_nil, List.length_take, List.length_drop, List.length_map]; omega)) only [c_law07_Few, wl_law07_Few_0, s_law07_Few_0, c_law07_Few_l0, wb_law07_Few_0, c_law07_Few_k0, ↓advStep, ↓execK, ↓opK, ↓binK, ↓intK, ↓strK, evs, ev, getT, setT, put, List.replicate, List.cons_append, List.nil_append, List.length_cons, List.length_nil, ↓mapK, ↓frzK_sl, ↓frzK_agg, ↓frzK_tup, ↓frzK_ifc, ↓frzK_func, ↓frzK_int, ↓frzK_bool, ↓frzK_str, ↓frzK_nilp, ↓frzK_nils, ↓frzK_nilm, ↓frzK_nilf, ↓frzK_nili, ↓frzK_fz, ↓frzK_any, ↓frzK_ptr, ↓frzK_ro, ↓getB, setB, kill, killM, dropK, keysOf, capOf_nn, zeroC, bump, frzT, thaw, gets, putAll, ↓getsK, ↓getR, ↓retK, retv, find, cells, ↓nilpK, ↓nilsK, ↓nilfK, ↓niliK, ↓bndK, ↓cutK, ↓fillK, ↓exitK, List.append_nil, List.drop, List.take, Nat.reduceAdd, Nat.reduceSub, Nat.reduceMul, Nat.reduceLT, Nat.reduceLeDiff, Nat.zero_add, Nat.add_zero, Nat.mul_one, Int.reduceToNat, Nat.reduceEqDiff, Nat.succ_ne_self, Nat.le_refl, Nat.one_ne_zero, Nat.reduceBEq, Nat.lt_irrefl, List.length_append, Int.toNat_zero, Int.toNat_one, List.take_zero, List.drop_zero, Nat.zero_mul, sel, rest, keyIn, ↓reduceIte, ↓if_pos, ↓if_neg, reduceCtorEq, Bool.not_true, Bool.not_false, Bool.false_eq_true, Bool.true_eq_false, and_self, and_true, true_and, false_and, and_false, decide_true, decide_false, decide_eq_true, decide_eq_false, decide_eq_true_eq, decide_eq_false_iff_not, Bool.not_eq_true, Bool.not_eq_false, Bool.not_eq_eq_eq_not, Decidable.not_not, eA, Int.toNat_natCast, g0]
      exact doneG rfl
    rw [decide_eq_true h1, decide_eq_true h2, decide_eq_true h3, Bool.true_and, Bool.true_and, Bool.true_and]
    by_cases h4 : xlcnt 30 v.event ≤ 1000
    · rw [decide_eq_true h4] at c ⊢
      rw [Bool.true_and]
      simp (disch := first | omega | (simp only [avs_len, List.length_cons, List.length_append, List.length_nil, List.length_take, List.length_drop, List.length_map]; omega)) only [c_law07_Few, wl_law07_Few_0, s_law07_Few_0, c_law07_Few_l0, wb_law07_Few_0, c_law07_Few_k0, ↓advStep, ↓execK, ↓opK, ↓binK, ↓intK, ↓strK, evs, ev, getT, setT, put, List.replicate, List.cons_append, List.nil_append, List.length_cons, List.length_nil, ↓mapK, ↓frzK_sl, ↓frzK_agg, ↓frzK_tup, ↓frzK_ifc, ↓frzK_func, ↓frzK_int, ↓frzK_bool, ↓frzK_str, ↓frzK_nilp, ↓frzK_nils, ↓frzK_nilm, ↓frzK_nilf, ↓frzK_nili, ↓frzK_fz, ↓frzK_any, ↓frzK_ptr, ↓frzK_ro, ↓getB, setB, kill, killM, dropK, keysOf, capOf_nn, zeroC, bump, frzT, thaw, gets, putAll, ↓getsK, ↓getR, ↓retK, retv, find, cells, ↓nilpK, ↓nilsK, ↓nilfK, ↓niliK, ↓bndK, ↓cutK, ↓fillK, ↓exitK, List.append_nil, List.drop, List.take, Nat.reduceAdd, Nat.reduceSub, Nat.reduceMul, Nat.reduceLT, Nat.reduceLeDiff, Nat.zero_add, Nat.add_zero, Nat.mul_one, Int.reduceToNat, Nat.reduceEqDiff, Nat.succ_ne_self, Nat.le_refl, Nat.one_ne_zero, Nat.reduceBEq, Nat.lt_irrefl, List.length_append, Int.toNat_zero, Int.toNat_one, List.take_zero, List.drop_zero, Nat.zero_mul, sel, rest, keyIn, ↓reduceIte, ↓if_pos, ↓if_neg, reduceCtorEq, Bool.not_true, Bool.not_false, Bool.false_eq_true, Bool.true_eq_false, and_self, and_true, true_and, false_and, and_false, decide_true, decide_false, decide_eq_true, decide_eq_false, decide_eq_true_eq, decide_eq_false_iff_not, Bool.not_eq_true, Bool.not_eq_false, Bool.not_eq_eq_eq_not, Decidable.not_not, eA, Int.toNat_natCast, g0, scal1, List.all_cons, List.all_nil, Bool.and_self]
      refine call0 100 trivial trivial c (.inl rfl) (fun A eA => ?_)
      simp (disch := first | omega | (simp only [avs_len, List.length_cons, List.length_append, List.length_nil, List.length_take, List.length_drop, List.length_map]; omega)) only [c_law07_Few, wl_law07_Few_0, s_law07_Few_0, c_law07_Few_l0, wb_law07_Few_0, c_law07_Few_k0, ↓advStep, ↓execK, ↓opK, ↓binK, ↓intK, ↓strK, evs, ev, getT, setT, put, List.replicate, List.cons_append, List.nil_append, List.length_cons, List.length_nil, ↓mapK, ↓frzK_sl, ↓frzK_agg, ↓frzK_tup, ↓frzK_ifc, ↓frzK_func, ↓frzK_int, ↓frzK_bool, ↓frzK_str, ↓frzK_nilp, ↓frzK_nils, ↓frzK_nilm, ↓frzK_nilf, ↓frzK_nili, ↓frzK_fz, ↓frzK_any, ↓frzK_ptr, ↓frzK_ro, ↓getB, setB, kill, killM, dropK, keysOf, capOf_nn, zeroC, bump, frzT, thaw, gets, putAll, ↓getsK, ↓getR, ↓retK, retv, find, cells, ↓nilpK, ↓nilsK, ↓nilfK, ↓niliK, ↓bndK, ↓cutK, ↓fillK, ↓exitK, List.append_nil, List.drop, List.take, Nat.reduceAdd, Nat.reduceSub, Nat.reduceMul, Nat.reduceLT, Nat.reduceLeDiff, Nat.zero_add, Nat.add_zero, Nat.mul_one, Int.reduceToNat, Nat.reduceEqDiff, Nat.succ_ne_self, Nat.le_refl, Nat.one_ne_zero, Nat.reduceBEq, Nat.lt_irrefl, List.length_append, Int.toNat_zero, Int.toNat_one, List.take_zero, List.drop_zero, Nat.zero_mul, sel, rest, keyIn, ↓reduceIte, ↓if_pos, ↓if_neg, reduceCtorEq, Bool.not_true, Bool.not_false, Bool.false_eq_true, Bool.true_eq_false, and_self, and_true, true_and, false_and, and_false, decide_true, decide_false, decide_eq_true, decide_eq_false, decide_eq_true_eq, decide_eq_false_iff_not, Bool.not_eq_true, Bool.not_eq_false, Bool.not_eq_eq_eq_not, Decidable.not_not, eA, w1]
      exact hih
    · rw [decide_eq_false h4] at c ⊢
      rw [Bool.false_and]
      simp (disch := first | omega | (simp only [avs_len, List.length_cons, List.length_append, List.length_nil, List.length_take, List.length_drop, List.length_map]; omega)) only [c_law07_Few, wl_law07_Few_0, s_law07_Few_0, c_law07_Few_l0, wb_law07_Few_0, c_law07_Few_k0, ↓advStep, ↓execK, ↓opK, ↓binK, ↓intK, ↓strK, evs, ev, getT, setT, put, List.replicate, List.cons_append, List.nil_append, List.length_cons, List.length_nil, ↓mapK, ↓frzK_sl, ↓frzK_agg, ↓frzK_tup, ↓frzK_ifc, ↓frzK_func, ↓frzK_int, ↓frzK_bool, ↓frzK_str, ↓frzK_nilp, ↓frzK_nils, ↓frzK_nilm, ↓frzK_nilf, ↓frzK_nili, ↓frzK_fz, ↓frzK_any, ↓frzK_ptr, ↓frzK_ro, ↓getB, setB, kill, killM, dropK, keysOf, capOf_nn, zeroC, bump, frzT, thaw, gets, putAll, ↓getsK, ↓getR, ↓retK, retv, find, cells, ↓nilpK, ↓nilsK, ↓nilfK, ↓niliK, ↓bndK, ↓cutK, ↓fillK, ↓exitK, List.append_nil, List.drop, List.take, Nat.reduceAdd, Nat.reduceSub, Nat.reduceMul, Nat.reduceLT, Nat.reduceLeDiff, Nat.zero_add, Nat.add_zero, Nat.mul_one, Int.reduceToNat, Nat.reduceEqDiff, Nat.succ_ne_self, Nat.le_refl, Nat.one_ne_zero, Nat.reduceBEq, Nat.lt_irrefl, List.length_append, Int.toNat_zero, Int.toNat_one, List.take_zero, List.drop_zero, Nat.zero_mul, sel, rest, keyIn, ↓reduceIte, ↓if_pos, ↓if_neg, reduceCtorEq, Bool.not_true, Bool.not_false, Bool.false_eq_true, Bool.true_eq_false, and_self, and_true, true_and, false_and, and_false, decide_true, decide_false, decide_eq_true, decide_eq_false, decide_eq_true_eq, decide_eq_false_iff_not, Bool.not_eq_true, Bool.not_eq_false, Bool.not_eq_eq_eq_not, Decidable.not_not, eA, Int.toNat_natCast, g0, scal1, List.all_cons, List.all_nil, Bool.and_self]
      refine call0 100 trivial trivial c (.inl rfl) (fun A eA => ?_)
      simp (disch := first | omega | (simp only [avs_len, List.length_cons, List.length_append, List.length_nil, List.length_take, List.length_drop, List.length_map]; omega)) only [c_law07_Few, wl_law07_Few_0, s_law07_Few_0, c_law07_Few_l0, wb_law07_Few_0, c_law07_Few_k0, ↓advStep, ↓execK, ↓opK, ↓binK, ↓intK, ↓strK, evs, ev, getT, setT, put, List.replicate, List.cons_append, List.nil_append, List.length_cons, List.length_nil, ↓mapK, ↓frzK_sl, ↓frzK_agg, ↓frzK_tup, ↓frzK_ifc, ↓frzK_func, ↓frzK_int, ↓frzK_bool, ↓frzK_str, ↓frzK_nilp, ↓frzK_nils, ↓frzK_nilm, ↓frzK_nilf, ↓frzK_nili, ↓frzK_fz, ↓frzK_any, ↓frzK_ptr, ↓frzK_ro, ↓getB, setB, kill, killM, dropK, keysOf, capOf_nn, zeroC, bump, frzT, thaw, gets, putAll, ↓getsK, ↓getR, ↓retK, retv, find, cells, ↓nilpK, ↓nilsK, ↓nilfK, ↓niliK, ↓bndK, ↓cutK, ↓fillK, ↓exitK, List.append_nil, List.drop, List.take, Nat.reduceAdd, Nat.reduceSub, Nat.reduceMul, Nat.reduceLT, Nat.reduceLeDiff, Nat.zero_add, Nat.add_zero, Nat.mul_one, Int.reduceToNat, Nat.reduceEqDiff, Nat.succ_ne_self, Nat.le_refl, Nat.one_ne_zero, Nat.reduceBEq, Nat.lt_irrefl, List.length_append, Int.toNat_zero, Int.toNat_one, List.take_zero, List.drop_zero, Nat.zero_mul, sel, rest, keyIn, ↓reduceIte, ↓if_pos, ↓if_neg, reduceCtorEq, Bool.not_true, Bool.not_false, Bool.false_eq_true, Bool.true_eq_false, and_self, and_true, true_and, false_and, and_false, decide_true, decide_false, decide_eq_true, decide_eq_false, decide_eq_true_eq, decide_eq_false_iff_not, Bool.not_eq_true, Bool.not_eq_false, Bool.not_eq_eq_eq_not, Decidable.not_not, eA, w1]
      exact doneG rfl
theorem vFew_calls (l : List Ver) (c : Option Nat) (hl : l.length < 2 ^ 63) : PCalls Try.prog F_law07_Few [.fz 7 (l.map vv) c] (.bool (fewL 0 l)) := by
  refine calls_law07_Few (walk0 100 trivial (fun A eA => ?_))
  simp (disch := first | omega | (simp only [avs_len, List.length_cons, List.length_append, List.length_nil, List.length_take, List.length_drop, List.length_map]; omega)) only [c_law07_Few, wl_law07_Few_0, s_law07_Few_0, c_law07_Few_l0, wb_law07_Few_0, c_law07_Few_k0, ↓advStep, ↓execK, ↓opK, ↓binK, ↓intK, ↓strK, evs, ev, getT, setT, put, List.replicate, List.cons_append, List.nil_append, List.length_cons, List.length_nil, ↓mapK, ↓frzK_sl, ↓frzK_agg, ↓frzK_tup, ↓frzK_ifc, ↓frzK_func, ↓frzK_int, ↓frzK_bool, ↓frzK_str, ↓frzK_nilp, ↓frzK_nils, ↓frzK_nilm, ↓frzK_nilf, ↓frzK_nili, ↓frzK_fz, ↓frzK_any, ↓frzK_ptr, ↓frzK_ro, ↓getB, setB, kill, killM, dropK, keysOf, capOf_nn, zeroC, bump, frzT, thaw, gets, putAll, ↓getsK, ↓getR, ↓retK, retv, find, cells, ↓nilpK, ↓nilsK, ↓nilfK, ↓niliK, ↓bndK, ↓cutK, ↓fillK, ↓exitK, List.append_nil, List.drop, List.take, Nat.reduceAdd, Nat.reduceSub, Nat.reduceMul, Nat.reduceLT, Nat.reduceLeDiff, Nat.zero_add, Nat.add_zero, Nat.mul_one, Int.reduceToNat, Nat.reduceEqDiff, Nat.succ_ne_self, Nat.le_refl, Nat.one_ne_zero, Nat.reduceBEq, Nat.lt_irrefl, List.length_append, Int.toNat_zero, Int.toNat_one, List.take_zero, List.drop_zero, Nat.zero_mul, sel, rest, keyIn, ↓reduceIte, ↓if_pos, ↓if_neg, reduceCtorEq, Bool.not_true, Bool.not_false, Bool.false_eq_true, Bool.true_eq_false, and_self, and_true, true_and, false_and, and_false, decide_true, decide_false, decide_eq_true, decide_eq_false, decide_eq_true_eq, decide_eq_false_iff_not, Bool.not_eq_true, Bool.not_eq_false, Bool.not_eq_eq_eq_not, Decidable.not_not, eA, List.length_map]
  exact few_loop l c hl l [] rfl zeroC
end Go.Proofs.Ytmokhopjnjecbab
/- The law QueuePlays: what is asked behind each act. -/
-- short
-- fuel 300
namespace Go.Proofs.Ytmokhopjnjecbab
open Go.Ev
set_option linter.unusedVariables false
set_option linter.unusedSimpArgs false
set_option maxRecDepth 100000
set_option maxHeartbeats 3200000
theorem awake11_calls : PCalls Try.prog F_law11_awake [] (.bool true) :=
  evalF_calls (T := tabOf tab_CdQueue) (n := 300) tok_CdQueue (by kernel_rfl)
structure QAct where
  pop : Bool
  tok : Int
  v : Ver
abbrev qav (x : QAct) : AV := .agg (.bool x.pop :: .int .i64 x.tok :: vcs x.v)
abbrev qacts (L : List QAct) : AV := .fz 9 (L.map qav) none
abbrev qI : List It := [.c c_law11_QueuePlays_k0, .blk 1 wb_law11_QueuePlays_1, .c c_law11_QueuePlays_k1, .lp wl_law11_QueuePlays_0 c_law11_QueuePlays_l0, .blk 0 wb_law11_QueuePlays_0]
abbrev qK : List It := [.c c_law11_QueuePlays_k2]
/-- The law's loop, so many acts done, the queue so. -/
abbrev QLoop (L : List QAct) (key : ByteArray) (i : Nat) (l : List Ver) (nx : Ctr) : Prop :=
  RunsX Try.prog 0 (Gives [.t 4] (.bool true)) (i_law11_QueuePlays_0 ++ qK) (s_law11_QueuePlays_0 (qacts L) (.str key) (.ptr 0 5 0 0) (qv l) (.int .i64 (L.length : Nat)) (.int .i64 (i : Nat))) (qH l) nx
theorem qhas_snoc (pre : List Ver) (v : Ver) (key : ByteArray) : qhas (pre ++ [v]) key = (qhas pre key || (v.key.toList == key.toList)) := by
  simp only [qhas, List.any_append, List.any_cons, List.any_nil, Bool.or_false]
theorem has_loop (L : List QAct) (key : ByteArray) (i : Nat) (l : List Ver) (hl : l.length ≤ 16) (e1 e2 : AV) : ∀ (post pre : List Ver), l = pre ++ post → ∀ nx : Ctr,
    (∀ nx, RunsX Try.prog 0 (Gives [.t 4] (.bool true)) (qI ++ qK) (e_law11_QueuePlays_3 (qacts L) (.str key) (.ptr 0 5 0 0) (qv l) e1 e2 (.bool (qhas l key)) (.int .i64 (L.length : Nat)) (.int .i64 (i : Nat))) (qH l) nx) →
    RunsX Try.prog 0 (Gives [.t 4] (.bool true)) (i_law11_QueuePlays_3 ++ (qI ++ qK)) (s_law11_QueuePlays_3 (qacts L) (.str key) (.ptr 0 5 0 0) (qv l) e1 e2 (.bool (qhas pre key)) (.int .i64 (L.length : Nat)) (.int .i64 (i : Nat)) (.int .i64 (l.length : Nat)) (.int .i64 (pre.length : Nat))) (qH l) nx := by
  intro post
  induction post with
  | nil =>
    intro pre h1 nx h
    rw [List.append_nil] at h1
    subst h1
    refine round (its := [.blk 3 wb_law11_QueuePlays_3]) (k0 := qI ++ qK) 300 trivial trivial (fun A eA => ?_)
    simp (disch := first | omega | (simp only [avs_len, List.length_cons, List.length_append, List.length_nil, List.length_take, List.length_drop, List.length_map]; omega) | (simp only [cells, scal1, allSz, List.length_cons, List.length_nil, List.length_append, List.length_map, List.all_cons, List.all_nil, avs_len, beq_self_eq_true, Bool.and_self, and_self, or_true, true_or, reduceCtorEq, *]; done) | fail) only [c_law11_QueuePlays, wl_law11_QueuePlays_3, s_law11_QueuePlays_3, c_law11_QueuePlays_l3, wb_law11_QueuePlays_3, c_law11_QueuePlays_k0, wb_law11_QueuePlays_1, c_law11_QueuePlays_k1, wl_law11_QueuePlays_0, s_law11_QueuePlays_0, c_law11_QueuePlays_l0, wb_law11_QueuePlays_0, c_law11_QueuePlays_k2, go_sem, Nat.reduceAdd, Nat.reduceSub, Nat.reduceMul, Nat.reduceLT, Nat.reduceLeDiff, Int.reduceToNat, Nat.reduceEqDiff, Nat.reduceBEq, ↓reduceIte, reduceCtorEq, eA, scal1]
    exact h _
  | cons v post ih =>
    intro pre h1 nx h
    have hlt : pre.length < l.length := by rw [h1]; simp
    have hih := fun nx => ih (pre ++ [v]) (by rw [h1]; simp) nx h
    rw [show (pre ++ [v]).length = pre.length + 1 by simp, qhas_snoc] at hih
    have g0 : (l.map vv)[((pre.length : Nat) : Int).toNat]? = some (vv v) := by
      rw [Int.toNat_natCast, h1, List.getElem?_map, List.getElem?_append_right (Nat.le_refl _), Nat.sub_self]; rfl
    have w1 : IntKind.i64.wrap ((pre.length : Int) + 1) = ((pre.length + 1 : Nat) : Int) := by rw [wrap64 (by omega) (by omega)]; omega
    refine round (its := [.blk 3 wb_law11_QueuePlays_3]) (k0 := qI ++ qK) 300 trivial trivial (fun A eA => ?_)
    cases hq : qhas pre key with
    | true =>
      rw [hq, Bool.true_or] at hih
      simp (disch := first | omega | (simp only [avs_len, List.length_cons, List.length_append, List.length_nil, List.length_take, List.length_drop, List.length_map]; omega) | (simp only [cells, scal1, allSz, List.length_cons, List.length_nil, List.length_append, List.length_map, List.all_cons, List.all_nil, avs_len, beq_self_eq_true, Bool.and_self, and_self, or_true, true_or, reduceCtorEq, *]; done) | fail) only [c_law11_QueuePlays, wl_law11_QueuePlays_3, s_law11_QueuePlays_3, c_law11_QueuePlays_l3, wb_law11_QueuePlays_3, c_law11_QueuePlays_k0, wb_law11_QueuePlays_1, c_law11_QueuePlays_k1, wl_law11_QueuePlays_0, s_law11_QueuePlays_0, c_law11_QueuePlays_l0, wb_law11_QueuePlays_0, c_law11_QueuePlays_k2, go_sem, Nat.reduceAdd, Nat.reduceSub, Nat.reduceMul, Nat.reduceLT, Nat.reduceLeDiff, Int.reduceToNat, Nat.reduceEqDiff, Nat.reduceBEq, ↓reduceIte, reduceCtorEq, eA, scal1, ↓optI_of g0, w1, List.all_cons, List.all_nil]
      exact hih _
    | false =>
      rw [hq, Bool.false_or] at hih
      simp (disch := first | omega | (simp only [avs_len, List.length_cons, List.length_append, List.length_nil, List.length_take, List.length_drop, List.length_map]; omega) | (simp only [cells, scal1, allSz, List.length_cons, List.length_nil, List.length_append, List.length_map, List.all_cons, List.all_nil, avs_len, beq_self_eq_true, Bool.and_self, and_self, or_true, true_or, reduceCtorEq, *]; done) | fail) only [c_law11_QueuePlays, wl_law11_QueuePlays_3, s_law11_QueuePlays_3, c_law11_QueuePlays_l3, wb_law11_QueuePlays_3, c_law11_QueuePlays_k0, wb_law11_QueuePlays_1, c_law11_QueuePlays_k1, wl_law11_QueuePlays_0, s_law11_QueuePlays_0, c_law11_QueuePlays_l0, wb_law11_QueuePlays_0, c_law11_QueuePlays_k2, go_sem, Nat.reduceAdd, Nat.reduceSub, Nat.reduceMul, Nat.reduceLT, Nat.reduceLeDiff, Int.reduceToNat, Nat.reduceEqDiff, Nat.reduceBEq, ↓reduceIte, reduceCtorEq, eA, scal1, ↓optI_of g0, w1, List.all_cons, List.all_nil]
      exact hih _
theorem qtail_0 (L : List QAct) (key : ByteArray) (i : Nat) (hi : i < 1000) (e : Int) (h : ∀ nx, QLoop L key (i + 1) [] nx) (nx : Ctr) :
    RunsX Try.prog 0 (Gives [.t 4] (.bool true)) (qI ++ qK) (e_law11_QueuePlays_3 (qacts L) (.str key) (.ptr 0 5 0 0) (qv []) (.int .i64 e) (.int .i64 e) (.bool (qhas [] key)) (.int .i64 (L.length : Nat)) (.int .i64 (i : Nat))) (qH []) nx := by
  have hvn : ∀ v ∈ ([] : List Ver), XRt v.event := fun v hv => by cases hv
  have c1 := fun nx => qall_h [] (by decide) hvn 0 5 0 nx
  have c2 := qall_ro [] (by decide) hvn
  have c3 := fun nx => qclone_h [] (by decide) hvn 0 5 0 nx
  have c4 := fun nx => qlen_h [] 0 5 0 nx
  have c5 := fun nx => qhas_h [] (by decide) key 0 5 0 nx
  have c6 := vsameall_calls (l := []) (by decide) (fun v hv => by cases hv)
  have w1 : IntKind.i64.wrap ((i : Int) + 1) = ((i + 1 : Nat) : Int) := by rw [wrap64 (by omega) (by omega)]; omega
  obtain ⟨nx1, c0⟩ := qfirst_0 nx
  generalize qhas [] key = b at *
  refine walk (its := [.c c_law11_QueuePlays_k0, .blk 1 wb_law11_QueuePlays_1, .c c_law11_QueuePlays_k1, .lp wl_law11_QueuePlays_0 c_law11_QueuePlays_l0, .blk 0 wb_law11_QueuePlays_0]) (k0 := qK) 300 trivial trivial (fun A eA => ?_)
  simp (disch := first | omega | (simp only [avs_len, List.length_cons, List.length_append, List.length_nil, List.length_take, List.length_drop, List.length_map]; omega) | (simp only [cells, scal1, allSz, List.length_cons, List.length_nil, List.length_append, List.length_map, List.all_cons, List.all_nil, avs_len, beq_self_eq_true, Bool.and_self, and_self, or_true, true_or, reduceCtorEq, *]; done) | fail) only [c_law11_QueuePlays, wl_law11_QueuePlays_3, s_law11_QueuePlays_3, c_law11_QueuePlays_l3, wb_law11_QueuePlays_3, c_law11_QueuePlays_k0, wb_law11_QueuePlays_1, c_law11_QueuePlays_k1, wl_law11_QueuePlays_0, s_law11_QueuePlays_0, c_law11_QueuePlays_l0, wb_law11_QueuePlays_0, c_law11_QueuePlays_k2, go_sem, Nat.reduceAdd, Nat.reduceSub, Nat.reduceMul, Nat.reduceLT, Nat.reduceLeDiff, Int.reduceToNat, Nat.reduceEqDiff, Nat.reduceBEq, ↓reduceIte, reduceCtorEq, eA, scal1]
  refine call2 300 trivial trivial [(0, 5)] rfl rfl c0 (.inl rfl) (fun A eA => ?_)
  simp (disch := first | omega | (simp only [avs_len, List.length_cons, List.length_append, List.length_nil, List.length_take, List.length_drop, List.length_map]; omega) | (simp only [cells, scal1, allSz, List.length_cons, List.length_nil, List.length_append, List.length_map, List.all_cons, List.all_nil, avs_len, beq_self_eq_true, Bool.and_self, and_self, or_true, true_or, reduceCtorEq, *]; done) | fail) only [c_law11_QueuePlays, wl_law11_QueuePlays_3, s_law11_QueuePlays_3, c_law11_QueuePlays_l3, wb_law11_QueuePlays_3, c_law11_QueuePlays_k0, wb_law11_QueuePlays_1, c_law11_QueuePlays_k1, wl_law11_QueuePlays_0, s_law11_QueuePlays_0, c_law11_QueuePlays_l0, wb_law11_QueuePlays_0, c_law11_QueuePlays_k2, go_sem, Nat.reduceAdd, Nat.reduceSub, Nat.reduceMul, Nat.reduceLT, Nat.reduceLeDiff, Int.reduceToNat, Nat.reduceEqDiff, Nat.reduceBEq, ↓reduceIte, reduceCtorEq, eA, scal1, List.all_cons, List.all_nil]
  refine call2 300 trivial trivial [(0, 5)] rfl rfl (c1 _) (.inr ⟨rfl, rfl⟩) (fun A eA => ?_)
  simp (disch := first | omega | (simp only [avs_len, List.length_cons, List.length_append, List.length_nil, List.length_take, List.length_drop, List.length_map]; omega) | (simp only [cells, scal1, allSz, List.length_cons, List.length_nil, List.length_append, List.length_map, List.all_cons, List.all_nil, avs_len, beq_self_eq_true, Bool.and_self, and_self, or_true, true_or, reduceCtorEq, *]; done) | fail) only [c_law11_QueuePlays, wl_law11_QueuePlays_3, s_law11_QueuePlays_3, c_law11_QueuePlays_l3, wb_law11_QueuePlays_3, c_law11_QueuePlays_k0, wb_law11_QueuePlays_1, c_law11_QueuePlays_k1, wl_law11_QueuePlays_0, s_law11_QueuePlays_0, c_law11_QueuePlays_l0, wb_law11_QueuePlays_0, c_law11_QueuePlays_k2, go_sem, Nat.reduceAdd, Nat.reduceSub, Nat.reduceMul, Nat.reduceLT, Nat.reduceLeDiff, Int.reduceToNat, Nat.reduceEqDiff, Nat.reduceBEq, ↓reduceIte, reduceCtorEq, eA, scal1]
  refine call0 300 trivial trivial c6 (.inl rfl) (fun A eA => ?_)
  simp (disch := first | omega | (simp only [avs_len, List.length_cons, List.length_append, List.length_nil, List.length_take, List.length_drop, List.length_map]; omega) | (simp only [cells, scal1, allSz, List.length_cons, List.length_nil, List.length_append, List.length_map, List.all_cons, List.all_nil, avs_len, beq_self_eq_true, Bool.and_self, and_self, or_true, true_or, reduceCtorEq, *]; done) | fail) only [c_law11_QueuePlays, wl_law11_QueuePlays_3, s_law11_QueuePlays_3, c_law11_QueuePlays_l3, wb_law11_QueuePlays_3, c_law11_QueuePlays_k0, wb_law11_QueuePlays_1, c_law11_QueuePlays_k1, wl_law11_QueuePlays_0, s_law11_QueuePlays_0, c_law11_QueuePlays_l0, wb_law11_QueuePlays_0, c_law11_QueuePlays_k2, go_sem, Nat.reduceAdd, Nat.reduceSub, Nat.reduceMul, Nat.reduceLT, Nat.reduceLeDiff, Int.reduceToNat, Nat.reduceEqDiff, Nat.reduceBEq, ↓reduceIte, reduceCtorEq, eA, scal1]
  refine call2 300 trivial trivial [(0, 5)] rfl rfl (c4 _) (.inr ⟨rfl, rfl⟩) (fun A eA => ?_)
  simp (disch := first | omega | (simp only [avs_len, List.length_cons, List.length_append, List.length_nil, List.length_take, List.length_drop, List.length_map]; omega) | (simp only [cells, scal1, allSz, List.length_cons, List.length_nil, List.length_append, List.length_map, List.all_cons, List.all_nil, avs_len, beq_self_eq_true, Bool.and_self, and_self, or_true, true_or, reduceCtorEq, *]; done) | fail) only [c_law11_QueuePlays, wl_law11_QueuePlays_3, s_law11_QueuePlays_3, c_law11_QueuePlays_l3, wb_law11_QueuePlays_3, c_law11_QueuePlays_k0, wb_law11_QueuePlays_1, c_law11_QueuePlays_k1, wl_law11_QueuePlays_0, s_law11_QueuePlays_0, c_law11_QueuePlays_l0, wb_law11_QueuePlays_0, c_law11_QueuePlays_k2, go_sem, Nat.reduceAdd, Nat.reduceSub, Nat.reduceMul, Nat.reduceLT, Nat.reduceLeDiff, Int.reduceToNat, Nat.reduceEqDiff, Nat.reduceBEq, ↓reduceIte, reduceCtorEq, eA, scal1, List.length_map, List.map_nil]
  refine call2 300 trivial trivial [(0, 5)] rfl rfl (c5 _) (.inr ⟨rfl, rfl⟩) (fun A eA => ?_)
  simp (disch := first | omega | (simp only [avs_len, List.length_cons, List.length_append, List.length_nil, List.length_take, List.length_drop, List.length_map]; omega) | (simp only [cells, scal1, allSz, List.length_cons, List.length_nil, List.length_append, List.length_map, List.all_cons, List.all_nil, avs_len, beq_self_eq_true, Bool.and_self, and_self, or_true, true_or, reduceCtorEq, *]; done) | fail) only [c_law11_QueuePlays, wl_law11_QueuePlays_3, s_law11_QueuePlays_3, c_law11_QueuePlays_l3, wb_law11_QueuePlays_3, c_law11_QueuePlays_k0, wb_law11_QueuePlays_1, c_law11_QueuePlays_k1, wl_law11_QueuePlays_0, s_law11_QueuePlays_0, c_law11_QueuePlays_l0, wb_law11_QueuePlays_0, c_law11_QueuePlays_k2, go_sem, Nat.reduceAdd, Nat.reduceSub, Nat.reduceMul, Nat.reduceLT, Nat.reduceLeDiff, Int.reduceToNat, Nat.reduceEqDiff, Nat.reduceBEq, ↓reduceIte, reduceCtorEq, eA, scal1, beq_self_eq_true]
  refine call2 300 trivial trivial [(0, 5)] rfl rfl (c3 _) (.inr ⟨rfl, rfl⟩) (fun A eA => ?_)
  simp (disch := first | omega | (simp only [avs_len, List.length_cons, List.length_append, List.length_nil, List.length_take, List.length_drop, List.length_map]; omega) | (simp only [cells, scal1, allSz, List.length_cons, List.length_nil, List.length_append, List.length_map, List.all_cons, List.all_nil, avs_len, beq_self_eq_true, Bool.and_self, and_self, or_true, true_or, reduceCtorEq, *]; done) | fail) only [c_law11_QueuePlays, wl_law11_QueuePlays_3, s_law11_QueuePlays_3, c_law11_QueuePlays_l3, wb_law11_QueuePlays_3, c_law11_QueuePlays_k0, wb_law11_QueuePlays_1, c_law11_QueuePlays_k1, wl_law11_QueuePlays_0, s_law11_QueuePlays_0, c_law11_QueuePlays_l0, wb_law11_QueuePlays_0, c_law11_QueuePlays_k2, go_sem, Nat.reduceAdd, Nat.reduceSub, Nat.reduceMul, Nat.reduceLT, Nat.reduceLeDiff, Int.reduceToNat, Nat.reduceEqDiff, Nat.reduceBEq, ↓reduceIte, reduceCtorEq, eA, scal1]
  refine call2 300 trivial trivial [] rfl rfl (c2.h _ rfl) (.inr ⟨rfl, rfl⟩) (fun A eA => ?_)
  simp (disch := first | omega | (simp only [avs_len, List.length_cons, List.length_append, List.length_nil, List.length_take, List.length_drop, List.length_map]; omega) | (simp only [cells, scal1, allSz, List.length_cons, List.length_nil, List.length_append, List.length_map, List.all_cons, List.all_nil, avs_len, beq_self_eq_true, Bool.and_self, and_self, or_true, true_or, reduceCtorEq, *]; done) | fail) only [c_law11_QueuePlays, wl_law11_QueuePlays_3, s_law11_QueuePlays_3, c_law11_QueuePlays_l3, wb_law11_QueuePlays_3, c_law11_QueuePlays_k0, wb_law11_QueuePlays_1, c_law11_QueuePlays_k1, wl_law11_QueuePlays_0, s_law11_QueuePlays_0, c_law11_QueuePlays_l0, wb_law11_QueuePlays_0, c_law11_QueuePlays_k2, go_sem, Nat.reduceAdd, Nat.reduceSub, Nat.reduceMul, Nat.reduceLT, Nat.reduceLeDiff, Int.reduceToNat, Nat.reduceEqDiff, Nat.reduceBEq, ↓reduceIte, reduceCtorEq, eA, scal1]
  refine call0 300 trivial trivial c6 (.inl rfl) (fun A eA => ?_)
  simp (disch := first | omega | (simp only [avs_len, List.length_cons, List.length_append, List.length_nil, List.length_take, List.length_drop, List.length_map]; omega) | (simp only [cells, scal1, allSz, List.length_cons, List.length_nil, List.length_append, List.length_map, List.all_cons, List.all_nil, avs_len, beq_self_eq_true, Bool.and_self, and_self, or_true, true_or, reduceCtorEq, *]; done) | fail) only [c_law11_QueuePlays, wl_law11_QueuePlays_3, s_law11_QueuePlays_3, c_law11_QueuePlays_l3, wb_law11_QueuePlays_3, c_law11_QueuePlays_k0, wb_law11_QueuePlays_1, c_law11_QueuePlays_k1, wl_law11_QueuePlays_0, s_law11_QueuePlays_0, c_law11_QueuePlays_l0, wb_law11_QueuePlays_0, c_law11_QueuePlays_k2, go_sem, Nat.reduceAdd, Nat.reduceSub, Nat.reduceMul, Nat.reduceLT, Nat.reduceLeDiff, Int.reduceToNat, Nat.reduceEqDiff, Nat.reduceBEq, ↓reduceIte, reduceCtorEq, eA, scal1, w1, List.map_nil]
  exact h _
theorem qtail_1 (L : List QAct) (key : ByteArray) (i : Nat) (hi : i < 1000) (e : Int) (v : Ver) (l : List Ver) (hl : (v :: l).length ≤ 16) (hv : ∀ u ∈ v :: l, VRt u) (h : ∀ nx, QLoop L key (i + 1) (v :: l) nx) (nx : Ctr) :
    RunsX Try.prog 0 (Gives [.t 4] (.bool true)) (qI ++ qK) (e_law11_QueuePlays_3 (qacts L) (.str key) (.ptr 0 5 0 0) (qv (v :: l)) (.int .i64 e) (.int .i64 e) (.bool (qhas (v :: l) key)) (.int .i64 (L.length : Nat)) (.int .i64 (i : Nat))) (qH (v :: l)) nx := by
  have hvn : ∀ u ∈ v :: l, XRt u.event := fun u hu => (hv u hu).2.2.2.2.2.2.2.2.1
  have hle : (v :: l).length ≤ 1000 := by omega
  have c1 := fun nx => qall_h (v :: l) hle hvn 0 5 0 nx
  have c2 := qall_ro (v :: l) hle hvn
  have c3 := fun nx => qclone_h (v :: l) hle hvn 0 5 0 nx
  have c4 := fun nx => qlen_h (v :: l) 0 5 0 nx
  have c5 := fun nx => qhas_h (v :: l) hle key 0 5 0 nx
  have c6 := vsameall_calls (l := v :: l) hle hv
  have c7 := vsame_self (hv v (List.mem_cons_self ..))
  have w1 : IntKind.i64.wrap ((i : Int) + 1) = ((i + 1 : Nat) : Int) := by rw [wrap64 (by omega) (by omega)]; omega
  have g0 : ((v :: l).map vv)[((0 : Int)).toNat]? = some (vv v) := rfl
  have hlen : (v :: l).length = l.length + 1 := rfl
  obtain ⟨nx1, c0⟩ := qfirst_1 v l (hvn v (List.mem_cons_self ..)) nx
  generalize qhas (v :: l) key = b at *
  refine walk (its := [.c c_law11_QueuePlays_k0, .blk 1 wb_law11_QueuePlays_1, .c c_law11_QueuePlays_k1, .lp wl_law11_QueuePlays_0 c_law11_QueuePlays_l0, .blk 0 wb_law11_QueuePlays_0]) (k0 := qK) 300 trivial trivial (fun A eA => ?_)
  simp (disch := first | omega | (simp only [avs_len, List.length_cons, List.length_append, List.length_nil, List.length_take, List.length_drop, List.length_map]; omega) | (simp only [cells, scal1, allSz, List.length_cons, List.length_nil, List.length_append, List.length_map, List.all_cons, List.all_nil, avs_len, beq_self_eq_true, Bool.and_self, and_self, or_true, true_or, reduceCtorEq, *]; done) | fail) only [c_law11_QueuePlays, wl_law11_QueuePlays_3, s_law11_QueuePlays_3, c_law11_QueuePlays_l3, wb_law11_QueuePlays_3, c_law11_QueuePlays_k0, wb_law11_QueuePlays_1, c_law11_QueuePlays_k1, wl_law11_QueuePlays_0, s_law11_QueuePlays_0, c_law11_QueuePlays_l0, wb_law11_QueuePlays_0, c_law11_QueuePlays_k2, go_sem, Nat.reduceAdd, Nat.reduceSub, Nat.reduceMul, Nat.reduceLT, Nat.reduceLeDiff, Int.reduceToNat, Nat.reduceEqDiff, Nat.reduceBEq, ↓reduceIte, reduceCtorEq, eA, scal1]
  refine call2 300 trivial trivial [(0, 5)] rfl rfl c0 (.inl rfl) (fun A eA => ?_)
  simp (disch := first | omega | (simp only [avs_len, List.length_cons, List.length_append, List.length_nil, List.length_take, List.length_drop, List.length_map]; omega) | (simp only [cells, scal1, allSz, List.length_cons, List.length_nil, List.length_append, List.length_map, List.all_cons, List.all_nil, avs_len, beq_self_eq_true, Bool.and_self, and_self, or_true, true_or, reduceCtorEq, *]; done) | fail) only [c_law11_QueuePlays, wl_law11_QueuePlays_3, s_law11_QueuePlays_3, c_law11_QueuePlays_l3, wb_law11_QueuePlays_3, c_law11_QueuePlays_k0, wb_law11_QueuePlays_1, c_law11_QueuePlays_k1, wl_law11_QueuePlays_0, s_law11_QueuePlays_0, c_law11_QueuePlays_l0, wb_law11_QueuePlays_0, c_law11_QueuePlays_k2, go_sem, Nat.reduceAdd, Nat.reduceSub, Nat.reduceMul, Nat.reduceLT, Nat.reduceLeDiff, Int.reduceToNat, Nat.reduceEqDiff, Nat.reduceBEq, ↓reduceIte, reduceCtorEq, eA, scal1, List.all_cons, List.all_nil]
  refine call2 300 trivial trivial [(0, 5)] rfl rfl (c1 _) (.inr ⟨rfl, rfl⟩) (fun A eA => ?_)
  simp (disch := first | omega | (simp only [avs_len, List.length_cons, List.length_append, List.length_nil, List.length_take, List.length_drop, List.length_map]; omega) | (simp only [cells, scal1, allSz, List.length_cons, List.length_nil, List.length_append, List.length_map, List.all_cons, List.all_nil, avs_len, beq_self_eq_true, Bool.and_self, and_self, or_true, true_or, reduceCtorEq, *]; done) | fail) only [c_law11_QueuePlays, wl_law11_QueuePlays_3, s_law11_QueuePlays_3, c_law11_QueuePlays_l3, wb_law11_QueuePlays_3, c_law11_QueuePlays_k0, wb_law11_QueuePlays_1, c_law11_QueuePlays_k1, wl_law11_QueuePlays_0, s_law11_QueuePlays_0, c_law11_QueuePlays_l0, wb_law11_QueuePlays_0, c_law11_QueuePlays_k2, go_sem, Nat.reduceAdd, Nat.reduceSub, Nat.reduceMul, Nat.reduceLT, Nat.reduceLeDiff, Int.reduceToNat, Nat.reduceEqDiff, Nat.reduceBEq, ↓reduceIte, reduceCtorEq, eA, scal1]
  refine call0 300 trivial trivial c6 (.inl rfl) (fun A eA => ?_)
  simp (disch := first | omega | (simp only [avs_len, List.length_cons, List.length_append, List.length_nil, List.length_take, List.length_drop, List.length_map]; omega) | (simp only [cells, scal1, allSz, List.length_cons, List.length_nil, List.length_append, List.length_map, List.all_cons, List.all_nil, avs_len, beq_self_eq_true, Bool.and_self, and_self, or_true, true_or, reduceCtorEq, *]; done) | fail) only [c_law11_QueuePlays, wl_law11_QueuePlays_3, s_law11_QueuePlays_3, c_law11_QueuePlays_l3, wb_law11_QueuePlays_3, c_law11_QueuePlays_k0, wb_law11_QueuePlays_1, c_law11_QueuePlays_k1, wl_law11_QueuePlays_0, s_law11_QueuePlays_0, c_law11_QueuePlays_l0, wb_law11_QueuePlays_0, c_law11_QueuePlays_k2, go_sem, Nat.reduceAdd, Nat.reduceSub, Nat.reduceMul, Nat.reduceLT, Nat.reduceLeDiff, Int.reduceToNat, Nat.reduceEqDiff, Nat.reduceBEq, ↓reduceIte, reduceCtorEq, eA, scal1]
  refine call2 300 trivial trivial [(0, 5)] rfl rfl (c4 _) (.inr ⟨rfl, rfl⟩) (fun A eA => ?_)
  simp (disch := first | omega | (simp only [avs_len, List.length_cons, List.length_append, List.length_nil, List.length_take, List.length_drop, List.length_map]; omega) | (simp only [cells, scal1, allSz, List.length_cons, List.length_nil, List.length_append, List.length_map, List.all_cons, List.all_nil, avs_len, beq_self_eq_true, Bool.and_self, and_self, or_true, true_or, reduceCtorEq, *]; done) | fail) only [c_law11_QueuePlays, wl_law11_QueuePlays_3, s_law11_QueuePlays_3, c_law11_QueuePlays_l3, wb_law11_QueuePlays_3, c_law11_QueuePlays_k0, wb_law11_QueuePlays_1, c_law11_QueuePlays_k1, wl_law11_QueuePlays_0, s_law11_QueuePlays_0, c_law11_QueuePlays_l0, wb_law11_QueuePlays_0, c_law11_QueuePlays_k2, go_sem, Nat.reduceAdd, Nat.reduceSub, Nat.reduceMul, Nat.reduceLT, Nat.reduceLeDiff, Int.reduceToNat, Nat.reduceEqDiff, Nat.reduceBEq, ↓reduceIte, reduceCtorEq, eA, scal1, List.length_map]
  refine call2 300 trivial trivial [(0, 5)] rfl rfl (c5 _) (.inr ⟨rfl, rfl⟩) (fun A eA => ?_)
  simp (disch := first | omega | (simp only [avs_len, List.length_cons, List.length_append, List.length_nil, List.length_take, List.length_drop, List.length_map]; omega) | (simp only [cells, scal1, allSz, List.length_cons, List.length_nil, List.length_append, List.length_map, List.all_cons, List.all_nil, avs_len, beq_self_eq_true, Bool.and_self, and_self, or_true, true_or, reduceCtorEq, *]; done) | fail) only [c_law11_QueuePlays, wl_law11_QueuePlays_3, s_law11_QueuePlays_3, c_law11_QueuePlays_l3, wb_law11_QueuePlays_3, c_law11_QueuePlays_k0, wb_law11_QueuePlays_1, c_law11_QueuePlays_k1, wl_law11_QueuePlays_0, s_law11_QueuePlays_0, c_law11_QueuePlays_l0, wb_law11_QueuePlays_0, c_law11_QueuePlays_k2, go_sem, Nat.reduceAdd, Nat.reduceSub, Nat.reduceMul, Nat.reduceLT, Nat.reduceLeDiff, Int.reduceToNat, Nat.reduceEqDiff, Nat.reduceBEq, ↓reduceIte, reduceCtorEq, eA, scal1, beq_self_eq_true]
  refine call2 300 trivial trivial [(0, 5)] rfl rfl (c3 _) (.inr ⟨rfl, rfl⟩) (fun A eA => ?_)
  simp (disch := first | omega | (simp only [avs_len, List.length_cons, List.length_append, List.length_nil, List.length_take, List.length_drop, List.length_map]; omega) | (simp only [cells, scal1, allSz, List.length_cons, List.length_nil, List.length_append, List.length_map, List.all_cons, List.all_nil, avs_len, beq_self_eq_true, Bool.and_self, and_self, or_true, true_or, reduceCtorEq, *]; done) | fail) only [c_law11_QueuePlays, wl_law11_QueuePlays_3, s_law11_QueuePlays_3, c_law11_QueuePlays_l3, wb_law11_QueuePlays_3, c_law11_QueuePlays_k0, wb_law11_QueuePlays_1, c_law11_QueuePlays_k1, wl_law11_QueuePlays_0, s_law11_QueuePlays_0, c_law11_QueuePlays_l0, wb_law11_QueuePlays_0, c_law11_QueuePlays_k2, go_sem, Nat.reduceAdd, Nat.reduceSub, Nat.reduceMul, Nat.reduceLT, Nat.reduceLeDiff, Int.reduceToNat, Nat.reduceEqDiff, Nat.reduceBEq, ↓reduceIte, reduceCtorEq, eA, scal1]
  refine call2 300 trivial trivial [] rfl rfl (c2.h _ rfl) (.inr ⟨rfl, rfl⟩) (fun A eA => ?_)
  simp (disch := first | omega | (simp only [avs_len, List.length_cons, List.length_append, List.length_nil, List.length_take, List.length_drop, List.length_map]; omega) | (simp only [cells, scal1, allSz, List.length_cons, List.length_nil, List.length_append, List.length_map, List.all_cons, List.all_nil, avs_len, beq_self_eq_true, Bool.and_self, and_self, or_true, true_or, reduceCtorEq, *]; done) | fail) only [c_law11_QueuePlays, wl_law11_QueuePlays_3, s_law11_QueuePlays_3, c_law11_QueuePlays_l3, wb_law11_QueuePlays_3, c_law11_QueuePlays_k0, wb_law11_QueuePlays_1, c_law11_QueuePlays_k1, wl_law11_QueuePlays_0, s_law11_QueuePlays_0, c_law11_QueuePlays_l0, wb_law11_QueuePlays_0, c_law11_QueuePlays_k2, go_sem, Nat.reduceAdd, Nat.reduceSub, Nat.reduceMul, Nat.reduceLT, Nat.reduceLeDiff, Int.reduceToNat, Nat.reduceEqDiff, Nat.reduceBEq, ↓reduceIte, reduceCtorEq, eA, scal1]
  refine call0 300 trivial trivial c6 (.inl rfl) (fun A eA => ?_)
  simp (disch := first | omega | (simp only [avs_len, List.length_cons, List.length_append, List.length_nil, List.length_take, List.length_drop, List.length_map]; omega) | (simp only [cells, scal1, allSz, List.length_cons, List.length_nil, List.length_append, List.length_map, List.all_cons, List.all_nil, avs_len, beq_self_eq_true, Bool.and_self, and_self, or_true, true_or, reduceCtorEq, *]; done) | fail) only [c_law11_QueuePlays, wl_law11_QueuePlays_3, s_law11_QueuePlays_3, c_law11_QueuePlays_l3, wb_law11_QueuePlays_3, c_law11_QueuePlays_k0, wb_law11_QueuePlays_1, c_law11_QueuePlays_k1, wl_law11_QueuePlays_0, s_law11_QueuePlays_0, c_law11_QueuePlays_l0, wb_law11_QueuePlays_0, c_law11_QueuePlays_k2, go_sem, Nat.reduceAdd, Nat.reduceSub, Nat.reduceMul, Nat.reduceLT, Nat.reduceLeDiff, Int.reduceToNat, Nat.reduceEqDiff, Nat.reduceBEq, ↓reduceIte, reduceCtorEq, eA, scal1, w1, List.length_map, ↓optI_of g0, List.all_cons, List.all_nil]
  refine call0 300 trivial trivial c7 (.inl rfl) (fun A eA => ?_)
  simp (disch := first | omega | (simp only [avs_len, List.length_cons, List.length_append, List.length_nil, List.length_take, List.length_drop, List.length_map]; omega) | (simp only [cells, scal1, allSz, List.length_cons, List.length_nil, List.length_append, List.length_map, List.all_cons, List.all_nil, avs_len, beq_self_eq_true, Bool.and_self, and_self, or_true, true_or, reduceCtorEq, *]; done) | fail) only [c_law11_QueuePlays, wl_law11_QueuePlays_3, s_law11_QueuePlays_3, c_law11_QueuePlays_l3, wb_law11_QueuePlays_3, c_law11_QueuePlays_k0, wb_law11_QueuePlays_1, c_law11_QueuePlays_k1, wl_law11_QueuePlays_0, s_law11_QueuePlays_0, c_law11_QueuePlays_l0, wb_law11_QueuePlays_0, c_law11_QueuePlays_k2, go_sem, Nat.reduceAdd, Nat.reduceSub, Nat.reduceMul, Nat.reduceLT, Nat.reduceLeDiff, Int.reduceToNat, Nat.reduceEqDiff, Nat.reduceBEq, ↓reduceIte, reduceCtorEq, eA, scal1, w1]
  exact h _
end Go.Proofs.Ytmokhopjnjecbab
/- The law QueuePlays: the rounds of its loop. Printed by a program of mine (quecases.py). -/
-- short
-- fuel 300
namespace Go.Proofs.Ytmokhopjnjecbab
open Go.Ev
set_option linter.unusedVariables false
set_option linter.unusedSimpArgs false
set_option maxRecDepth 100000
set_option maxHeartbeats 3200000
theorem qend (L : List QAct) (key : ByteArray) (l : List Ver) (nx : Ctr) : QLoop L key L.length l nx := by
  refine round (its := [.blk 0 wb_law11_QueuePlays_0]) (k0 := qK) 300 trivial trivial (fun A eA => ?_)
  simp (disch := first | omega | (simp only [avs_len, List.length_cons, List.length_append, List.length_nil, List.length_take, List.length_drop, List.length_map]; omega) | (simp only [cells, scal1, allSz, List.length_cons, List.length_nil, List.length_append, List.length_map, List.all_cons, List.all_nil, avs_len, beq_self_eq_true, Bool.and_self, and_self, or_true, true_or, reduceCtorEq, *]; done) | fail) only [c_law11_QueuePlays, wl_law11_QueuePlays_3, s_law11_QueuePlays_3, c_law11_QueuePlays_l3, wb_law11_QueuePlays_3, c_law11_QueuePlays_k0, wb_law11_QueuePlays_1, c_law11_QueuePlays_k1, wl_law11_QueuePlays_0, s_law11_QueuePlays_0, c_law11_QueuePlays_l0, wb_law11_QueuePlays_0, c_law11_QueuePlays_k2, go_sem, Nat.reduceAdd, Nat.reduceSub, Nat.reduceMul, Nat.reduceLT, Nat.reduceLeDiff, Int.reduceToNat, Nat.reduceEqDiff, Nat.reduceBEq, ↓reduceIte, reduceCtorEq, eA, scal1]
  refine walk0 (its := [.c c_law11_QueuePlays_k2]) 300 trivial (fun A eA => ?_)
  simp (disch := first | omega | (simp only [avs_len, List.length_cons, List.length_append, List.length_nil, List.length_take, List.length_drop, List.length_map]; omega) | (simp only [cells, scal1, allSz, List.length_cons, List.length_nil, List.length_append, List.length_map, List.all_cons, List.all_nil, avs_len, beq_self_eq_true, Bool.and_self, and_self, or_true, true_or, reduceCtorEq, *]; done) | fail) only [c_law11_QueuePlays, wl_law11_QueuePlays_3, s_law11_QueuePlays_3, c_law11_QueuePlays_l3, wb_law11_QueuePlays_3, c_law11_QueuePlays_k0, wb_law11_QueuePlays_1, c_law11_QueuePlays_k1, wl_law11_QueuePlays_0, s_law11_QueuePlays_0, c_law11_QueuePlays_l0, wb_law11_QueuePlays_0, c_law11_QueuePlays_k2, go_sem, Nat.reduceAdd, Nat.reduceSub, Nat.reduceMul, Nat.reduceLT, Nat.reduceLeDiff, Int.reduceToNat, Nat.reduceEqDiff, Nat.reduceBEq, ↓reduceIte, reduceCtorEq, eA, scal1]
  exact doneG rfl
theorem qtail (L : List QAct) (key : ByteArray) (i : Nat) (hi : i < 1000) (e : Int) (l : List Ver) (hl : l.length ≤ 16) (hv : ∀ u ∈ l, VRt u) (h : ∀ nx, QLoop L key (i + 1) l nx) (nx : Ctr) :
    RunsX Try.prog 0 (Gives [.t 4] (.bool true)) (i_law11_QueuePlays_3 ++ (qI ++ qK)) (s_law11_QueuePlays_3 (qacts L) (.str key) (.ptr 0 5 0 0) (qv l) (.int .i64 e) (.int .i64 e) (.bool false) (.int .i64 (L.length : Nat)) (.int .i64 (i : Nat)) (.int .i64 (l.length : Nat)) (.int .i64 0)) (qH l) nx := by
  refine has_loop L key i l hl _ _ l [] rfl nx (fun nx => ?_)
  cases l with
  | nil => exact qtail_0 L key i hi e h nx
  | cons v l => exact qtail_1 L key i hi e v l hl hv h nx
theorem q_few (L pre post : List QAct) (x : QAct) (key : ByteArray) (hL : L = pre ++ x :: post) (hLl : L.length ≤ 80) (hf : fewL 0 [x.v] = false) (l : List Ver) (nx : Ctr) : QLoop L key pre.length (l) nx := by
  have hlt : pre.length < L.length := by rw [hL]; simp
  have g0 : (L.map qav)[((pre.length : Nat) : Int).toNat]? = some (qav x) := by
    rw [Int.toNat_natCast, hL, List.getElem?_map, List.getElem?_append_right (Nat.le_refl _), Nat.sub_self]; rfl
  have cf := vFew_calls [x.v] (some 1) (by show 1 < 2 ^ 63; decide)
  rw [hf] at cf
  simp only [List.map_cons, List.map_nil] at cf
  refine round (its := [.blk 0 wb_law11_QueuePlays_0]) (k0 := qK) 300 trivial trivial (fun A eA => ?_)
  simp (disch := first | omega | (simp only [avs_len, List.length_cons, List.length_append, List.length_nil, List.length_take, List.length_drop, List.length_map]; omega) | (simp only [cells, scal1, allSz, List.length_cons, List.length_nil, List.length_append, List.length_map, List.all_cons, List.all_nil, avs_len, beq_self_eq_true, Bool.and_self, and_self, or_true, true_or, reduceCtorEq, *]; done) | fail) only [c_law11_QueuePlays, wl_law11_QueuePlays_3, s_law11_QueuePlays_3, c_law11_QueuePlays_l3, wb_law11_QueuePlays_3, c_law11_QueuePlays_k0, wb_law11_QueuePlays_1, c_law11_QueuePlays_k1, wl_law11_QueuePlays_0, s_law11_QueuePlays_0, c_law11_QueuePlays_l0, wb_law11_QueuePlays_0, c_law11_QueuePlays_k2, go_sem, Nat.reduceAdd, Nat.reduceSub, Nat.reduceMul, Nat.reduceLT, Nat.reduceLeDiff, Int.reduceToNat, Nat.reduceEqDiff, Nat.reduceBEq, ↓reduceIte, reduceCtorEq, eA, scal1, List.all_cons, List.all_nil, Bool.and_self, ↓optI_of g0, allSz]
  refine call0 300 trivial trivial cf (.inl rfl) (fun A eA => ?_)
  simp (disch := first | omega | (simp only [avs_len, List.length_cons, List.length_append, List.length_nil, List.length_take, List.length_drop, List.length_map]; omega) | (simp only [cells, scal1, allSz, List.length_cons, List.length_nil, List.length_append, List.length_map, List.all_cons, List.all_nil, avs_len, beq_self_eq_true, Bool.and_self, and_self, or_true, true_or, reduceCtorEq, *]; done) | fail) only [c_law11_QueuePlays, wl_law11_QueuePlays_3, s_law11_QueuePlays_3, c_law11_QueuePlays_l3, wb_law11_QueuePlays_3, c_law11_QueuePlays_k0, wb_law11_QueuePlays_1, c_law11_QueuePlays_k1, wl_law11_QueuePlays_0, s_law11_QueuePlays_0, c_law11_QueuePlays_l0, wb_law11_QueuePlays_0, c_law11_QueuePlays_k2, go_sem, Nat.reduceAdd, Nat.reduceSub, Nat.reduceMul, Nat.reduceLT, Nat.reduceLeDiff, Int.reduceToNat, Nat.reduceEqDiff, Nat.reduceBEq, ↓reduceIte, reduceCtorEq, eA, scal1, List.all_cons, List.all_nil, Bool.and_self, ↓optI_of g0]
  exact doneG rfl
theorem q_pop0 (L pre post : List QAct) (x : QAct) (key : ByteArray) (hL : L = pre ++ x :: post) (hLl : L.length ≤ 80) (hf : fewL 0 [x.v] = true) (hp : x.pop = true) (h : ∀ nx, QLoop L key (pre.length + 1) [] nx) (nx : Ctr) : QLoop L key pre.length ([]) nx := by
  have hlt : pre.length < L.length := by rw [hL]; simp
  have g0 : (L.map qav)[((pre.length : Nat) : Int).toNat]? = some (qav x) := by
    rw [Int.toNat_natCast, hL, List.getElem?_map, List.getElem?_append_right (Nat.le_refl _), Nat.sub_self]; rfl
  have cf := vFew_calls [x.v] (some 1) (by show 1 < 2 ^ 63; decide)
  rw [hf] at cf
  simp only [List.map_cons, List.map_nil] at cf
  have hv : ∀ u ∈ ([] : List Ver), VRt u := fun u hu => by cases hu
  refine round (its := [.blk 0 wb_law11_QueuePlays_0]) (k0 := qK) 300 trivial trivial (fun A eA => ?_)
  simp (disch := first | omega | (simp only [avs_len, List.length_cons, List.length_append, List.length_nil, List.length_take, List.length_drop, List.length_map]; omega) | (simp only [cells, scal1, allSz, List.length_cons, List.length_nil, List.length_append, List.length_map, List.all_cons, List.all_nil, avs_len, beq_self_eq_true, Bool.and_self, and_self, or_true, true_or, reduceCtorEq, *]; done) | fail) only [c_law11_QueuePlays, wl_law11_QueuePlays_3, s_law11_QueuePlays_3, c_law11_QueuePlays_l3, wb_law11_QueuePlays_3, c_law11_QueuePlays_k0, wb_law11_QueuePlays_1, c_law11_QueuePlays_k1, wl_law11_QueuePlays_0, s_law11_QueuePlays_0, c_law11_QueuePlays_l0, wb_law11_QueuePlays_0, c_law11_QueuePlays_k2, go_sem, Nat.reduceAdd, Nat.reduceSub, Nat.reduceMul, Nat.reduceLT, Nat.reduceLeDiff, Int.reduceToNat, Nat.reduceEqDiff, Nat.reduceBEq, ↓reduceIte, reduceCtorEq, eA, scal1, List.all_cons, List.all_nil, Bool.and_self, ↓optI_of g0, allSz]
  refine call0 300 trivial trivial cf (.inl rfl) (fun A eA => ?_)
  simp (disch := first | omega | (simp only [avs_len, List.length_cons, List.length_append, List.length_nil, List.length_take, List.length_drop, List.length_map]; omega) | (simp only [cells, scal1, allSz, List.length_cons, List.length_nil, List.length_append, List.length_map, List.all_cons, List.all_nil, avs_len, beq_self_eq_true, Bool.and_self, and_self, or_true, true_or, reduceCtorEq, *]; done) | fail) only [c_law11_QueuePlays, wl_law11_QueuePlays_3, s_law11_QueuePlays_3, c_law11_QueuePlays_l3, wb_law11_QueuePlays_3, c_law11_QueuePlays_k0, wb_law11_QueuePlays_1, c_law11_QueuePlays_k1, wl_law11_QueuePlays_0, s_law11_QueuePlays_0, c_law11_QueuePlays_l0, wb_law11_QueuePlays_0, c_law11_QueuePlays_k2, go_sem, Nat.reduceAdd, Nat.reduceSub, Nat.reduceMul, Nat.reduceLT, Nat.reduceLeDiff, Int.reduceToNat, Nat.reduceEqDiff, Nat.reduceBEq, ↓reduceIte, reduceCtorEq, eA, scal1, List.all_cons, List.all_nil, Bool.and_self, ↓optI_of g0, hp]
  refine call2 300 trivial trivial [(0, 5)] rfl rfl (qpop_0 x.tok _) (.inr ⟨rfl, rfl⟩) (fun A eA => ?_)
  simp (disch := first | omega | (simp only [avs_len, List.length_cons, List.length_append, List.length_nil, List.length_take, List.length_drop, List.length_map]; omega) | (simp only [cells, scal1, allSz, List.length_cons, List.length_nil, List.length_append, List.length_map, List.all_cons, List.all_nil, avs_len, beq_self_eq_true, Bool.and_self, and_self, or_true, true_or, reduceCtorEq, *]; done) | fail) only [c_law11_QueuePlays, wl_law11_QueuePlays_3, s_law11_QueuePlays_3, c_law11_QueuePlays_l3, wb_law11_QueuePlays_3, c_law11_QueuePlays_k0, wb_law11_QueuePlays_1, c_law11_QueuePlays_k1, wl_law11_QueuePlays_0, s_law11_QueuePlays_0, c_law11_QueuePlays_l0, wb_law11_QueuePlays_0, c_law11_QueuePlays_k2, go_sem, Nat.reduceAdd, Nat.reduceSub, Nat.reduceMul, Nat.reduceLT, Nat.reduceLeDiff, Int.reduceToNat, Nat.reduceEqDiff, Nat.reduceBEq, ↓reduceIte, reduceCtorEq, eA, scal1, List.all_cons, List.all_nil, Bool.and_self, ↓optI_of g0, List.map_nil]
  have hh := fun nx => qtail L key pre.length (by omega) 7 [] (by first | exact hl | (simp only [List.length_append, List.length_cons, List.length_nil] at *; omega) | decide) (by first | exact hv | (intro u hu; simp only [List.mem_append, List.mem_cons, List.not_mem_nil, or_false] at hu hv; rcases hu with hu | hu; exact hv u hu; exact hu ▸ hr) | (intro u hu; exact hv u (List.mem_cons_of_mem _ hu))) h nx
  exact hh _
theorem q_popno (L pre post : List QAct) (x : QAct) (key : ByteArray) (hL : L = pre ++ x :: post) (hLl : L.length ≤ 80) (hf : fewL 0 [x.v] = true) (u : Ver) (l : List Ver) (hl : (u :: l).length ≤ 16) (hv : ∀ v ∈ u :: l, VRt v) (hp : x.pop = true) (ht : u.token ≠ x.tok) (h : ∀ nx, QLoop L key (pre.length + 1) (u :: l) nx) (nx : Ctr) : QLoop L key pre.length (u :: l) nx := by
  have hlt : pre.length < L.length := by rw [hL]; simp
  have g0 : (L.map qav)[((pre.length : Nat) : Int).toNat]? = some (qav x) := by
    rw [Int.toNat_natCast, hL, List.getElem?_map, List.getElem?_append_right (Nat.le_refl _), Nat.sub_self]; rfl
  have cf := vFew_calls [x.v] (some 1) (by show 1 < 2 ^ 63; decide)
  rw [hf] at cf
  simp only [List.map_cons, List.map_nil] at cf
  have g1 : ((u :: l).map vv)[((0 : Int)).toNat]? = some (vv u) := rfl
  have hp2 : ¬ (((l.length + 1 : Nat) : Int) = 0) := by omega
  have hll : (l.map vv).length = l.length := by simp
  refine round (its := [.blk 0 wb_law11_QueuePlays_0]) (k0 := qK) 300 trivial trivial (fun A eA => ?_)
  simp (disch := first | omega | (simp only [avs_len, List.length_cons, List.length_append, List.length_nil, List.length_take, List.length_drop, List.length_map]; omega) | (simp only [cells, scal1, allSz, List.length_cons, List.length_nil, List.length_append, List.length_map, List.all_cons, List.all_nil, avs_len, beq_self_eq_true, Bool.and_self, and_self, or_true, true_or, reduceCtorEq, *]; done) | fail) only [c_law11_QueuePlays, wl_law11_QueuePlays_3, s_law11_QueuePlays_3, c_law11_QueuePlays_l3, wb_law11_QueuePlays_3, c_law11_QueuePlays_k0, wb_law11_QueuePlays_1, c_law11_QueuePlays_k1, wl_law11_QueuePlays_0, s_law11_QueuePlays_0, c_law11_QueuePlays_l0, wb_law11_QueuePlays_0, c_law11_QueuePlays_k2, go_sem, Nat.reduceAdd, Nat.reduceSub, Nat.reduceMul, Nat.reduceLT, Nat.reduceLeDiff, Int.reduceToNat, Nat.reduceEqDiff, Nat.reduceBEq, ↓reduceIte, reduceCtorEq, eA, scal1, List.all_cons, List.all_nil, Bool.and_self, ↓optI_of g0, allSz]
  refine call0 300 trivial trivial cf (.inl rfl) (fun A eA => ?_)
  simp (disch := first | omega | (simp only [avs_len, List.length_cons, List.length_append, List.length_nil, List.length_take, List.length_drop, List.length_map]; omega) | (simp only [cells, scal1, allSz, List.length_cons, List.length_nil, List.length_append, List.length_map, List.all_cons, List.all_nil, avs_len, beq_self_eq_true, Bool.and_self, and_self, or_true, true_or, reduceCtorEq, *]; done) | fail) only [c_law11_QueuePlays, wl_law11_QueuePlays_3, s_law11_QueuePlays_3, c_law11_QueuePlays_l3, wb_law11_QueuePlays_3, c_law11_QueuePlays_k0, wb_law11_QueuePlays_1, c_law11_QueuePlays_k1, wl_law11_QueuePlays_0, s_law11_QueuePlays_0, c_law11_QueuePlays_l0, wb_law11_QueuePlays_0, c_law11_QueuePlays_k2, go_sem, Nat.reduceAdd, Nat.reduceSub, Nat.reduceMul, Nat.reduceLT, Nat.reduceLeDiff, Int.reduceToNat, Nat.reduceEqDiff, Nat.reduceBEq, ↓reduceIte, reduceCtorEq, eA, scal1, List.all_cons, List.all_nil, Bool.and_self, ↓optI_of g0, hp]
  refine call2 300 trivial trivial [(0, 5)] rfl rfl (qpop_no u l x.tok ht _) (.inr ⟨rfl, rfl⟩) (fun A eA => ?_)
  simp (disch := first | omega | (simp only [avs_len, List.length_cons, List.length_append, List.length_nil, List.length_take, List.length_drop, List.length_map]; omega) | (simp only [cells, scal1, allSz, List.length_cons, List.length_nil, List.length_append, List.length_map, List.all_cons, List.all_nil, avs_len, beq_self_eq_true, Bool.and_self, and_self, or_true, true_or, reduceCtorEq, *]; done) | fail) only [c_law11_QueuePlays, wl_law11_QueuePlays_3, s_law11_QueuePlays_3, c_law11_QueuePlays_l3, wb_law11_QueuePlays_3, c_law11_QueuePlays_k0, wb_law11_QueuePlays_1, c_law11_QueuePlays_k1, wl_law11_QueuePlays_0, s_law11_QueuePlays_0, c_law11_QueuePlays_l0, wb_law11_QueuePlays_0, c_law11_QueuePlays_k2, go_sem, Nat.reduceAdd, Nat.reduceSub, Nat.reduceMul, Nat.reduceLT, Nat.reduceLeDiff, Int.reduceToNat, Nat.reduceEqDiff, Nat.reduceBEq, ↓reduceIte, reduceCtorEq, eA, scal1, List.all_cons, List.all_nil, Bool.and_self, ↓optI_of g0, ↓optI_of g1, List.length_map, List.length_cons]
  have hh := fun nx => qtail L key pre.length (by omega) 7 (u :: l) (by first | exact hl | (simp only [List.length_append, List.length_cons, List.length_nil] at *; omega) | decide) (by first | exact hv | (intro u hu; simp only [List.mem_append, List.mem_cons, List.not_mem_nil, or_false] at hu hv; rcases hu with hu | hu; exact hv u hu; exact hu ▸ hr) | (intro u hu; exact hv u (List.mem_cons_of_mem _ hu))) h nx
  exact hh _
theorem q_popyes (L pre post : List QAct) (x : QAct) (key : ByteArray) (hL : L = pre ++ x :: post) (hLl : L.length ≤ 80) (hf : fewL 0 [x.v] = true) (u : Ver) (l : List Ver) (hl : (u :: l).length ≤ 16) (hv : ∀ v ∈ u :: l, VRt v) (hp : x.pop = true) (ht : u.token = x.tok) (h : ∀ nx, QLoop L key (pre.length + 1) l nx) (nx : Ctr) : QLoop L key pre.length (u :: l) nx := by
  have hlt : pre.length < L.length := by rw [hL]; simp
  have g0 : (L.map qav)[((pre.length : Nat) : Int).toNat]? = some (qav x) := by
    rw [Int.toNat_natCast, hL, List.getElem?_map, List.getElem?_append_right (Nat.le_refl _), Nat.sub_self]; rfl
  have cf := vFew_calls [x.v] (some 1) (by show 1 < 2 ^ 63; decide)
  rw [hf] at cf
  simp only [List.map_cons, List.map_nil] at cf
  have g1 : ((u :: l).map vv)[((0 : Int)).toNat]? = some (vv u) := rfl
  have hp2 : ¬ (((l.length + 1 : Nat) : Int) = 0) := by omega
  have hll : (l.map vv).length = l.length := by simp
  refine round (its := [.blk 0 wb_law11_QueuePlays_0]) (k0 := qK) 300 trivial trivial (fun A eA => ?_)
  simp (disch := first | omega | (simp only [avs_len, List.length_cons, List.length_append, List.length_nil, List.length_take, List.length_drop, List.length_map]; omega) | (simp only [cells, scal1, allSz, List.length_cons, List.length_nil, List.length_append, List.length_map, List.all_cons, List.all_nil, avs_len, beq_self_eq_true, Bool.and_self, and_self, or_true, true_or, reduceCtorEq, *]; done) | fail) only [c_law11_QueuePlays, wl_law11_QueuePlays_3, s_law11_QueuePlays_3, c_law11_QueuePlays_l3, wb_law11_QueuePlays_3, c_law11_QueuePlays_k0, wb_law11_QueuePlays_1, c_law11_QueuePlays_k1, wl_law11_QueuePlays_0, s_law11_QueuePlays_0, c_law11_QueuePlays_l0, wb_law11_QueuePlays_0, c_law11_QueuePlays_k2, go_sem, Nat.reduceAdd, Nat.reduceSub, Nat.reduceMul, Nat.reduceLT, Nat.reduceLeDiff, Int.reduceToNat, Nat.reduceEqDiff, Nat.reduceBEq, ↓reduceIte, reduceCtorEq, eA, scal1, List.all_cons, List.all_nil, Bool.and_self, ↓optI_of g0, allSz]
  refine call0 300 trivial trivial cf (.inl rfl) (fun A eA => ?_)
  simp (disch := first | omega | (simp only [avs_len, List.length_cons, List.length_append, List.length_nil, List.length_take, List.length_drop, List.length_map]; omega) | (simp only [cells, scal1, allSz, List.length_cons, List.length_nil, List.length_append, List.length_map, List.all_cons, List.all_nil, avs_len, beq_self_eq_true, Bool.and_self, and_self, or_true, true_or, reduceCtorEq, *]; done) | fail) only [c_law11_QueuePlays, wl_law11_QueuePlays_3, s_law11_QueuePlays_3, c_law11_QueuePlays_l3, wb_law11_QueuePlays_3, c_law11_QueuePlays_k0, wb_law11_QueuePlays_1, c_law11_QueuePlays_k1, wl_law11_QueuePlays_0, s_law11_QueuePlays_0, c_law11_QueuePlays_l0, wb_law11_QueuePlays_0, c_law11_QueuePlays_k2, go_sem, Nat.reduceAdd, Nat.reduceSub, Nat.reduceMul, Nat.reduceLT, Nat.reduceLeDiff, Int.reduceToNat, Nat.reduceEqDiff, Nat.reduceBEq, ↓reduceIte, reduceCtorEq, eA, scal1, List.all_cons, List.all_nil, Bool.and_self, ↓optI_of g0, hp]
  refine call2 300 trivial trivial [(0, 5)] rfl rfl (qpop_yes u l x.tok ht _) (.inr ⟨rfl, rfl⟩) (fun A eA => ?_)
  simp (disch := first | omega | (simp only [avs_len, List.length_cons, List.length_append, List.length_nil, List.length_take, List.length_drop, List.length_map]; omega) | (simp only [cells, scal1, allSz, List.length_cons, List.length_nil, List.length_append, List.length_map, List.all_cons, List.all_nil, avs_len, beq_self_eq_true, Bool.and_self, and_self, or_true, true_or, reduceCtorEq, *]; done) | fail) only [c_law11_QueuePlays, wl_law11_QueuePlays_3, s_law11_QueuePlays_3, c_law11_QueuePlays_l3, wb_law11_QueuePlays_3, c_law11_QueuePlays_k0, wb_law11_QueuePlays_1, c_law11_QueuePlays_k1, wl_law11_QueuePlays_0, s_law11_QueuePlays_0, c_law11_QueuePlays_l0, wb_law11_QueuePlays_0, c_law11_QueuePlays_k2, go_sem, Nat.reduceAdd, Nat.reduceSub, Nat.reduceMul, Nat.reduceLT, Nat.reduceLeDiff, Int.reduceToNat, Nat.reduceEqDiff, Nat.reduceBEq, ↓reduceIte, reduceCtorEq, eA, scal1, List.all_cons, List.all_nil, Bool.and_self, ↓optI_of g0, ↓optI_of g1, List.map_cons, List.length_map, List.length_cons, List.take_of_length_le]
  have hh := fun nx => qtail L key pre.length (by omega) 0 l (by first | exact hl | (simp only [List.length_append, List.length_cons, List.length_nil] at *; omega) | decide) (by first | exact hv | (intro u hu; simp only [List.mem_append, List.mem_cons, List.not_mem_nil, or_false] at hu hv; rcases hu with hu | hu; exact hv u hu; exact hu ▸ hr) | (intro u hu; exact hv u (List.mem_cons_of_mem _ hu))) h nx
  exact hh _
theorem q_odd (L pre post : List QAct) (x : QAct) (key : ByteArray) (hL : L = pre ++ x :: post) (hLl : L.length ≤ 80) (hf : fewL 0 [x.v] = true) (l : List Ver) (hl : l.length ≤ 16) (hv : ∀ u ∈ l, VRt u) (hp : x.pop = false) (hr : ¬ VRt x.v) (h : ∀ nx, QLoop L key (pre.length + 1) l nx) (nx : Ctr) : QLoop L key pre.length (l) nx := by
  have hlt : pre.length < L.length := by rw [hL]; simp
  have g0 : (L.map qav)[((pre.length : Nat) : Int).toNat]? = some (qav x) := by
    rw [Int.toNat_natCast, hL, List.getElem?_map, List.getElem?_append_right (Nat.le_refl _), Nat.sub_self]; rfl
  have cf := vFew_calls [x.v] (some 1) (by show 1 < 2 ^ 63; decide)
  rw [hf] at cf
  simp only [List.map_cons, List.map_nil] at cf
  have cr := refVRight_calls x.v (by have := ((fewL_mem hf).2 x.v (List.mem_cons_self ..)).2.2; omega)
  rw [vrtb_no hr] at cr
  refine round (its := [.blk 0 wb_law11_QueuePlays_0]) (k0 := qK) 300 trivial trivial (fun A eA => ?_)
  simp (disch := first | omega | (simp only [avs_len, List.length_cons, List.length_append, List.length_nil, List.length_take, List.length_drop, List.length_map]; omega) | (simp only [cells, scal1, allSz, List.length_cons, List.length_nil, List.length_append, List.length_map, List.all_cons, List.all_nil, avs_len, beq_self_eq_true, Bool.and_self, and_self, or_true, true_or, reduceCtorEq, *]; done) | fail) only [c_law11_QueuePlays, wl_law11_QueuePlays_3, s_law11_QueuePlays_3, c_law11_QueuePlays_l3, wb_law11_QueuePlays_3, c_law11_QueuePlays_k0, wb_law11_QueuePlays_1, c_law11_QueuePlays_k1, wl_law11_QueuePlays_0, s_law11_QueuePlays_0, c_law11_QueuePlays_l0, wb_law11_QueuePlays_0, c_law11_QueuePlays_k2, go_sem, Nat.reduceAdd, Nat.reduceSub, Nat.reduceMul, Nat.reduceLT, Nat.reduceLeDiff, Int.reduceToNat, Nat.reduceEqDiff, Nat.reduceBEq, ↓reduceIte, reduceCtorEq, eA, scal1, List.all_cons, List.all_nil, Bool.and_self, ↓optI_of g0, allSz]
  refine call0 300 trivial trivial cf (.inl rfl) (fun A eA => ?_)
  simp (disch := first | omega | (simp only [avs_len, List.length_cons, List.length_append, List.length_nil, List.length_take, List.length_drop, List.length_map]; omega) | (simp only [cells, scal1, allSz, List.length_cons, List.length_nil, List.length_append, List.length_map, List.all_cons, List.all_nil, avs_len, beq_self_eq_true, Bool.and_self, and_self, or_true, true_or, reduceCtorEq, *]; done) | fail) only [c_law11_QueuePlays, wl_law11_QueuePlays_3, s_law11_QueuePlays_3, c_law11_QueuePlays_l3, wb_law11_QueuePlays_3, c_law11_QueuePlays_k0, wb_law11_QueuePlays_1, c_law11_QueuePlays_k1, wl_law11_QueuePlays_0, s_law11_QueuePlays_0, c_law11_QueuePlays_l0, wb_law11_QueuePlays_0, c_law11_QueuePlays_k2, go_sem, Nat.reduceAdd, Nat.reduceSub, Nat.reduceMul, Nat.reduceLT, Nat.reduceLeDiff, Int.reduceToNat, Nat.reduceEqDiff, Nat.reduceBEq, ↓reduceIte, reduceCtorEq, eA, scal1, List.all_cons, List.all_nil, Bool.and_self, ↓optI_of g0, hp]
  refine call2 300 trivial trivial [(0, 5)] rfl rfl (qpush_odd l x.v hr 0 5 0 _) (.inr ⟨rfl, rfl⟩) (fun A eA => ?_)
  simp (disch := first | omega | (simp only [avs_len, List.length_cons, List.length_append, List.length_nil, List.length_take, List.length_drop, List.length_map]; omega) | (simp only [cells, scal1, allSz, List.length_cons, List.length_nil, List.length_append, List.length_map, List.all_cons, List.all_nil, avs_len, beq_self_eq_true, Bool.and_self, and_self, or_true, true_or, reduceCtorEq, *]; done) | fail) only [c_law11_QueuePlays, wl_law11_QueuePlays_3, s_law11_QueuePlays_3, c_law11_QueuePlays_l3, wb_law11_QueuePlays_3, c_law11_QueuePlays_k0, wb_law11_QueuePlays_1, c_law11_QueuePlays_k1, wl_law11_QueuePlays_0, s_law11_QueuePlays_0, c_law11_QueuePlays_l0, wb_law11_QueuePlays_0, c_law11_QueuePlays_k2, go_sem, Nat.reduceAdd, Nat.reduceSub, Nat.reduceMul, Nat.reduceLT, Nat.reduceLeDiff, Int.reduceToNat, Nat.reduceEqDiff, Nat.reduceBEq, ↓reduceIte, reduceCtorEq, eA, scal1, List.all_cons, List.all_nil, Bool.and_self, ↓optI_of g0]
  refine call0 300 trivial trivial cr (.inl rfl) (fun A eA => ?_)
  simp (disch := first | omega | (simp only [avs_len, List.length_cons, List.length_append, List.length_nil, List.length_take, List.length_drop, List.length_map]; omega) | (simp only [cells, scal1, allSz, List.length_cons, List.length_nil, List.length_append, List.length_map, List.all_cons, List.all_nil, avs_len, beq_self_eq_true, Bool.and_self, and_self, or_true, true_or, reduceCtorEq, *]; done) | fail) only [c_law11_QueuePlays, wl_law11_QueuePlays_3, s_law11_QueuePlays_3, c_law11_QueuePlays_l3, wb_law11_QueuePlays_3, c_law11_QueuePlays_k0, wb_law11_QueuePlays_1, c_law11_QueuePlays_k1, wl_law11_QueuePlays_0, s_law11_QueuePlays_0, c_law11_QueuePlays_l0, wb_law11_QueuePlays_0, c_law11_QueuePlays_k2, go_sem, Nat.reduceAdd, Nat.reduceSub, Nat.reduceMul, Nat.reduceLT, Nat.reduceLeDiff, Int.reduceToNat, Nat.reduceEqDiff, Nat.reduceBEq, ↓reduceIte, reduceCtorEq, eA, scal1, List.all_cons, List.all_nil, Bool.and_self, ↓optI_of g0, List.length_map]
  have hh := fun nx => qtail L key pre.length (by omega) 1 l (by first | exact hl | (simp only [List.length_append, List.length_cons, List.length_nil] at *; omega) | decide) (by first | exact hv | (intro u hu; simp only [List.mem_append, List.mem_cons, List.not_mem_nil, or_false] at hu hv; rcases hu with hu | hu; exact hv u hu; exact hu ▸ hr) | (intro u hu; exact hv u (List.mem_cons_of_mem _ hu))) h nx
  exact hh _
theorem q_old (L pre post : List QAct) (x : QAct) (key : ByteArray) (hL : L = pre ++ x :: post) (hLl : L.length ≤ 80) (hf : fewL 0 [x.v] = true) (q : List Ver) (u : Ver) (hl : (q ++ [u]).length ≤ 16) (hv : ∀ v ∈ q ++ [u], VRt v) (hp : x.pop = false) (hr : VRt x.v) (ho : x.v.token ≤ u.token) (h : ∀ nx, QLoop L key (pre.length + 1) (q ++ [u]) nx) (nx : Ctr) : QLoop L key pre.length (q ++ [u]) nx := by
  have hlt : pre.length < L.length := by rw [hL]; simp
  have g0 : (L.map qav)[((pre.length : Nat) : Int).toNat]? = some (qav x) := by
    rw [Int.toNat_natCast, hL, List.getElem?_map, List.getElem?_append_right (Nat.le_refl _), Nat.sub_self]; rfl
  have cf := vFew_calls [x.v] (some 1) (by show 1 < 2 ^ 63; decide)
  rw [hf] at cf
  simp only [List.map_cons, List.map_nil] at cf
  have cr := refVRight_calls x.v (by have := ((fewL_mem hf).2 x.v (List.mem_cons_self ..)).2.2; omega)
  rw [vrtb_true.2 hr] at cr
  have hlen : (q ++ [u]).length = q.length + 1 := by simp
  have hq16 : q.length < 16 := by omega
  have g1 : ((q ++ [u]).map vv)[((q.length : Nat) : Int).toNat]? = some (vv u) := by
    rw [Int.toNat_natCast, List.getElem?_map, List.getElem?_append_right (Nat.le_refl _), Nat.sub_self]; rfl
  have w2 : IntKind.i64.wrap (((q.length + 1 : Nat) : Int) - 1) = ((q.length : Nat) : Int) := by rw [wrap64 (by omega) (by omega)]; omega
  refine round (its := [.blk 0 wb_law11_QueuePlays_0]) (k0 := qK) 300 trivial trivial (fun A eA => ?_)
  simp (disch := first | omega | (simp only [avs_len, List.length_cons, List.length_append, List.length_nil, List.length_take, List.length_drop, List.length_map]; omega) | (simp only [cells, scal1, allSz, List.length_cons, List.length_nil, List.length_append, List.length_map, List.all_cons, List.all_nil, avs_len, beq_self_eq_true, Bool.and_self, and_self, or_true, true_or, reduceCtorEq, *]; done) | fail) only [c_law11_QueuePlays, wl_law11_QueuePlays_3, s_law11_QueuePlays_3, c_law11_QueuePlays_l3, wb_law11_QueuePlays_3, c_law11_QueuePlays_k0, wb_law11_QueuePlays_1, c_law11_QueuePlays_k1, wl_law11_QueuePlays_0, s_law11_QueuePlays_0, c_law11_QueuePlays_l0, wb_law11_QueuePlays_0, c_law11_QueuePlays_k2, go_sem, Nat.reduceAdd, Nat.reduceSub, Nat.reduceMul, Nat.reduceLT, Nat.reduceLeDiff, Int.reduceToNat, Nat.reduceEqDiff, Nat.reduceBEq, ↓reduceIte, reduceCtorEq, eA, scal1, List.all_cons, List.all_nil, Bool.and_self, ↓optI_of g0, allSz]
  refine call0 300 trivial trivial cf (.inl rfl) (fun A eA => ?_)
  simp (disch := first | omega | (simp only [avs_len, List.length_cons, List.length_append, List.length_nil, List.length_take, List.length_drop, List.length_map]; omega) | (simp only [cells, scal1, allSz, List.length_cons, List.length_nil, List.length_append, List.length_map, List.all_cons, List.all_nil, avs_len, beq_self_eq_true, Bool.and_self, and_self, or_true, true_or, reduceCtorEq, *]; done) | fail) only [c_law11_QueuePlays, wl_law11_QueuePlays_3, s_law11_QueuePlays_3, c_law11_QueuePlays_l3, wb_law11_QueuePlays_3, c_law11_QueuePlays_k0, wb_law11_QueuePlays_1, c_law11_QueuePlays_k1, wl_law11_QueuePlays_0, s_law11_QueuePlays_0, c_law11_QueuePlays_l0, wb_law11_QueuePlays_0, c_law11_QueuePlays_k2, go_sem, Nat.reduceAdd, Nat.reduceSub, Nat.reduceMul, Nat.reduceLT, Nat.reduceLeDiff, Int.reduceToNat, Nat.reduceEqDiff, Nat.reduceBEq, ↓reduceIte, reduceCtorEq, eA, scal1, List.all_cons, List.all_nil, Bool.and_self, ↓optI_of g0, hp]
  refine call2 300 trivial trivial [(0, 5)] rfl rfl (qpush_old q u x.v (by omega) hr ho 0 5 0 _) (.inr ⟨rfl, rfl⟩) (fun A eA => ?_)
  simp (disch := first | omega | (simp only [avs_len, List.length_cons, List.length_append, List.length_nil, List.length_take, List.length_drop, List.length_map]; omega) | (simp only [cells, scal1, allSz, List.length_cons, List.length_nil, List.length_append, List.length_map, List.all_cons, List.all_nil, avs_len, beq_self_eq_true, Bool.and_self, and_self, or_true, true_or, reduceCtorEq, *]; done) | fail) only [c_law11_QueuePlays, wl_law11_QueuePlays_3, s_law11_QueuePlays_3, c_law11_QueuePlays_l3, wb_law11_QueuePlays_3, c_law11_QueuePlays_k0, wb_law11_QueuePlays_1, c_law11_QueuePlays_k1, wl_law11_QueuePlays_0, s_law11_QueuePlays_0, c_law11_QueuePlays_l0, wb_law11_QueuePlays_0, c_law11_QueuePlays_k2, go_sem, Nat.reduceAdd, Nat.reduceSub, Nat.reduceMul, Nat.reduceLT, Nat.reduceLeDiff, Int.reduceToNat, Nat.reduceEqDiff, Nat.reduceBEq, ↓reduceIte, reduceCtorEq, eA, scal1, List.all_cons, List.all_nil, Bool.and_self, ↓optI_of g0]
  refine call0 300 trivial trivial cr (.inl rfl) (fun A eA => ?_)
  simp (disch := first | omega | (simp only [avs_len, List.length_cons, List.length_append, List.length_nil, List.length_take, List.length_drop, List.length_map]; omega) | (simp only [cells, scal1, allSz, List.length_cons, List.length_nil, List.length_append, List.length_map, List.all_cons, List.all_nil, avs_len, beq_self_eq_true, Bool.and_self, and_self, or_true, true_or, reduceCtorEq, *]; done) | fail) only [c_law11_QueuePlays, wl_law11_QueuePlays_3, s_law11_QueuePlays_3, c_law11_QueuePlays_l3, wb_law11_QueuePlays_3, c_law11_QueuePlays_k0, wb_law11_QueuePlays_1, c_law11_QueuePlays_k1, wl_law11_QueuePlays_0, s_law11_QueuePlays_0, c_law11_QueuePlays_l0, wb_law11_QueuePlays_0, c_law11_QueuePlays_k2, go_sem, Nat.reduceAdd, Nat.reduceSub, Nat.reduceMul, Nat.reduceLT, Nat.reduceLeDiff, Int.reduceToNat, Nat.reduceEqDiff, Nat.reduceBEq, ↓reduceIte, reduceCtorEq, eA, scal1, List.all_cons, List.all_nil, Bool.and_self, ↓optI_of g0, List.length_map, hlen, w2, ↓optI_of g1]
  have hh := fun nx => qtail L key pre.length (by omega) 1 (q ++ [u]) (by first | exact hl | (simp only [List.length_append, List.length_cons, List.length_nil] at *; omega) | decide) (by first | exact hv | (intro u hu; simp only [List.mem_append, List.mem_cons, List.not_mem_nil, or_false] at hu hv; rcases hu with hu | hu; exact hv u hu; exact hu ▸ hr) | (intro u hu; exact hv u (List.mem_cons_of_mem _ hu))) h nx
  rw [hlen] at hh
  exact hh _
theorem q_full (L pre post : List QAct) (x : QAct) (key : ByteArray) (hL : L = pre ++ x :: post) (hLl : L.length ≤ 80) (hf : fewL 0 [x.v] = true) (q : List Ver) (u : Ver) (hl : (q ++ [u]).length ≤ 16) (hv : ∀ v ∈ q ++ [u], VRt v) (hp : x.pop = false) (hr : VRt x.v) (ho : u.token < x.v.token) (hfu : 16 ≤ q.length + 1) (h : ∀ nx, QLoop L key (pre.length + 1) (q ++ [u]) nx) (nx : Ctr) : QLoop L key pre.length (q ++ [u]) nx := by
  have hlt : pre.length < L.length := by rw [hL]; simp
  have g0 : (L.map qav)[((pre.length : Nat) : Int).toNat]? = some (qav x) := by
    rw [Int.toNat_natCast, hL, List.getElem?_map, List.getElem?_append_right (Nat.le_refl _), Nat.sub_self]; rfl
  have cf := vFew_calls [x.v] (some 1) (by show 1 < 2 ^ 63; decide)
  rw [hf] at cf
  simp only [List.map_cons, List.map_nil] at cf
  have cr := refVRight_calls x.v (by have := ((fewL_mem hf).2 x.v (List.mem_cons_self ..)).2.2; omega)
  rw [vrtb_true.2 hr] at cr
  have hlen : (q ++ [u]).length = q.length + 1 := by simp
  have hq16 : q.length < 16 := by omega
  have g1 : ((q ++ [u]).map vv)[((q.length : Nat) : Int).toNat]? = some (vv u) := by
    rw [Int.toNat_natCast, List.getElem?_map, List.getElem?_append_right (Nat.le_refl _), Nat.sub_self]; rfl
  have w2 : IntKind.i64.wrap (((q.length + 1 : Nat) : Int) - 1) = ((q.length : Nat) : Int) := by rw [wrap64 (by omega) (by omega)]; omega
  refine round (its := [.blk 0 wb_law11_QueuePlays_0]) (k0 := qK) 300 trivial trivial (fun A eA => ?_)
  simp (disch := first | omega | (simp only [avs_len, List.length_cons, List.length_append, List.length_nil, List.length_take, List.length_drop, List.length_map]; omega) | (simp only [cells, scal1, allSz, List.length_cons, List.length_nil, List.length_append, List.length_map, List.all_cons, List.all_nil, avs_len, beq_self_eq_true, Bool.and_self, and_self, or_true, true_or, reduceCtorEq, *]; done) | fail) only [c_law11_QueuePlays, wl_law11_QueuePlays_3, s_law11_QueuePlays_3, c_law11_QueuePlays_l3, wb_law11_QueuePlays_3, c_law11_QueuePlays_k0, wb_law11_QueuePlays_1, c_law11_QueuePlays_k1, wl_law11_QueuePlays_0, s_law11_QueuePlays_0, c_law11_QueuePlays_l0, wb_law11_QueuePlays_0, c_law11_QueuePlays_k2, go_sem, Nat.reduceAdd, Nat.reduceSub, Nat.reduceMul, Nat.reduceLT, Nat.reduceLeDiff, Int.reduceToNat, Nat.reduceEqDiff, Nat.reduceBEq, ↓reduceIte, reduceCtorEq, eA, scal1, List.all_cons, List.all_nil, Bool.and_self, ↓optI_of g0, allSz]
  refine call0 300 trivial trivial cf (.inl rfl) (fun A eA => ?_)
  simp (disch := first | omega | (simp only [avs_len, List.length_cons, List.length_append, List.length_nil, List.length_take, List.length_drop, List.length_map]; omega) | (simp only [cells, scal1, allSz, List.length_cons, List.length_nil, List.length_append, List.length_map, List.all_cons, List.all_nil, avs_len, beq_self_eq_true, Bool.and_self, and_self, or_true, true_or, reduceCtorEq, *]; done) | fail) only [c_law11_QueuePlays, wl_law11_QueuePlays_3, s_law11_QueuePlays_3, c_law11_QueuePlays_l3, wb_law11_QueuePlays_3, c_law11_QueuePlays_k0, wb_law11_QueuePlays_1, c_law11_QueuePlays_k1, wl_law11_QueuePlays_0, s_law11_QueuePlays_0, c_law11_QueuePlays_l0, wb_law11_QueuePlays_0, c_law11_QueuePlays_k2, go_sem, Nat.reduceAdd, Nat.reduceSub, Nat.reduceMul, Nat.reduceLT, Nat.reduceLeDiff, Int.reduceToNat, Nat.reduceEqDiff, Nat.reduceBEq, ↓reduceIte, reduceCtorEq, eA, scal1, List.all_cons, List.all_nil, Bool.and_self, ↓optI_of g0, hp]
  refine call2 300 trivial trivial [(0, 5)] rfl rfl (qpush_full q u x.v (by omega) hr ho hfu 0 5 0 _) (.inr ⟨rfl, rfl⟩) (fun A eA => ?_)
  simp (disch := first | omega | (simp only [avs_len, List.length_cons, List.length_append, List.length_nil, List.length_take, List.length_drop, List.length_map]; omega) | (simp only [cells, scal1, allSz, List.length_cons, List.length_nil, List.length_append, List.length_map, List.all_cons, List.all_nil, avs_len, beq_self_eq_true, Bool.and_self, and_self, or_true, true_or, reduceCtorEq, *]; done) | fail) only [c_law11_QueuePlays, wl_law11_QueuePlays_3, s_law11_QueuePlays_3, c_law11_QueuePlays_l3, wb_law11_QueuePlays_3, c_law11_QueuePlays_k0, wb_law11_QueuePlays_1, c_law11_QueuePlays_k1, wl_law11_QueuePlays_0, s_law11_QueuePlays_0, c_law11_QueuePlays_l0, wb_law11_QueuePlays_0, c_law11_QueuePlays_k2, go_sem, Nat.reduceAdd, Nat.reduceSub, Nat.reduceMul, Nat.reduceLT, Nat.reduceLeDiff, Int.reduceToNat, Nat.reduceEqDiff, Nat.reduceBEq, ↓reduceIte, reduceCtorEq, eA, scal1, List.all_cons, List.all_nil, Bool.and_self, ↓optI_of g0]
  refine call0 300 trivial trivial cr (.inl rfl) (fun A eA => ?_)
  simp (disch := first | omega | (simp only [avs_len, List.length_cons, List.length_append, List.length_nil, List.length_take, List.length_drop, List.length_map]; omega) | (simp only [cells, scal1, allSz, List.length_cons, List.length_nil, List.length_append, List.length_map, List.all_cons, List.all_nil, avs_len, beq_self_eq_true, Bool.and_self, and_self, or_true, true_or, reduceCtorEq, *]; done) | fail) only [c_law11_QueuePlays, wl_law11_QueuePlays_3, s_law11_QueuePlays_3, c_law11_QueuePlays_l3, wb_law11_QueuePlays_3, c_law11_QueuePlays_k0, wb_law11_QueuePlays_1, c_law11_QueuePlays_k1, wl_law11_QueuePlays_0, s_law11_QueuePlays_0, c_law11_QueuePlays_l0, wb_law11_QueuePlays_0, c_law11_QueuePlays_k2, go_sem, Nat.reduceAdd, Nat.reduceSub, Nat.reduceMul, Nat.reduceLT, Nat.reduceLeDiff, Int.reduceToNat, Nat.reduceEqDiff, Nat.reduceBEq, ↓reduceIte, reduceCtorEq, eA, scal1, List.all_cons, List.all_nil, Bool.and_self, ↓optI_of g0, List.length_map, hlen, w2, ↓optI_of g1]
  have hh := fun nx => qtail L key pre.length (by omega) 4 (q ++ [u]) (by first | exact hl | (simp only [List.length_append, List.length_cons, List.length_nil] at *; omega) | decide) (by first | exact hv | (intro u hu; simp only [List.mem_append, List.mem_cons, List.not_mem_nil, or_false] at hu hv; rcases hu with hu | hu; exact hv u hu; exact hu ▸ hr) | (intro u hu; exact hv u (List.mem_cons_of_mem _ hu))) h nx
  rw [hlen] at hh
  exact hh _
theorem q_ok0 (L pre post : List QAct) (x : QAct) (key : ByteArray) (hL : L = pre ++ x :: post) (hLl : L.length ≤ 80) (hf : fewL 0 [x.v] = true) (hp : x.pop = false) (hr : VRt x.v) (h : ∀ nx, QLoop L key (pre.length + 1) [x.v] nx) (nx : Ctr) : QLoop L key pre.length ([]) nx := by
  have hlt : pre.length < L.length := by rw [hL]; simp
  have g0 : (L.map qav)[((pre.length : Nat) : Int).toNat]? = some (qav x) := by
    rw [Int.toNat_natCast, hL, List.getElem?_map, List.getElem?_append_right (Nat.le_refl _), Nat.sub_self]; rfl
  have cf := vFew_calls [x.v] (some 1) (by show 1 < 2 ^ 63; decide)
  rw [hf] at cf
  simp only [List.map_cons, List.map_nil] at cf
  have cr := refVRight_calls x.v (by have := ((fewL_mem hf).2 x.v (List.mem_cons_self ..)).2.2; omega)
  rw [vrtb_true.2 hr] at cr
  have hv : ∀ u ∈ [x.v], VRt u := fun u hu => by rw [List.mem_singleton] at hu; subst hu; exact hr
  refine round (its := [.blk 0 wb_law11_QueuePlays_0]) (k0 := qK) 300 trivial trivial (fun A eA => ?_)
  simp (disch := first | omega | (simp only [avs_len, List.length_cons, List.length_append, List.length_nil, List.length_take, List.length_drop, List.length_map]; omega) | (simp only [cells, scal1, allSz, List.length_cons, List.length_nil, List.length_append, List.length_map, List.all_cons, List.all_nil, avs_len, beq_self_eq_true, Bool.and_self, and_self, or_true, true_or, reduceCtorEq, *]; done) | fail) only [c_law11_QueuePlays, wl_law11_QueuePlays_3, s_law11_QueuePlays_3, c_law11_QueuePlays_l3, wb_law11_QueuePlays_3, c_law11_QueuePlays_k0, wb_law11_QueuePlays_1, c_law11_QueuePlays_k1, wl_law11_QueuePlays_0, s_law11_QueuePlays_0, c_law11_QueuePlays_l0, wb_law11_QueuePlays_0, c_law11_QueuePlays_k2, go_sem, Nat.reduceAdd, Nat.reduceSub, Nat.reduceMul, Nat.reduceLT, Nat.reduceLeDiff, Int.reduceToNat, Nat.reduceEqDiff, Nat.reduceBEq, ↓reduceIte, reduceCtorEq, eA, scal1, List.all_cons, List.all_nil, Bool.and_self, ↓optI_of g0, allSz]
  refine call0 300 trivial trivial cf (.inl rfl) (fun A eA => ?_)
  simp (disch := first | omega | (simp only [avs_len, List.length_cons, List.length_append, List.length_nil, List.length_take, List.length_drop, List.length_map]; omega) | (simp only [cells, scal1, allSz, List.length_cons, List.length_nil, List.length_append, List.length_map, List.all_cons, List.all_nil, avs_len, beq_self_eq_true, Bool.and_self, and_self, or_true, true_or, reduceCtorEq, *]; done) | fail) only [c_law11_QueuePlays, wl_law11_QueuePlays_3, s_law11_QueuePlays_3, c_law11_QueuePlays_l3, wb_law11_QueuePlays_3, c_law11_QueuePlays_k0, wb_law11_QueuePlays_1, c_law11_QueuePlays_k1, wl_law11_QueuePlays_0, s_law11_QueuePlays_0, c_law11_QueuePlays_l0, wb_law11_QueuePlays_0, c_law11_QueuePlays_k2, go_sem, Nat.reduceAdd, Nat.reduceSub, Nat.reduceMul, Nat.reduceLT, Nat.reduceLeDiff, Int.reduceToNat, Nat.reduceEqDiff, Nat.reduceBEq, ↓reduceIte, reduceCtorEq, eA, scal1, List.all_cons, List.all_nil, Bool.and_self, ↓optI_of g0, hp]
  obtain ⟨nx1, cp⟩ := qpush_0 x.v hr (bump nx 8)
  refine call2 300 trivial trivial [(0, 5)] rfl rfl cp (.inr ⟨rfl, rfl⟩) (fun A eA => ?_)
  simp (disch := first | omega | (simp only [avs_len, List.length_cons, List.length_append, List.length_nil, List.length_take, List.length_drop, List.length_map]; omega) | (simp only [cells, scal1, allSz, List.length_cons, List.length_nil, List.length_append, List.length_map, List.all_cons, List.all_nil, avs_len, beq_self_eq_true, Bool.and_self, and_self, or_true, true_or, reduceCtorEq, *]; done) | fail) only [c_law11_QueuePlays, wl_law11_QueuePlays_3, s_law11_QueuePlays_3, c_law11_QueuePlays_l3, wb_law11_QueuePlays_3, c_law11_QueuePlays_k0, wb_law11_QueuePlays_1, c_law11_QueuePlays_k1, wl_law11_QueuePlays_0, s_law11_QueuePlays_0, c_law11_QueuePlays_l0, wb_law11_QueuePlays_0, c_law11_QueuePlays_k2, go_sem, Nat.reduceAdd, Nat.reduceSub, Nat.reduceMul, Nat.reduceLT, Nat.reduceLeDiff, Int.reduceToNat, Nat.reduceEqDiff, Nat.reduceBEq, ↓reduceIte, reduceCtorEq, eA, scal1, List.all_cons, List.all_nil, Bool.and_self, ↓optI_of g0]
  refine call0 300 trivial trivial cr (.inl rfl) (fun A eA => ?_)
  simp (disch := first | omega | (simp only [avs_len, List.length_cons, List.length_append, List.length_nil, List.length_take, List.length_drop, List.length_map]; omega) | (simp only [cells, scal1, allSz, List.length_cons, List.length_nil, List.length_append, List.length_map, List.all_cons, List.all_nil, avs_len, beq_self_eq_true, Bool.and_self, and_self, or_true, true_or, reduceCtorEq, *]; done) | fail) only [c_law11_QueuePlays, wl_law11_QueuePlays_3, s_law11_QueuePlays_3, c_law11_QueuePlays_l3, wb_law11_QueuePlays_3, c_law11_QueuePlays_k0, wb_law11_QueuePlays_1, c_law11_QueuePlays_k1, wl_law11_QueuePlays_0, s_law11_QueuePlays_0, c_law11_QueuePlays_l0, wb_law11_QueuePlays_0, c_law11_QueuePlays_k2, go_sem, Nat.reduceAdd, Nat.reduceSub, Nat.reduceMul, Nat.reduceLT, Nat.reduceLeDiff, Int.reduceToNat, Nat.reduceEqDiff, Nat.reduceBEq, ↓reduceIte, reduceCtorEq, eA, scal1, List.all_cons, List.all_nil, Bool.and_self, ↓optI_of g0, List.map_nil, allSz, ↓appK, catCells, chunk, chunkN]
  have hh := fun nx => qtail L key pre.length (by omega) 0 [x.v] (by first | exact hl | (simp only [List.length_append, List.length_cons, List.length_nil] at *; omega) | decide) (by first | exact hv | (intro u hu; simp only [List.mem_append, List.mem_cons, List.not_mem_nil, or_false] at hu hv; rcases hu with hu | hu; exact hv u hu; exact hu ▸ hr) | (intro u hu; exact hv u (List.mem_cons_of_mem _ hu))) h nx
  exact hh _
theorem q_ok1 (L pre post : List QAct) (x : QAct) (key : ByteArray) (hL : L = pre ++ x :: post) (hLl : L.length ≤ 80) (hf : fewL 0 [x.v] = true) (q : List Ver) (u : Ver) (hl : (q ++ [u]).length ≤ 16) (hv : ∀ v ∈ q ++ [u], VRt v) (hp : x.pop = false) (hr : VRt x.v) (ho : u.token < x.v.token) (hfu : q.length + 1 < 16) (h : ∀ nx, QLoop L key (pre.length + 1) (q ++ [u] ++ [x.v]) nx) (nx : Ctr) : QLoop L key pre.length (q ++ [u]) nx := by
  have hlt : pre.length < L.length := by rw [hL]; simp
  have g0 : (L.map qav)[((pre.length : Nat) : Int).toNat]? = some (qav x) := by
    rw [Int.toNat_natCast, hL, List.getElem?_map, List.getElem?_append_right (Nat.le_refl _), Nat.sub_self]; rfl
  have cf := vFew_calls [x.v] (some 1) (by show 1 < 2 ^ 63; decide)
  rw [hf] at cf
  simp only [List.map_cons, List.map_nil] at cf
  have cr := refVRight_calls x.v (by have := ((fewL_mem hf).2 x.v (List.mem_cons_self ..)).2.2; omega)
  rw [vrtb_true.2 hr] at cr
  have hlen : (q ++ [u]).length = q.length + 1 := by simp
  have hq16 : q.length < 16 := by omega
  have g1 : ((q ++ [u]).map vv)[((q.length : Nat) : Int).toNat]? = some (vv u) := by
    rw [Int.toNat_natCast, List.getElem?_map, List.getElem?_append_right (Nat.le_refl _), Nat.sub_self]; rfl
  have w2 : IntKind.i64.wrap (((q.length + 1 : Nat) : Int) - 1) = ((q.length : Nat) : Int) := by rw [wrap64 (by omega) (by omega)]; omega
  have hq := qcat_len (q ++ [u])
  rw [hlen] at hq
  have hqc := qcat_cat (q ++ [u])
  have ha : qcat (q ++ [u]) ++ vcs x.v = qcat (q ++ [u] ++ [x.v]) := by rw [qcat_app (q ++ [u]) [x.v]]; rfl
  have hlen2 : (q ++ [u] ++ [x.v]).length = q.length + 1 + 1 := by simp
  have hq2 : (qcat (q ++ [u] ++ [x.v])).length = (q.length + 1 + 1) * 7 := by rw [qcat_len, hlen2]
  have hT : (qcat (q ++ [u] ++ [x.v])).take ((q.length + 1 + 1) * 7) = qcat (q ++ [u] ++ [x.v]) := List.take_of_length_le (by omega)
  have hC : chunk 7 (q.length + 1 + 1) (qcat (q ++ [u] ++ [x.v])) = (q ++ [u] ++ [x.v]).map vv := by
    have := chunk_qcat (q ++ [u] ++ [x.v]); rwa [hlen2] at this
  obtain ⟨nx1, cp⟩ := qpush_1 q u x.v hr ho hfu (bump nx 8)
  have fin2 := fun nx => qtail L key pre.length (by omega) 0 (q ++ [u] ++ [x.v]) (by omega) (fun v hv2 => by rcases List.mem_append.1 hv2 with hv2 | hv2; exact hv v hv2; rw [List.mem_singleton] at hv2; subst hv2; exact hr) h nx
  rw [hlen2] at fin2
  generalize q ++ [u] ++ [x.v] = M2 at *
  generalize q ++ [u] = M at *
  refine round (its := [.blk 0 wb_law11_QueuePlays_0]) (k0 := qK) 300 trivial trivial (fun A eA => ?_)
  simp (disch := first | omega | (simp only [avs_len, List.length_cons, List.length_append, List.length_nil, List.length_take, List.length_drop, List.length_map]; omega) | (simp only [cells, scal1, allSz, List.length_cons, List.length_nil, List.length_append, List.length_map, List.all_cons, List.all_nil, avs_len, beq_self_eq_true, Bool.and_self, and_self, or_true, true_or, reduceCtorEq, *]; done) | fail) only [c_law11_QueuePlays, wl_law11_QueuePlays_3, s_law11_QueuePlays_3, c_law11_QueuePlays_l3, wb_law11_QueuePlays_3, c_law11_QueuePlays_k0, wb_law11_QueuePlays_1, c_law11_QueuePlays_k1, wl_law11_QueuePlays_0, s_law11_QueuePlays_0, c_law11_QueuePlays_l0, wb_law11_QueuePlays_0, c_law11_QueuePlays_k2, go_sem, Nat.reduceAdd, Nat.reduceSub, Nat.reduceMul, Nat.reduceLT, Nat.reduceLeDiff, Int.reduceToNat, Nat.reduceEqDiff, Nat.reduceBEq, ↓reduceIte, reduceCtorEq, eA, scal1, List.all_cons, List.all_nil, Bool.and_self, ↓optI_of g0, allSz]
  refine call0 300 trivial trivial cf (.inl rfl) (fun A eA => ?_)
  simp (disch := first | omega | (simp only [avs_len, List.length_cons, List.length_append, List.length_nil, List.length_take, List.length_drop, List.length_map]; omega) | (simp only [cells, scal1, allSz, List.length_cons, List.length_nil, List.length_append, List.length_map, List.all_cons, List.all_nil, avs_len, beq_self_eq_true, Bool.and_self, and_self, or_true, true_or, reduceCtorEq, *]; done) | fail) only [c_law11_QueuePlays, wl_law11_QueuePlays_3, s_law11_QueuePlays_3, c_law11_QueuePlays_l3, wb_law11_QueuePlays_3, c_law11_QueuePlays_k0, wb_law11_QueuePlays_1, c_law11_QueuePlays_k1, wl_law11_QueuePlays_0, s_law11_QueuePlays_0, c_law11_QueuePlays_l0, wb_law11_QueuePlays_0, c_law11_QueuePlays_k2, go_sem, Nat.reduceAdd, Nat.reduceSub, Nat.reduceMul, Nat.reduceLT, Nat.reduceLeDiff, Int.reduceToNat, Nat.reduceEqDiff, Nat.reduceBEq, ↓reduceIte, reduceCtorEq, eA, scal1, List.all_cons, List.all_nil, Bool.and_self, ↓optI_of g0, hp]
  refine call2 300 trivial trivial [(0, 5)] rfl rfl cp (.inr ⟨rfl, rfl⟩) (fun A eA => ?_)
  simp (disch := first | omega | (simp only [avs_len, List.length_cons, List.length_append, List.length_nil, List.length_take, List.length_drop, List.length_map]; omega) | (simp only [cells, scal1, allSz, List.length_cons, List.length_nil, List.length_append, List.length_map, List.all_cons, List.all_nil, avs_len, beq_self_eq_true, Bool.and_self, and_self, or_true, true_or, reduceCtorEq, *]; done) | fail) only [c_law11_QueuePlays, wl_law11_QueuePlays_3, s_law11_QueuePlays_3, c_law11_QueuePlays_l3, wb_law11_QueuePlays_3, c_law11_QueuePlays_k0, wb_law11_QueuePlays_1, c_law11_QueuePlays_k1, wl_law11_QueuePlays_0, s_law11_QueuePlays_0, c_law11_QueuePlays_l0, wb_law11_QueuePlays_0, c_law11_QueuePlays_k2, go_sem, Nat.reduceAdd, Nat.reduceSub, Nat.reduceMul, Nat.reduceLT, Nat.reduceLeDiff, Int.reduceToNat, Nat.reduceEqDiff, Nat.reduceBEq, ↓reduceIte, reduceCtorEq, eA, scal1, List.all_cons, List.all_nil, Bool.and_self, ↓optI_of g0]
  refine call0 300 trivial trivial cr (.inl rfl) (fun A eA => ?_)
  simp (disch := first | omega | (simp only [avs_len, List.length_cons, List.length_append, List.length_nil, List.length_take, List.length_drop, List.length_map]; omega) | (simp only [cells, scal1, allSz, List.length_cons, List.length_nil, List.length_append, List.length_map, List.all_cons, List.all_nil, avs_len, beq_self_eq_true, Bool.and_self, and_self, or_true, true_or, reduceCtorEq, *]; done) | fail) only [c_law11_QueuePlays, wl_law11_QueuePlays_3, s_law11_QueuePlays_3, c_law11_QueuePlays_l3, wb_law11_QueuePlays_3, c_law11_QueuePlays_k0, wb_law11_QueuePlays_1, c_law11_QueuePlays_k1, wl_law11_QueuePlays_0, s_law11_QueuePlays_0, c_law11_QueuePlays_l0, wb_law11_QueuePlays_0, c_law11_QueuePlays_k2, go_sem, Nat.reduceAdd, Nat.reduceSub, Nat.reduceMul, Nat.reduceLT, Nat.reduceLeDiff, Int.reduceToNat, Nat.reduceEqDiff, Nat.reduceBEq, ↓reduceIte, reduceCtorEq, eA, scal1, List.all_cons, List.all_nil, Bool.and_self, ↓optI_of g0, List.length_map, hlen, hlen2, w2, ↓optI_of g1, allSz, ↓appK, catCells, hq, hqc, ha, hq2, hT, hC, ↓frz_qcat]
  exact fin2 _
end Go.Proofs.Ytmokhopjnjecbab
/- The law QueuePlays, walked. -/
-- short
-- fuel 300
namespace Go.Proofs.Ytmokhopjnjecbab
open Go.Ev
set_option linter.unusedVariables false
set_option linter.unusedSimpArgs false
set_option maxRecDepth 100000
set_option maxHeartbeats 3200000
theorem q_loop (L : List QAct) (key : ByteArray) (hLl : L.length ≤ 80) : ∀ (post pre : List QAct), L = pre ++ post → ∀ (l : List Ver), l.length ≤ 16 → (∀ v ∈ l, VRt v) → ∀ nx, QLoop L key pre.length l nx := by
  intro post
  induction post with
  | nil =>
    intro pre hL l hl hv nx
    rw [List.append_nil] at hL; subst hL
    exact qend _ key l nx
  | cons x post ih =>
    intro pre hL l hl hv nx
    have ih := fun l hl hv nx => ih (pre ++ [x]) (by rw [hL]; simp) l hl hv nx
    rw [show (pre ++ [x]).length = pre.length + 1 by simp] at ih
    cases hf : fewL 0 [x.v] with
    | false => exact q_few L pre post x key hL hLl hf l nx
    | true =>
      cases hp : x.pop with
      | true =>
        cases l with
        | nil => exact q_pop0 L pre post x key hL hLl hf hp (ih _ hl hv) nx
        | cons u l =>
          by_cases ht : u.token = x.tok
          · exact q_popyes L pre post x key hL hLl hf u l hl hv hp ht (ih l (by simp at hl; omega) (fun v h => hv v (List.mem_cons_of_mem _ h))) nx
          · exact q_popno L pre post x key hL hLl hf u l hl hv hp ht (ih _ hl hv) nx
      | false =>
        by_cases hr : VRt x.v
        · rcases List.eq_nil_or_concat l with rfl | ⟨q, u, rfl⟩
          · exact q_ok0 L pre post x key hL hLl hf hp hr (ih [x.v] (by show 1 ≤ 16; decide) (fun v h => by rw [List.mem_singleton] at h; subst h; exact hr)) nx
          · rw [List.concat_eq_append] at *
            by_cases ho : x.v.token ≤ u.token
            · exact q_old L pre post x key hL hLl hf q u hl hv hp hr ho (ih _ hl hv) nx
            · by_cases hfu : q.length + 1 < 16
              · refine q_ok1 L pre post x key hL hLl hf q u hl hv hp hr (by omega) hfu (ih _ (by simp; omega) (fun v h => ?_)) nx
                rcases List.mem_append.1 h with h | h
                · exact hv v h
                · rw [List.mem_singleton] at h; subst h; exact hr
              · exact q_full L pre post x key hL hLl hf q u hl hv hp hr (by omega) (by omega) (ih _ hl hv) nx
        · exact q_odd L pre post x key hL hLl hf l hl hv hp hr (ih _ hl hv) nx
theorem q_start (L : List QAct) (key : ByteArray) (hLl : L.length ≤ 80) (nx : Ctr) :
    RunsX Try.prog 0 (Gives [.t 4] (.bool true)) (i_law11_QueuePlays_0 ++ qK) (s_law11_QueuePlays_0 (qacts L) (.str key) (.ptr 0 5 0 0) .nils (.int .i64 (L.length : Nat)) (.int .i64 0)) [(0, 5, 0, some [.nils])] nx :=
  RunsX.wkT trivial (Wk.at1 (Wk1.nils 7) [_, _, .any, .any, .any, _] _) (RunsX.wkHeap trivial (WkH.cell (pre := []) (post := []) (Wk1.nils 7)) (q_loop L key hLl L [] rfl [] (by decide) (fun v h => by cases h) nx))
theorem queuePlays_calls (L : List QAct) (hL : L.length ≤ maxLen) (key : ByteArray) : PCalls Try.prog F_law11_QueuePlays [qacts L, .str key] (.bool true) := by
  have ca := awake11_calls
  by_cases h1 : L.length ≤ 80
  · by_cases h2 : key.size ≤ 100
    · refine calls_law11_QueuePlays (walk0 300 trivial (fun A eA => ?_))
      simp (disch := first | omega | (simp only [avs_len, List.length_cons, List.length_append, List.length_nil, List.length_take, List.length_drop, List.length_map]; omega) | (simp only [cells, scal1, allSz, List.length_cons, List.length_nil, List.length_append, List.length_map, List.all_cons, List.all_nil, avs_len, beq_self_eq_true, Bool.and_self, and_self, or_true, true_or, reduceCtorEq, *]; done) | fail) only [c_law11_QueuePlays, wl_law11_QueuePlays_3, s_law11_QueuePlays_3, c_law11_QueuePlays_l3, wb_law11_QueuePlays_3, c_law11_QueuePlays_k0, wb_law11_QueuePlays_1, c_law11_QueuePlays_k1, wl_law11_QueuePlays_0, s_law11_QueuePlays_0, c_law11_QueuePlays_l0, wb_law11_QueuePlays_0, c_law11_QueuePlays_k2, go_sem, Nat.reduceAdd, Nat.reduceSub, Nat.reduceMul, Nat.reduceLT, Nat.reduceLeDiff, Int.reduceToNat, Nat.reduceEqDiff, Nat.reduceBEq, ↓reduceIte, reduceCtorEq, eA, scal1]
      refine call0 300 trivial trivial ca (.inl rfl) (fun A eA => ?_)
      simp (disch := first | omega | (simp only [avs_len, List.length_cons, List.length_append, List.length_nil, List.length_take, List.length_drop, List.length_map]; omega) | (simp only [cells, scal1, allSz, List.length_cons, List.length_nil, List.length_append, List.length_map, List.all_cons, List.all_nil, avs_len, beq_self_eq_true, Bool.and_self, and_self, or_true, true_or, reduceCtorEq, *]; done) | fail) only [c_law11_QueuePlays, wl_law11_QueuePlays_3, s_law11_QueuePlays_3, c_law11_QueuePlays_l3, wb_law11_QueuePlays_3, c_law11_QueuePlays_k0, wb_law11_QueuePlays_1, c_law11_QueuePlays_k1, wl_law11_QueuePlays_0, s_law11_QueuePlays_0, c_law11_QueuePlays_l0, wb_law11_QueuePlays_0, c_law11_QueuePlays_k2, go_sem, Nat.reduceAdd, Nat.reduceSub, Nat.reduceMul, Nat.reduceLT, Nat.reduceLeDiff, Int.reduceToNat, Nat.reduceEqDiff, Nat.reduceBEq, ↓reduceIte, reduceCtorEq, eA, scal1, List.length_map]
      exact q_start L key h1 _
    · refine calls_law11_QueuePlays (walk0 300 trivial (fun A eA => ?_))
      simp (disch := first | omega | (simp only [avs_len, List.length_cons, List.length_append, List.length_nil, List.length_take, List.length_drop, List.length_map]; omega) | (simp only [cells, scal1, allSz, List.length_cons, List.length_nil, List.length_append, List.length_map, List.all_cons, List.all_nil, avs_len, beq_self_eq_true, Bool.and_self, and_self, or_true, true_or, reduceCtorEq, *]; done) | fail) only [c_law11_QueuePlays, wl_law11_QueuePlays_3, s_law11_QueuePlays_3, c_law11_QueuePlays_l3, wb_law11_QueuePlays_3, c_law11_QueuePlays_k0, wb_law11_QueuePlays_1, c_law11_QueuePlays_k1, wl_law11_QueuePlays_0, s_law11_QueuePlays_0, c_law11_QueuePlays_l0, wb_law11_QueuePlays_0, c_law11_QueuePlays_k2, go_sem, Nat.reduceAdd, Nat.reduceSub, Nat.reduceMul, Nat.reduceLT, Nat.reduceLeDiff, Int.reduceToNat, Nat.reduceEqDiff, Nat.reduceBEq, ↓reduceIte, reduceCtorEq, eA, scal1]
      refine call0 300 trivial trivial ca (.inl rfl) (fun A eA => ?_)
      simp (disch := first | omega | (simp only [avs_len, List.length_cons, List.length_append, List.length_nil, List.length_take, List.length_drop, List.length_map]; omega) | (simp only [cells, scal1, allSz, List.length_cons, List.length_nil, List.length_append, List.length_map, List.all_cons, List.all_nil, avs_len, beq_self_eq_true, Bool.and_self, and_self, or_true, true_or, reduceCtorEq, *]; done) | fail) only [c_law11_QueuePlays, wl_law11_QueuePlays_3, s_law11_QueuePlays_3, c_law11_QueuePlays_l3, wb_law11_QueuePlays_3, c_law11_QueuePlays_k0, wb_law11_QueuePlays_1, c_law11_QueuePlays_k1, wl_law11_QueuePlays_0, s_law11_QueuePlays_0, c_law11_QueuePlays_l0, wb_law11_QueuePlays_0, c_law11_QueuePlays_k2, go_sem, Nat.reduceAdd, Nat.reduceSub, Nat.reduceMul, Nat.reduceLT, Nat.reduceLeDiff, Int.reduceToNat, Nat.reduceEqDiff, Nat.reduceBEq, ↓reduceIte, reduceCtorEq, eA, scal1, List.length_map]
      refine call0 300 trivial trivial ca (.inl rfl) (fun A eA => ?_)
      simp (disch := first | omega | (simp only [avs_len, List.length_cons, List.length_append, List.length_nil, List.length_take, List.length_drop, List.length_map]; omega) | (simp only [cells, scal1, allSz, List.length_cons, List.length_nil, List.length_append, List.length_map, List.all_cons, List.all_nil, avs_len, beq_self_eq_true, Bool.and_self, and_self, or_true, true_or, reduceCtorEq, *]; done) | fail) only [c_law11_QueuePlays, wl_law11_QueuePlays_3, s_law11_QueuePlays_3, c_law11_QueuePlays_l3, wb_law11_QueuePlays_3, c_law11_QueuePlays_k0, wb_law11_QueuePlays_1, c_law11_QueuePlays_k1, wl_law11_QueuePlays_0, s_law11_QueuePlays_0, c_law11_QueuePlays_l0, wb_law11_QueuePlays_0, c_law11_QueuePlays_k2, go_sem, Nat.reduceAdd, Nat.reduceSub, Nat.reduceMul, Nat.reduceLT, Nat.reduceLeDiff, Int.reduceToNat, Nat.reduceEqDiff, Nat.reduceBEq, ↓reduceIte, reduceCtorEq, eA, scal1]
      exact doneG rfl
  · refine calls_law11_QueuePlays (walk0 300 trivial (fun A eA => ?_))
    simp (disch := first | omega | (simp only [avs_len, List.length_cons, List.length_append, List.length_nil, List.length_take, List.length_drop, List.length_map]; omega) | (simp only [cells, scal1, allSz, List.length_cons, List.length_nil, List.length_append, List.length_map, List.all_cons, List.all_nil, avs_len, beq_self_eq_true, Bool.and_self, and_self, or_true, true_or, reduceCtorEq, *]; done) | fail) only [c_law11_QueuePlays, wl_law11_QueuePlays_3, s_law11_QueuePlays_3, c_law11_QueuePlays_l3, wb_law11_QueuePlays_3, c_law11_QueuePlays_k0, wb_law11_QueuePlays_1, c_law11_QueuePlays_k1, wl_law11_QueuePlays_0, s_law11_QueuePlays_0, c_law11_QueuePlays_l0, wb_law11_QueuePlays_0, c_law11_QueuePlays_k2, go_sem, Nat.reduceAdd, Nat.reduceSub, Nat.reduceMul, Nat.reduceLT, Nat.reduceLeDiff, Int.reduceToNat, Nat.reduceEqDiff, Nat.reduceBEq, ↓reduceIte, reduceCtorEq, eA, scal1]
    refine call0 300 trivial trivial ca (.inl rfl) (fun A eA => ?_)
    simp (disch := first | omega | (simp only [avs_len, List.length_cons, List.length_append, List.length_nil, List.length_take, List.length_drop, List.length_map]; omega) | (simp only [cells, scal1, allSz, List.length_cons, List.length_nil, List.length_append, List.length_map, List.all_cons, List.all_nil, avs_len, beq_self_eq_true, Bool.and_self, and_self, or_true, true_or, reduceCtorEq, *]; done) | fail) only [c_law11_QueuePlays, wl_law11_QueuePlays_3, s_law11_QueuePlays_3, c_law11_QueuePlays_l3, wb_law11_QueuePlays_3, c_law11_QueuePlays_k0, wb_law11_QueuePlays_1, c_law11_QueuePlays_k1, wl_law11_QueuePlays_0, s_law11_QueuePlays_0, c_law11_QueuePlays_l0, wb_law11_QueuePlays_0, c_law11_QueuePlays_k2, go_sem, Nat.reduceAdd, Nat.reduceSub, Nat.reduceMul, Nat.reduceLT, Nat.reduceLeDiff, Int.reduceToNat, Nat.reduceEqDiff, Nat.reduceBEq, ↓reduceIte, reduceCtorEq, eA, scal1, List.length_map]
    refine call0 300 trivial trivial ca (.inl rfl) (fun A eA => ?_)
    simp (disch := first | omega | (simp only [avs_len, List.length_cons, List.length_append, List.length_nil, List.length_take, List.length_drop, List.length_map]; omega) | (simp only [cells, scal1, allSz, List.length_cons, List.length_nil, List.length_append, List.length_map, List.all_cons, List.all_nil, avs_len, beq_self_eq_true, Bool.and_self, and_self, or_true, true_or, reduceCtorEq, *]; done) | fail) only [c_law11_QueuePlays, wl_law11_QueuePlays_3, s_law11_QueuePlays_3, c_law11_QueuePlays_l3, wb_law11_QueuePlays_3, c_law11_QueuePlays_k0, wb_law11_QueuePlays_1, c_law11_QueuePlays_k1, wl_law11_QueuePlays_0, s_law11_QueuePlays_0, c_law11_QueuePlays_l0, wb_law11_QueuePlays_0, c_law11_QueuePlays_k2, go_sem, Nat.reduceAdd, Nat.reduceSub, Nat.reduceMul, Nat.reduceLT, Nat.reduceLeDiff, Int.reduceToNat, Nat.reduceEqDiff, Nat.reduceBEq, ↓reduceIte, reduceCtorEq, eA, scal1]
    exact doneG rfl
end Go.Proofs.Ytmokhopjnjecbab
/- Rows of bytes out of a row's reading of the arguments. -/
namespace Go.Proofs.Ytmokhopjnjecbab.Sized
open Go.ChangeShapes Go.WideShapes Go.RowKit
open Go.Ev (PCalls Rep Reps none4 zeroC avs avs_get avs_len add_mk)
set_option linter.unusedVariables false
set_option linter.unusedSimpArgs false
/-- A slice of whole numbers, opened. -/
def IsRow (k : IntKind) (w : World) (a : Option Addr) (len cap : Nat) (zs : List Int) : Prop :=
  (a = none ∧ len = 0 ∧ cap = 0 ∧ zs = []) ∨
  ∃ x, a = some x ∧ len ≤ cap ∧ cap ≤ maxLen ∧ zs.length = cap ∧ (∀ i, i < zs.length → w.cell? (x.add i) = some (.int k (zs.getD i 0))) ∧ ∀ n ∈ zs, (Lit.int k n).wf = true
theorem rep_bytes {w : World} {a : Option Addr} {len cap : Nat} {zs : List Int} (h : IsRow .u8 w a len cap zs) :
    ∃ bs : List Nat, (∀ b ∈ bs, b < 256) ∧ bs.length = len ∧ Rep none4 (fun _ => False) zeroC w true (.fz 1 (avs bs) none) (.slice a len cap) := by
  rcases h with ⟨rfl, rfl, rfl, rfl⟩ | ⟨x, rfl, hl, hm, hz, hcell, hwf⟩
  · exact ⟨[], by simp, rfl, .fz0 (by simp) (fun _ => ⟨rfl, rfl⟩)⟩
  · have hrange : ∀ n ∈ zs, 0 ≤ n ∧ n < 256 := by
      intro n hn
      have := hwf n hn
      simp [Lit.wf, IntKind.min, IntKind.max, IntKind.signed, IntKind.bits] at this
      omega
    have hlen : ((zs.take len).map Int.toNat).length = len := by simp; omega
    refine ⟨(zs.take len).map Int.toNat, ?_, hlen, ?_⟩
    · intro b hb
      obtain ⟨n, hn, rfl⟩ := List.mem_map.1 hb
      have := hrange n (List.mem_of_mem_take hn)
      omega
    · by_cases h0 : len = 0
      · subst h0
        simp only [List.take_zero, List.map_nil, avs]
        exact .fz0 (by simp) (fun e => by cases e)
      · have hal : (avs ((zs.take len).map Int.toNat)).length = len := by rw [avs_len]; exact hlen
        have hsl : (Value.slice (some x) len cap) = .slice (some x) (avs ((zs.take len).map Int.toNat)).length cap := by rw [hal]
        rw [hsl]
        have hget : ∀ (i : Nat) e, (avs ((zs.take len).map Int.toNat))[i]? = some e → i < zs.length ∧ e = .int .u8 (zs.getD i 0) := by
          intro i e hi
          have hlt : i < len := by have := (List.getElem?_eq_some_iff.1 hi).1; omega
          rw [avs_get, List.getElem?_map, List.getElem?_take_of_lt hlt, List.getElem?_eq_getElem (by omega)] at hi
          simp at hi
          subst hi
          refine ⟨by omega, ?_⟩
          have := hrange zs[i] (List.getElem_mem (by omega))
          have e2 : zs.getD i 0 = zs[i] := by simp [List.getD, show i < zs.length by omega]
          rw [e2]
          congr 1
          omega
        refine .fz (fun i _ => .int .u8 (zs.getD i 0)) (fun e => by rw [e] at hal; simp at hal; omega) (by omega) (by simp) (fun i e hi => ?_) (fun i e j y hi hj => ?_) (fun i e j y hi hj => ?_) (fun i e j y hi hj => rfl) ⟨fun _ _ _ h => h, fun h => h, ?_⟩
        · obtain ⟨_, rfl⟩ := hget i e hi; rfl
        · obtain ⟨hlt, rfl⟩ := hget i e hi
          cases j with
          | succ j => simp [Ev.cells] at hj
          | zero => rw [Nat.mul_one, Nat.add_zero]; exact hcell i hlt
        · obtain ⟨hlt, rfl⟩ := hget i e hi
          cases j with
          | succ j => simp [Ev.cells] at hj
          | zero => simp [Ev.cells] at hj; subst hj; exact .int
        · have := hcell 0 (by omega)
          have := World.block_lt_of_cell? w _ this
          rwa [Ev.add_block] at this
/-- A slice of rows of bytes, opened. -/
theorem rep_rows {H : Type} {enc : TypeId × Value → H} {P : Program} {w : World} {base : Nat} {held : Bool} {fuel : Nat} {t e b : TypeId} {a : Option Addr} {len cap : Nat} {x : DataW H × List MemPlace}
    (ht : P.underlying t = some (.slice e)) (he : P.underlying e = some (.slice b)) (hb : P.underlying b = some (.int .u8)) (hc1 : P.cellsOf e = 1) (hc2 : P.cellsOf b = 1)
    (h : DataW.trod enc P w base (fun _ => true) held fuel t [.slice a len cap] = some x) :
    ∃ ls : List (List Nat), ls.length = len ∧ (∀ l ∈ ls, ∀ b ∈ l, b < 256) ∧ Rep none4 (fun _ => False) zeroC w true (.fz 1 (ls.map fun l => .fz 1 (avs l) none) none) (.slice a len cap) := by
  rcases DataW.trod_slice ht h with ⟨hcs, _⟩ | ⟨a', len', cap', elems, rest, n, _, hcs, rfl, hbb, hl, hm, hlen, hel, _, _⟩
  · simp only [List.cons.injEq, Value.slice.injEq, and_true] at hcs
    obtain ⟨rfl, rfl, rfl⟩ := hcs
    exact ⟨[], rfl, by simp, .fz0 (by simp) (fun _ => ⟨rfl, rfl⟩)⟩
  · simp only [List.cons.injEq, Value.slice.injEq, and_true] at hcs
    obtain ⟨rfl, rfl, rfl⟩ := hcs
    have each : ∀ i, i < len → ∃ (bs : List Nat) (v : Value), (∀ b ∈ bs, b < 256) ∧ w.cell? (a'.add i) = some v ∧ Rep none4 (fun _ => False) zeroC w true (.fz 1 (avs bs) none) v ∧ v.oneCell' = true := by
      intro i hi
      have h1 := hel i hi
      rw [List.getElem?_eq_getElem (by omega), hc1, Nat.mul_one, Option.bind_eq_some_iff] at h1
      obtain ⟨cs', h2, h3⟩ := h1
      have row : ∃ a1 l1 c1 zs, cs' = [.slice a1 l1 c1] ∧ IsRow .u8 w a1 l1 c1 zs := by
        rcases open_ints he hb hc2 h3 with ⟨rfl, _⟩ | ⟨x1, l1, c1, zs, rfl, _, hl1, hm1, hz, _, hcell, hwz⟩
        · exact ⟨none, 0, 0, [], rfl, .inl ⟨rfl, rfl, rfl, rfl⟩⟩
        · exact ⟨some x1, l1, c1, zs, rfl, .inr ⟨x1, rfl, hl1, hm1, by simpa using hz, hcell, hwz⟩⟩
      obtain ⟨a1, l1, c1, zs, rfl, hrow⟩ := row
      obtain ⟨bs, hbs, _, hrep⟩ := rep_bytes hrow
      exact ⟨bs, _, hbs, cell_of_cells?_one h2, hrep, rfl⟩
    obtain ⟨f, hf⟩ : ∃ f : Nat → List Nat × Value, ∀ i, i < len → (∀ b ∈ (f i).1, b < 256) ∧ w.cell? (a'.add i) = some (f i).2 ∧ Rep none4 (fun _ => False) zeroC w true (.fz 1 (avs (f i).1) none) (f i).2 ∧ (f i).2.oneCell' = true :=
      ⟨fun i => if hi : i < len then (Classical.choose (each i hi), Classical.choose (Classical.choose_spec (each i hi))) else ([], undef), fun i hi => by
        simp only [dif_pos hi]
        exact Classical.choose_spec (Classical.choose_spec (each i hi))⟩
    clear each
    refine ⟨(List.range len).map fun i => (f i).1, by simp, ?_, ?_⟩
    · intro l hl'
      obtain ⟨i, hi, rfl⟩ := List.mem_map.1 hl'
      exact (hf i (List.mem_range.1 hi)).1
    · by_cases h0 : len = 0
      · subst h0
        exact .fz0 (by simp) (fun e => by cases e)
      · have hget : ∀ (i : Nat) y, (((List.range len).map fun i => (f i).1).map fun l => Ev.AV.fz 1 (avs l) none)[i]? = some y → i < len ∧ y = .fz 1 (avs (f i).1) none := by
          intro i y hy
          have hi : i < len := by have := (List.getElem?_eq_some_iff.1 hy).1; simpa using this
          simp [List.getElem?_map, hi] at hy
          exact ⟨hi, hy.symm⟩
        have hsl : (Value.slice (some a') len cap) = .slice (some a') (((List.range len).map fun i => (f i).1).map fun l => Ev.AV.fz 1 (avs l) none).length cap := by simp
        rw [hsl]
        refine .fz (fun i _ => (f i).2) (fun e => by have := congrArg List.length e; simp at this; omega) (by simpa using hl) (by simp) (fun i y hy => ?_) (fun i y j z hy hj => ?_) (fun i y j z hy hj => ?_) (fun i y j z hy hj => ?_) ⟨fun _ _ _ h => h, fun h => h, ?_⟩
        · obtain ⟨hi, rfl⟩ := hget i y hy; rfl
        · obtain ⟨hi, rfl⟩ := hget i y hy
          cases j with
          | succ j => simp [Ev.cells] at hj
          | zero => rw [Nat.mul_one, Nat.add_zero]; exact (hf i hi).2.1
        · obtain ⟨hi, rfl⟩ := hget i y hy
          cases j with
          | succ j => simp [Ev.cells] at hj
          | zero =>
            simp [Ev.cells] at hj; subst hj
            exact (hf i hi).2.2.1
        · obtain ⟨hi, rfl⟩ := hget i y hy
          exact (hf i hi).2.2.2
        · have := World.block_lt_of_cell? w _ (hf 0 (by omega)).2.1
          rwa [Ev.add_block] at this
/-- A row's slice of whole numbers is no longer than its weight allows. -/
theorem sized_ints {H : Type} {enc : TypeId × Value → H} {P : Program} {W : World} {base : Nat} {spare : Nat → Bool} {held : Bool} {t e : TypeId} {k : IntKind} {a : Option Addr} {len cap : Nat} {d : DataW H} {ps : List MemPlace} {ts : List TypeId} {ds : List (DataW H)} {j : Nat}
    (hsz : (DataW.weightsEach P ts ds).all (· ≤ reachBytes) = true) (ht : ts[j]? = some t) (hd : ds[j]? = some d) (hu : P.underlying t = some (.slice e)) (he : P.underlying e = some (.int k)) (hc : P.cellsOf e = 1) {B : Nat} (hB : P.bytesOf e = B)
    (h : DataW.Trod enc P W base spare held t (.slice a len cap) d ps) : len * B ≤ 140737488351232 := by
  obtain ⟨fuel, hf⟩ := h
  rcases open_ints hu he hc hf with ⟨hcs, _⟩ | ⟨x, l, c, zs, hcs, _, hl, _, hz, hx, _, _⟩
  · simp [Value.cells] at hcs
    obtain ⟨rfl, rfl, rfl⟩ := hcs
    simp
  · simp [Value.cells] at hcs
    obtain ⟨rfl, rfl, rfl⟩ := hcs
    obtain ⟨hx, _⟩ := Prod.mk.inj hx
    subst hx
    have z := sized_slice hsz ht hd hu
    rw [hB] at z
    have hl2 : len ≤ zs.length := by
      rw [hz]
      split
      · exact hl
      · exact Nat.le_refl _
    have h1 : (lits (H := H) k (zs.take len)).length + (lits (H := H) k (zs.drop len)).length = zs.length := by
      simp [lits]
      omega
    rw [h1] at z
    exact Nat.le_trans (Nat.mul_le_mul_right _ hl2) z
end Go.Proofs.Ytmokhopjnjecbab.Sized
/- Whatever data a row reads as an argument: its cells by their types, as abstract values. -/
namespace Go.Ev
open Go.ChangeShapes Go.WideShapes Go.RowKit
set_option linter.unusedVariables false
set_option linter.unusedSimpArgs false
/-- The types of cells. -/
inductive Sh where
  | int (k : IntKind) | bool | str | sl (e : TypeId)
def shFields (P : Program) (f : TypeId → Option (List Sh)) : Nat → List Field → Option (List Sh)
  | _, [] => some []
  | o, fd :: l => if fd.offset = o then (match f fd.type with
    | some a => if P.cellsOf fd.type = a.length then (match shFields P f (o + a.length) l with
      | some b => some (a ++ b)
      | none => none) else none
    | none => none) else none
def shapes (P : Program) : Nat → TypeId → Option (List Sh)
  | 0, _ => none
  | n + 1, t => match P.underlying t with
    | some (.int k) => some [.int k]
    | some .bool => some [.bool]
    | some .string => some [.str]
    | some (.slice e) => some [.sl e]
    | some (.struct fs) => (match shFields P (shapes P n) 0 fs.toList with
      | some ss => if P.cellsOf t = ss.length then some ss else none
      | none => none)
    | _ => none
/-- Structs are told as their cells. -/
def mkE (P : Program) (e : TypeId) (xs : List AV) : AV := match P.underlying e with
  | some (.struct _) => .agg xs
  | _ => xs.headD .any
inductive CellOk (P : Program) : Sh → AV → Prop
  | int {k n} (h : (Lit.int k n).wf = true) : CellOk P (.int k) (.int k n)
  | bool {b} : CellOk P .bool (.bool b)
  | str {s : ByteArray} (h : s.size ≤ maxLen) : CellOk P .str (.str s)
  | sl {e ss es} (hs : shapes P 9 e = some ss) (hlen : es.length ≤ maxLen) (hl : ∀ y ∈ es, (cells y).length = ss.length) (hf : ∀ y ∈ es, y = mkE P e (cells y))
      (h : ∀ y ∈ es, ∀ (j : Nat) s c, ss[j]? = some s → (cells y)[j]? = some c → CellOk P s c) : CellOk P (.sl e) (.fz ss.length es none)
/-- Cell by cell: typed, and standing for that value. -/
inductive All3 (P : Program) (w : World) : List Sh → List AV → List Value → Prop
  | nil : All3 P w [] [] []
  | cons {s c v ss xs vs} (hc : CellOk P s c) (hr : Rep none4 (fun _ => False) zeroC w true c v) (h1 : v.oneCell' = true) (t : All3 P w ss xs vs) : All3 P w (s :: ss) (c :: xs) (v :: vs)
section
variable {P : Program} {w : World}
theorem All3.append {ss xs vs ss' xs' vs'} (h : All3 P w ss xs vs) (h' : All3 P w ss' xs' vs') : All3 P w (ss ++ ss') (xs ++ xs') (vs ++ vs') := by
  induction h with
  | nil => exact h'
  | cons a b c t ih => exact .cons a b c ih
theorem All3.len {ss xs vs} (h : All3 P w ss xs vs) : xs.length = ss.length ∧ vs.length = ss.length := by
  induction h with
  | nil => exact ⟨rfl, rfl⟩
  | cons a b c t ih => simp only [List.length_cons]; omega
theorem All3.get {ss xs vs} (h : All3 P w ss xs vs) : ∀ (j : Nat) x, xs[j]? = some x → ∃ s v, ss[j]? = some s ∧ vs[j]? = some v ∧ CellOk P s x ∧ Rep none4 (fun _ => False) zeroC w true x v ∧ v.oneCell' = true := by
  induction h with
  | nil => intro j x hx; simp at hx
  | cons a b c t ih =>
    intro j x hx
    cases j with
    | zero => simp at hx; subst hx; exact ⟨_, _, rfl, rfl, a, b, c⟩
    | succ j => simp at hx; simpa using ih j x hx
theorem CellOk.one {s : Sh} {c : AV} (h : CellOk P s c) : cells c = [c] := by cases h <;> rfl
theorem shapes_scalar {n : Nat} {t : TypeId} {ss : List Sh} (h : shapes P (n + 1) t = some ss) (hn : ∀ fs, P.underlying t ≠ some (.struct fs)) : ss.length = 1 := by
  simp only [shapes] at h
  split at h
  · simp at h; subst h; rfl
  · simp at h; subst h; rfl
  · simp at h; subst h; rfl
  · simp at h; subst h; rfl
  · rename_i fs hf; exact absurd hf (hn fs)
  · cases h
theorem cells_mkE {e : TypeId} {ss : List Sh} (hs : shapes P 9 e = some ss) {xs : List AV} {vs : List Value} (h : All3 P w ss xs vs) : cells (mkE P e xs) = xs := by
  unfold mkE
  split
  · rfl
  · rename_i hn
    have h1 := shapes_scalar hs (fun fs hf => hn fs hf)
    have hl := h.len.1
    match xs, hl with
    | [c], _ =>
      obtain ⟨s, v, _, _, hc, _⟩ := h.get 0 c rfl
      exact hc.one
    | [], hl => simp at hl; omega
    | _ :: _ :: _, hl => simp at hl; omega
/-- The types of elements, all with shapes, closed. -/
def okEs (P : Program) (Es : List TypeId) : Bool := Es.all fun e => match shapes P 9 e with
  | some ss => P.cellsOf e == ss.length && (ss.length != 0 && ss.all (fun s => match s with | .sl e' => Es.contains e' | _ => true))
  | none => false
def inEs (Es : List TypeId) (ss : List Sh) : Prop := ∀ e, Sh.sl e ∈ ss → e ∈ Es
theorem okEs_get {Es : List TypeId} (h : okEs P Es = true) {e : TypeId} (he : e ∈ Es) : ∃ ss, shapes P 9 e = some ss ∧ P.cellsOf e = ss.length ∧ 0 < ss.length ∧ inEs Es ss := by
  have := List.all_eq_true.1 h e he
  split at this
  · rename_i ss hs
    simp only [Bool.and_eq_true, beq_iff_eq, bne_iff_ne, ne_eq, List.all_eq_true] at this
    refine ⟨ss, hs, this.1, by omega, fun e' he' => ?_⟩
    simpa using this.2.2 _ he'
  · cases this
theorem fields_cells {H : Type} {enc : TypeId × Value → H} {base : Nat} {held : Bool} {Es : List TypeId} {n m : Nat} {cs : List Value}
    (ih : ∀ (t : TypeId) (ss : List Sh) (cs : List Value) (x : DataW H × List MemPlace), shapes P n t = some ss → inEs Es ss → DataW.trod enc P w base (fun _ => true) held m t cs = some x → ∃ xs, All3 P w ss xs cs) :
    ∀ (l : List Field) (o : Nat) (ss : List Sh), shFields P (shapes P n) o l = some ss → inEs Es ss → o + ss.length ≤ cs.length →
      (∀ f ∈ l, ∃ x, DataW.trod enc P w base (fun _ => true) held m f.type ((cs.drop f.offset).take (P.cellsOf f.type)) = some x) → ∃ xs, All3 P w ss xs ((cs.drop o).take ss.length)
  | [], o, ss, h, _, _, _ => by simp [shFields] at h; subst h; exact ⟨[], by simpa using All3.nil⟩
  | f :: l, o, ss, h, hE, hlen, hf => by
    simp only [shFields] at h
    split at h
    case isFalse => cases h
    rename_i ho
    split at h
    case h_2 => cases h
    rename_i a ha
    split at h
    case isFalse => cases h
    rename_i hc
    split at h
    case h_2 => cases h
    rename_i b hb
    simp only [Option.some.injEq] at h
    subst h
    rw [List.length_append] at hlen ⊢
    obtain ⟨x, hx⟩ := hf f List.mem_cons_self
    rw [ho, hc] at hx
    obtain ⟨ys, hys⟩ := ih _ _ _ _ ha (fun e he => hE e (List.mem_append_left _ he)) hx
    obtain ⟨zs, hzs⟩ := fields_cells ih l (o + a.length) b hb (fun e he => hE e (List.mem_append_right _ he)) (by omega) (fun g hg => hf g (List.mem_cons_of_mem _ hg))
    refine ⟨ys ++ zs, ?_⟩
    have := hys.append hzs
    rwa [← List.drop_drop, ← List.take_add] at this
theorem rep_cells {H : Type} {enc : TypeId × Value → H} {base : Nat} {held : Bool} {Es : List TypeId} (hEs : okEs P Es = true) :
    ∀ (fuel n : Nat) (t : TypeId) (ss : List Sh) (cs : List Value) (x : DataW H × List MemPlace), shapes P n t = some ss → inEs Es ss → DataW.trod enc P w base (fun _ => true) held fuel t cs = some x → ∃ xs, All3 P w ss xs cs := by
  intro fuel
  induction fuel using Nat.strongRecOn with
  | ind fuel ih =>
    intro n t ss cs x hs hE h
    cases n with
    | zero => simp [shapes] at hs
    | succ n =>
      simp only [shapes] at hs
      split at hs
      · rename_i k hu
        simp only [Option.some.injEq] at hs; subst hs
        obtain ⟨z, rfl, _, hw⟩ := DataW.trod_int hu h
        exact ⟨[.int k z], .cons (.int hw) .int rfl .nil⟩
      · rename_i hu
        simp only [Option.some.injEq] at hs; subst hs
        obtain ⟨b, rfl, _⟩ := DataW.trod_bool hu h
        exact ⟨[.bool b], .cons .bool .bool rfl .nil⟩
      · rename_i hu
        simp only [Option.some.injEq] at hs; subst hs
        obtain ⟨b, rfl, _, hb⟩ := DataW.trod_string hu h
        exact ⟨[.str b], .cons (.str hb) .str rfl .nil⟩
      · rename_i e hu
        simp only [Option.some.injEq] at hs; subst hs
        obtain ⟨se, hse, hce, hpos, hEe⟩ := okEs_get hEs (hE e List.mem_cons_self)
        rcases DataW.trod_slice hu h with ⟨hcs, _⟩ | ⟨a', len, cap, elems, rest, m, hm, hcs, _, hbb, hl, hmx, hle, hel, _, _⟩
        · subst hcs
          exact ⟨[.fz se.length [] none], .cons (.sl hse (by simp) (by simp) (by simp) (by simp)) (.fz0 (by simp) (fun _ => ⟨rfl, rfl⟩)) rfl .nil⟩
        · subst hcs
          have each : ∀ i, i < len → ∃ q : List AV × List Value, All3 P w se q.1 q.2 ∧ ∀ (j : Nat) v, q.2[j]? = some v → w.cell? (a'.add (i * se.length + j)) = some v := by
            intro i hi
            have h1 := hel i hi
            rw [List.getElem?_eq_getElem (by omega), hce, Option.bind_eq_some_iff] at h1
            obtain ⟨cs', h3, h4⟩ := h1
            obtain ⟨xs, hx⟩ := ih m (by omega) 9 e se cs' _ hse hEe h4
            refine ⟨(xs, cs'), hx, fun j v hv => ?_⟩
            have hc := (World.cells?_some h3).2.2
            have hv' : cs'[j]? = some v := hv
            have hj : j < se.length := by have := (List.getElem?_eq_some_iff.1 hv').1; have := hx.len.2; omega
            have g := hc j hj
            rw [Ev.add_add] at g
            rw [g]; exact hv
          obtain ⟨f, hf⟩ : ∃ f : Nat → List AV × List Value, ∀ i, i < len → All3 P w se (f i).1 (f i).2 ∧ ∀ (j : Nat) v, (f i).2[j]? = some v → w.cell? (a'.add (i * se.length + j)) = some v :=
            ⟨fun i => if hi : i < len then Classical.choose (each i hi) else ([], []), fun i hi => by
              simp only [dif_pos hi]
              exact Classical.choose_spec (each i hi)⟩
          have hcE : ∀ i, i < len → cells (mkE P e (f i).1) = (f i).1 := fun i hi => cells_mkE hse (hf i hi).1
          obtain ⟨es, hes⟩ : ∃ es, es = (List.range len).map fun i => mkE P e (f i).1 := ⟨_, rfl⟩
          have hlen2 : es.length = len := by rw [hes]; simp
          have hget : ∀ (i : Nat) y, es[i]? = some y → i < len ∧ y = mkE P e (f i).1 := by
            intro i y hy
            have hi : i < len := by have := (List.getElem?_eq_some_iff.1 hy).1; omega
            rw [hes, List.getElem?_map, List.getElem?_range hi] at hy
            simp only [Option.map_some, Option.some.injEq] at hy
            exact ⟨hi, hy.symm⟩
          have hmem : ∀ y ∈ es, ∃ i, i < len ∧ y = mkE P e (f i).1 := by
            intro y hy
            obtain ⟨i, hi⟩ := List.mem_iff_getElem?.1 hy
            exact ⟨i, hget i y hi⟩
          refine ⟨[.fz se.length es none], .cons (.sl hse (by omega) (fun y hy => ?_) (fun y hy => ?_) (fun y hy j s c h1 h2 => ?_)) ?_ rfl .nil⟩
          · obtain ⟨i, hi, rfl⟩ := hmem y hy
            rw [hcE i hi]; exact (hf i hi).1.len.1
          · obtain ⟨i, hi, rfl⟩ := hmem y hy
            rw [hcE i hi]
          · obtain ⟨i, hi, rfl⟩ := hmem y hy
            rw [hcE i hi] at h2
            obtain ⟨s', v, h3, _, h4, _⟩ := (hf i hi).1.get j c h2
            rw [h1] at h3; cases h3
            exact h4
          · by_cases h0 : len = 0
            · subst h0
              have : es = [] := List.eq_nil_of_length_eq_zero hlen2
              subst this
              exact .fz0 (by simp) (fun e => by cases e)
            · have hsl : (Value.slice (some a') len cap) = .slice (some a') es.length cap := by rw [hlen2]
              rw [hsl]
              have one : ∀ (i : Nat) y (j : Nat) z, es[i]? = some y → (cells y)[j]? = some z → ∃ v, (f i).2[j]? = some v ∧ w.cell? (a'.add (i * se.length + j)) = some v ∧ Rep none4 (fun _ => False) zeroC w true z v ∧ v.oneCell' = true := by
                intro i y j z hy hj
                obtain ⟨hi, rfl⟩ := hget i y hy
                rw [hcE i hi] at hj
                obtain ⟨s', v, _, h3, _, h5, h6⟩ := (hf i hi).1.get j z hj
                exact ⟨v, h3, (hf i hi).2 j v h3, h5, h6⟩
              refine .fz (fun i j => ((f i).2[j]?).getD undef) (fun e => by rw [e] at hlen2; simp at hlen2; omega) (by omega) (by simp) (fun i y hy => ?_) (fun i y j z hy hj => ?_) (fun i y j z hy hj => ?_) (fun i y j z hy hj => ?_) ⟨fun _ _ _ h => h, fun h => h, ?_⟩
              · obtain ⟨hi, rfl⟩ := hget i y hy
                rw [hcE i hi]; exact (hf i hi).1.len.1
              · obtain ⟨v, h1, h2, _⟩ := one i y j z hy hj
                rw [h1]; exact h2
              · obtain ⟨v, h1, _, h2, _⟩ := one i y j z hy hj
                rw [h1]; exact h2
              · obtain ⟨v, h1, _, _, h2⟩ := one i y j z hy hj
                rw [h1]; exact h2
              · have hl2 := (hf 0 (by omega)).1.len.2
                have := World.block_lt_of_cell? w _ ((hf 0 (by omega)).2 0 _ (List.getElem?_eq_getElem (by omega)))
                rwa [Ev.add_block] at this
      · rename_i fs hu
        split at hs
        case h_2 => cases hs
        rename_i ss' hsf
        split at hs
        case isFalse => cases hs
        rename_i hct
        simp only [Option.some.injEq] at hs; subst hs
        obtain ⟨xs, m, hm, rfl, hl, hlen, hf⟩ := DataW.trod_struct hu h
        have hl' : cs.length = ss'.length := by omega
        obtain ⟨ys, hys⟩ := fields_cells (Es := Es) (n := n) (m := m) (cs := cs) (fun t ss cs x h1 h2 h3 => ih m (by omega) n t ss cs x h1 h2 h3) fs.toList 0 ss' hsf hE (by omega) (fun f hmemf => by
          obtain ⟨i, hi⟩ := List.mem_iff_getElem?.1 hmemf
          have hi' : fs[i]? = some f := by simpa using hi
          have h1 := hf i f hi'
          have hlt : i < xs.length := by have := (List.getElem?_eq_some_iff.1 hi).1; simp at this; omega
          rw [List.getElem?_eq_getElem hlt] at h1
          exact ⟨_, h1⟩)
        refine ⟨ys, ?_⟩
        rw [List.drop_zero, List.take_of_length_le (by omega)] at hys
        exact hys
      · cases hs
/-- An argument of a struct type. -/
theorem rep_struct {H : Type} {enc : TypeId × Value → H} {base : Nat} {held : Bool} (Es : List TypeId) {t : TypeId} {ss : List Sh} {vs : Array Value} {d : DataW H} {ps : List MemPlace}
    (hEs : okEs P Es = true) (hs : shapes P 9 t = some ss) (hE : inEs Es ss) (h : DataW.Trod enc P w base (fun _ => true) held t (.agg vs) d ps) :
    ∃ xs, xs.length = ss.length ∧ (∀ (j : Nat) s x, ss[j]? = some s → xs[j]? = some x → CellOk P s x) ∧ Rep none4 (fun _ => False) zeroC w true (.agg xs) (.agg vs) := by
  obtain ⟨fuel, hf⟩ := h
  obtain ⟨xs, hx⟩ := rep_cells hEs fuel 9 t ss _ _ hs hE hf
  have hcs : (Value.agg vs).cells.toList = vs.toList := rfl
  rw [hcs] at hx
  have hl := hx.len
  refine ⟨xs, hl.1, fun j s x h1 h2 => ?_, .agg (by rw [← Array.length_toList]; omega) (fun j x hj => ?_)⟩
  · obtain ⟨s', v, h3, _, h4, _⟩ := hx.get j x h2
    rw [h1] at h3; cases h3
    exact h4
  · obtain ⟨s', v, _, h3, _, h4, _⟩ := hx.get j x hj
    have : vs.getD j undef = v := by
      rw [Array.getElem?_toList] at h3
      rw [Array.getD_eq_getD_getElem?, h3]; rfl
    rw [this]; exact h4
/-- An argument of a slice's type. -/
theorem rep_slice {H : Type} {enc : TypeId × Value → H} {base : Nat} {held : Bool} (Es : List TypeId) {t e : TypeId} {a : Option Addr} {len cap : Nat} {d : DataW H} {ps : List MemPlace}
    (hEs : okEs P Es = true) (hs : P.underlying t = some (.slice e)) (hE : e ∈ Es) (h : DataW.Trod enc P w base (fun _ => true) held t (.slice a len cap) d ps) :
    ∃ x, CellOk P (.sl e) x ∧ Rep none4 (fun _ => False) zeroC w true x (.slice a len cap) := by
  obtain ⟨fuel, hf⟩ := h
  have hsh : shapes P 9 t = some [.sl e] := by simp only [shapes, hs]
  obtain ⟨xs, hx⟩ := rep_cells hEs fuel 9 t _ _ _ hsh (fun e' he' => by simp at he'; subst he'; exact hE) hf
  have hcs : (Value.slice a len cap).cells.toList = [.slice a len cap] := rfl
  rw [hcs] at hx
  have hl := hx.len
  match xs, hl with
  | [x], _ =>
    obtain ⟨s', v, h1, h3, h2, h4, _⟩ := hx.get 0 x rfl
    simp at h1 h3; subst h1 h3
    exact ⟨x, h2, h4⟩
  | [], hl => simp at hl
  | _ :: _ :: _, hl => simp at hl
end
end Go.Ev
/- Cells of known types, told as plain things: events, rows of bytes. -/
namespace Go.Ev
set_option linter.unusedVariables false
theorem CellOk.int_inv {P : Program} {k : IntKind} {x : AV} (h : CellOk P (.int k) x) : ∃ n, x = .int k n ∧ (Lit.int k n).wf = true := by
  cases h with | int h => exact ⟨_, rfl, h⟩
theorem CellOk.bool_inv {P : Program} {x : AV} (h : CellOk P .bool x) : ∃ b, x = .bool b := by
  cases h; exact ⟨_, rfl⟩
theorem CellOk.str_inv {P : Program} {x : AV} (h : CellOk P .str x) : ∃ s, x = .str s ∧ s.size ≤ maxLen := by
  cases h with | str h => exact ⟨_, rfl, h⟩
/-- Each element of a row of structs, by its cells. -/
theorem CellOk.sl_inv {P : Program} {e : TypeId} {ss : List Sh} {x : AV} (h : CellOk P (.sl e) x) (hs : shapes P 9 e = some ss) : ∃ es : List AV, x = .fz ss.length es none ∧ es.length ≤ maxLen ∧ ∀ y ∈ es, y = mkE P e (cells y) ∧ (cells y).length = ss.length ∧ ∀ (j : Nat) s c, ss[j]? = some s → (cells y)[j]? = some c → CellOk P s c := by
  cases h with
  | @sl _ ss' es hs' hlen hl hf h =>
    rw [hs] at hs'; cases hs'
    exact ⟨es, rfl, hlen, fun y hy => ⟨hf y hy, hl y hy, h y hy⟩⟩
theorem mkE_struct {P : Program} {e : TypeId} {fs : Array Field} (hu : P.underlying e = some (.struct fs)) (xs : List AV) : mkE P e xs = .agg xs := by simp [mkE, hu]
/-- A row whose elements are each told so. -/
theorem list_of {α : Type} (f : α → AV) : ∀ (es : List AV), (∀ y ∈ es, ∃ a, y = f a) → ∃ l : List α, es = l.map f
  | [], _ => ⟨[], rfl⟩
  | y :: es, h => by
    obtain ⟨a, rfl⟩ := h y List.mem_cons_self
    obtain ⟨l, rfl⟩ := list_of f es (fun z hz => h z (List.mem_cons_of_mem _ hz))
    exact ⟨a :: l, rfl⟩
theorem xtavs_map : ∀ ps : List ET, xtavs ps = ps.map xtv
  | [] => by simp [xtavs]
  | p :: ps => by simp only [xtavs, xtav_tv, List.map_cons, xtavs_map ps]
theorem dec_ets {P : Program} {tE : TypeId} {fs : Array Field} (hu : P.underlying tE = some (.struct fs)) (hs : shapes P 9 tE = some [.int .i64, .sl tE]) : ∀ {s : Sh} {x : AV}, CellOk P s x → s = .sl tE → ∃ ps : List ET, x = .fz 2 (xtavs ps) none := by
  intro s x h
  induction h with
  | int => intro e; cases e
  | bool => intro e; cases e
  | str => intro e; cases e
  | @sl e ss es hs' hlen hl hf h ih =>
    intro e0
    cases e0
    rw [hs] at hs'; cases hs'
    obtain ⟨l, hl2⟩ := list_of xtv es (fun y hy => by
      have h1 := hl y hy
      have h2 := hf y hy
      rw [mkE_struct hu] at h2
      match hc : cells y, h1 with
      | [c0, c1], _ =>
        obtain ⟨n, rfl, _⟩ := (h y hy 0 _ c0 rfl (by rw [hc]; rfl)).int_inv
        obtain ⟨ps, rfl⟩ := ih y hy 1 _ c1 rfl (by rw [hc]; rfl) rfl
        rw [hc] at h2
        exact ⟨.mk n ps, h2⟩
      | [], h1 => simp at h1
      | [_], h1 => simp at h1
      | _ :: _ :: _ :: _, h1 => simp at h1)
    exact ⟨l, by rw [xtavs_map, ← hl2]; rfl⟩
theorem dec_ecells {P : Program} {tE : TypeId} {fs : Array Field} (hu : P.underlying tE = some (.struct fs)) (hs : shapes P 9 tE = some [.int .i64, .sl tE]) {xs : List AV} (hl : xs.length = 2)
    (h : ∀ (j : Nat) s x, ([.int .i64, .sl tE] : List Sh)[j]? = some s → xs[j]? = some x → CellOk P s x) : ∃ e : ET, xs = [.int .i64 e.n, .fz 2 (xtavs e.ps) none] := by
  match xs, hl with
  | [x0, x1], _ =>
    obtain ⟨n0, rfl, _⟩ := (h 0 _ x0 rfl rfl).int_inv
    obtain ⟨ps, rfl⟩ := dec_ets hu hs (h 1 _ x1 rfl rfl) rfl
    exact ⟨.mk n0 ps, rfl⟩
theorem dec_bytes {P : Program} {tB : TypeId} (hu : P.underlying tB = some (.int .u8)) {x : AV} (h : CellOk P (.sl tB) x) : ∃ bs : List Nat, x = .fz 1 (avs bs) none ∧ ∀ b ∈ bs, b < 256 := by
  have hs : shapes P 9 tB = some [.int .u8] := by simp only [shapes, hu]
  obtain ⟨es, rfl, _, he⟩ := h.sl_inv hs
  have key : ∀ y ∈ es, ∃ b : Nat, y = .int .u8 (b : Nat) ∧ b < 256 := by
    intro y hy
    obtain ⟨h1, h2, h3⟩ := he y hy
    match hc : cells y, h2 with
    | [c0], _ =>
      obtain ⟨n, rfl, hw⟩ := (h3 0 _ c0 rfl (by rw [hc]; rfl)).int_inv
      rw [hc] at h1
      simp [Lit.wf, IntKind.min, IntKind.max, IntKind.signed, IntKind.bits] at hw
      refine ⟨n.toNat, ?_, by omega⟩
      rw [h1]; simp only [mkE, hu, List.headD]; congr 1; omega
    | [], h2 => simp at h2
    | _ :: _ :: _, h2 => simp at h2
  obtain ⟨l, rfl⟩ := list_of (fun b : {b : Nat // b < 256} => AV.int .u8 ((b.1 : Nat) : Int)) es (fun y hy => by
    obtain ⟨b, h1, h2⟩ := key y hy
    exact ⟨⟨b, h2⟩, h1⟩)
  refine ⟨l.map (·.1), by simp [avs], ?_⟩
  intro b hb
  obtain ⟨a, _, rfl⟩ := List.mem_map.1 hb
  exact a.2
end Go.Ev
/- Versions out of a row's reading of the arguments. -/
namespace Go.Proofs.Ytmokhopjnjecbab
open Go.Ev
set_option linter.unusedVariables false
/-- The cells of a version. -/
theorem dec_vcells {P : Program} {tE : TypeId} {fs : Array Field} (hu : P.underlying tE = some (.struct fs)) (hs : shapes P 9 tE = some [.int .i64, .sl tE]) {xs : List AV} (hl : xs.length = 7)
    (h : ∀ (j : Nat) s x, ([.int .i64, .int .i64, .str, .str, .bool, .int .i64, .sl tE] : List Sh)[j]? = some s → xs[j]? = some x → CellOk P s x) : ∃ v : Ver, xs = vcs v := by
  match xs, hl with
  | [x0, x1, x2, x3, x4, x5, x6], _ =>
    obtain ⟨n0, rfl, _⟩ := (h 0 _ x0 rfl rfl).int_inv
    obtain ⟨n1, rfl, _⟩ := (h 1 _ x1 rfl rfl).int_inv
    obtain ⟨s2, rfl, _⟩ := (h 2 _ x2 rfl rfl).str_inv
    obtain ⟨s3, rfl, _⟩ := (h 3 _ x3 rfl rfl).str_inv
    obtain ⟨b4, rfl⟩ := (h 4 _ x4 rfl rfl).bool_inv
    obtain ⟨n5, rfl, _⟩ := (h 5 _ x5 rfl rfl).int_inv
    obtain ⟨ps, rfl⟩ := dec_ets hu hs (h 6 _ x6 rfl rfl) rfl
    exact ⟨⟨n0, n1, s2, s3, b4, .mk n5 ps⟩, rfl⟩
theorem dec_vers {P : Program} {tE tV : TypeId} {fs fs2 : Array Field} (hu : P.underlying tE = some (.struct fs)) (hs : shapes P 9 tE = some [.int .i64, .sl tE]) (hu2 : P.underlying tV = some (.struct fs2))
    (hs2 : shapes P 9 tV = some [.int .i64, .int .i64, .str, .str, .bool, .int .i64, .sl tE]) {x : AV} (h : CellOk P (.sl tV) x) : ∃ l : List Ver, x = .fz 7 (l.map vv) none ∧ l.length ≤ maxLen := by
  obtain ⟨es, rfl, hlen, he⟩ := h.sl_inv hs2
  obtain ⟨l, rfl⟩ := list_of vv es (fun y hy => by
    obtain ⟨h1, h2, h3⟩ := he y hy
    rw [mkE_struct hu2] at h1
    obtain ⟨v, hv⟩ := dec_vcells hu hs (xs := cells y) h2 h3
    exact ⟨v, by rw [h1, hv]⟩)
  exact ⟨l, rfl, by simpa using hlen⟩
end Go.Proofs.Ytmokhopjnjecbab
/- An act's cells, told as a plain thing. -/
namespace Go.Proofs.Ytmokhopjnjecbab
open Go.Ev
set_option linter.unusedVariables false
theorem dec_qacts {P : Program} {tA tE : TypeId} {fs fs2 : Array Field} (hu : P.underlying tE = some (.struct fs)) (hs : shapes P 9 tE = some [.int .i64, .sl tE]) (hu2 : P.underlying tA = some (.struct fs2))
    (hs2 : shapes P 9 tA = some [.bool, .int .i64, .int .i64, .int .i64, .str, .str, .bool, .int .i64, .sl tE]) {x : AV} (h : CellOk P (.sl tA) x) : ∃ L : List QAct, x = .fz 9 (L.map qav) none ∧ L.length ≤ maxLen := by
  obtain ⟨es, rfl, hlen, he⟩ := h.sl_inv hs2
  obtain ⟨l, rfl⟩ := list_of qav es (fun y hy => by
    obtain ⟨h1, h2, h3⟩ := he y hy
    rw [mkE_struct hu2] at h1
    match hc : cells y, h2 with
    | x0 :: x1 :: xs, h2 =>
      have hl : xs.length = 7 := by simpa using h2
      obtain ⟨b, rfl⟩ := (h3 0 _ x0 rfl (by rw [hc]; rfl)).bool_inv
      obtain ⟨n, rfl, _⟩ := (h3 1 _ x1 rfl (by rw [hc]; rfl)).int_inv
      obtain ⟨v, hv⟩ := dec_vcells hu hs hl (fun j s x hj hx => h3 (j + 2) s x hj (by rw [hc]; exact hx))
      exact ⟨⟨b, n, v⟩, by rw [h1, hc, hv]⟩
    | [], h2 => simp at h2
    | [_], h2 => simp at h2)
  exact ⟨l, rfl, by simpa using hlen⟩
end Go.Proofs.Ytmokhopjnjecbab
/- THE LAW QueuePlays: a queue gives what was put in, in order, each till it is popped by its own Token: the row's function answers true and leaves memory as it was.
   The walks step through the compiled bodies; here the row's reading of the arguments is opened and the answer shut. -/
namespace Go.Proofs.Ytmokhopjnjecbab.queuePlays
open Go.ChangeShapes Go.WideShapes Go.ChangeAt Go.RowKit
open Go.Ev (PCalls Rep Reps none4 avs)
set_option linter.unusedVariables false
set_option maxRecDepth 100000
theorem own : ownKnob Try.prog.godebug = none := by kernel_rfl
theorem laidOut : laidOutB Try.prog = true := by kernel_rfl
theorem lifted (os : Os) (started : os.Started) (H : Type) (enc : TypeId × Value → H) :
    ReturnsInHanded {} Try.checked os 4 .any (Rows.queuePlaysSpec.pre6 enc Try.prog Try.f4 Rows.queuePlaysRow.domain false) (Rows.queuePlaysSpec.post enc Try.prog Try.f4 false true false false) := by
  refine returnsInHanded_of_change_sized (C := Try.checked) own started (by kernel_rfl) Try.func4
    (ChangeSpec.witness6 (enc := enc) (C := Try.checked) false ⟨#[], #[.slice none 0 0, .string ⟨#[]⟩], []⟩ 8 (by kernel_rfl) (by kernel_rfl) (by kernel_rfl) (by kernel_rfl)) ?_
  intro W base args ds gs before hval0 hW hcnd hsz0 _
  have hval : ∀ (j : Nat) t v, Try.f4.params[j]? = some t → args[j]? = some v → Value.okWide Try.prog W .any base t v := hval0
  have hW' := hW
  obtain ⟨p, q, hA0, hV, rfl, hfz, hnd⟩ := hW
  have hA : DataW.TrodAll enc Try.prog W 0 (fun _ => true) true Try.f4.params.toList args.toList ds p := hA0
  rw [Try.params4] at hA hval
  obtain ⟨v0, vs0, d0, ds0, p0, q0, hargs, rfl, rfl, h0, r0⟩ := trodAll_cons hA
  obtain ⟨v1, vs1, d1, ds1, p1, q1, rfl, rfl, rfl, h1, r1⟩ := trodAll_cons r0
  obtain ⟨rfl, rfl, rfl⟩ := trodAll_nil r1
  obtain rfl : args = #[v0, v1] := by cases args; simp_all
  obtain ⟨rfl, rfl⟩ := trodVars_none hV
  have k0 := h0
  have lt0 : ∀ x ∈ p0, x.block < W.heap.size := by obtain ⟨m, hm⟩ := k0; exact DataW.trod_lt m _ _ _ hm
  obtain ⟨a0, len0, cap0, rfl⟩ := okWide_slice Try.underlying36 (hval 0 36 v0 rfl rfl)
  obtain ⟨x0, hxc0, hrep0⟩ := Go.Ev.rep_slice [46,42] (by kernel_rfl) Try.underlying36 (by decide) h0
  obtain ⟨z0, hz0⟩ := dec_qacts Try.underlying42 (by kernel_rfl) Try.underlying46 (by kernel_rfl) hxc0
  obtain ⟨hz0, hy0⟩ := hz0
  rw [hz0] at hrep0
  have k1 := h1
  have lt1 : ∀ x ∈ p1, x.block < W.heap.size := by obtain ⟨m, hm⟩ := k1; exact DataW.trod_lt m _ _ _ hm
  obtain ⟨s1, rfl, _⟩ := Go.ChangeMaps.open_string Try.underlying9 (hval 1 9 v1 rfl rfl) h1
  refine ((queuePlays_calls z0 hy0 s1).calls (fun _ => False) W [.slice a0 len0 cap0, .string s1] (fun _ h => h.elim) (.cons hrep0 (.cons .str .nil))).mono fun e W' he => ?_
  obtain ⟨v, rfl, bel, hv⟩ := he
  cases hv
  exact ⟨_, rfl, _, _, _, [], _, [], hW', trodAll_mk1 (shut_bool Try.underlying4 _), (trodAll_cons_mk (Below.trod laidOut (by kernel_rfl) (of_decide_eq_true (by kernel_rfl)) k0 bel lt0) (trodAll_cons_mk (Below.trod laidOut (by kernel_rfl) (of_decide_eq_true (by kernel_rfl)) k1 bel lt1) trodAll_mk0)), rfl, bel.frame _, fun h => by cases h⟩
theorem over : Rows.queuePlaysRow.holds Try.pinned (OpenSpec.ofChange Rows.queuePlaysSpec) :=
  OpenClaim.holds_of_wide 4 Try.f4 rfl rfl rfl rfl rfl rfl rfl ⟨rfl, rfl, rfl, rfl, rfl⟩ rfl rfl rfl rfl rfl (by kernel_rfl) Try.func4 (by kernel_rfl)
    (of_decide_eq_true (by kernel_rfl)) (by unfold Func.isWrapper; first | (rw [if_pos (by decide +kernel)]; kernel_rfl) | (rw [if_neg (by decide +kernel)]; exact ⟨rfl, rfl⟩))
    (fun os started H enc _ => lifted os started H enc)
theorem proved : Rows.QueuePlaysSaid := over
#print axioms proved
end Go.Proofs.Ytmokhopjnjecbab.queuePlays
namespace Go.Proofs.Ytmokhopjnjecbab
/-- The row, under a short name, for the claim. -/
theorem queuePlays_holds : Rows.QueuePlaysSaid := queuePlays.proved
end Go.Proofs.Ytmokhopjnjecbab
