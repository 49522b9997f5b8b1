/- The walk through the reference's Tree; rows of places. -/
import Derived.Test.YtmokhopjnjecbaaPJoin
namespace Go.Proofs.Ytmokhopjnjecbaa
open Go.Ev
set_option linter.unusedVariables false
set_option linter.unusedSimpArgs false
set_option maxRecDepth 100000
variable {R : List AV → Heap → Ctr → Prop} {k : List It} {H : Heap} {nx : Ctr} {φ : Nat}

theorem row_at : ∀ (d : Nat) (b : B) (p : Nat), b.dep ≤ d + 1 → (rowsF d b)[p % 2 ^ d]? = some (rowB b p (2 ^ d / 2))
  | d, .lf o, p, _ => by
    rw [rowsF_lf, List.getElem?_replicate, if_pos (Nat.mod_lt _ (Nat.pow_pos (by omega)))]; rfl
  | 0, .nd l r, p, hd => by
    have : 1 ≤ l.dep := by cases l <;> simp [B.dep]
    simp only [B.dep] at hd; omega
  | d + 1, .nd l r, p, hd => by
    have e : 2 ^ (d + 1) / 2 = 2 ^ d := by rw [Nat.pow_succ]; omega
    simp only [B.dep] at hd
    have hl := row_at d l p (by omega)
    have hr := row_at d r p (by omega)
    have hpos : 0 < 2 ^ d := Nat.pow_pos (by omega)
    have hm : p % 2 ^ (d + 1) = p % 2 ^ d + 2 ^ d * (p / 2 ^ d % 2) := Nat.mod_pow_succ
    simp only [rowsF, rowB, e]
    by_cases hz : p / 2 ^ d % 2 = 0
    · rw [if_pos hz, hm, hz, Nat.mul_zero, Nat.add_zero, List.getElem?_append_left (by rw [rowsF_len]; exact Nat.mod_lt _ hpos), hl]
    · have h1 : p / 2 ^ d % 2 = 1 := by omega
      rw [if_neg hz, hm, h1, Nat.mul_one, List.getElem?_append_right (by rw [rowsF_len]; omega), rowsF_len, Nat.add_sub_cancel, hr]
theorem rowsB_F (b : B) (hd : b.dep ≤ 8) : rowsB b 128 = (rowsF 7 b).map AV.bool := by
  apply List.ext_getElem?
  intro p
  show (List.map _ (List.range 128) ++ List.replicate (128 - 128) _)[p]? = _
  by_cases hp : p < 128
  · rw [List.getElem?_append_left (by simpa using hp), List.getElem?_map, List.getElem?_map, List.getElem?_range hp]
    have h := row_at 7 b p (by omega)
    rw [show (2 : Nat) ^ 7 = 128 from rfl, Nat.mod_eq_of_lt hp] at h
    rw [h]; rfl
  · rw [List.getElem?_eq_none (by simp; omega), List.getElem?_eq_none (by rw [List.length_map, rowsF_len]; simpa using hp)]
theorem tree_loop (row : List Bool) (hl : row.length < 2 ^ 60) (r : AV) (H : Heap) (nx : Ctr)
    (h : RunsX Try.prog 0 (Gives [.cn 2 2] r) [.c c_ref04_Tree_k0] (e_ref04_Tree_0 (.fz 1 (row.map .bool) none) (.ptr 0 2 0 0) (.bool (row.all (· == row.headD false)))) H nx) :
    ∀ (post pre : List Bool), row = pre ++ post → RunsX Try.prog 0 (Gives [.cn 2 2] r) (i_ref04_Tree_0 ++ [.c c_ref04_Tree_k0]) (s_ref04_Tree_0 (.fz 1 (row.map .bool) none) (.ptr 0 2 0 0) (.bool (pre.all (· == row.headD false))) (.int .i64 (row.length : Nat)) (.int .i64 (pre.length : Nat))) H nx := by
  intro post
  induction post with
  | nil =>
    intro pre h1
    rw [List.append_nil] at h1
    subst h1
    refine round (its := [.blk 0 wb_ref04_Tree_0]) (k0 := [.c c_ref04_Tree_k0]) 100 trivial trivial (fun A eA => ?_)
    simp (disch := first | omega | (simp only [avs_len, List.length_cons, List.length_append, List.length_nil, List.length_take, List.length_drop, List.length_map]; omega)) only [c_ref04_Tree, wl_ref04_Tree_0, s_ref04_Tree_0, c_ref04_Tree_l0, wb_ref04_Tree_0, c_ref04_Tree_k0, ↓advStep, ↓execK, ↓opK, ↓binK, ↓intK, ↓strK, evs, ev, getT, setT, put, List.replicate, List.cons_append, List.nil_append, List.length_cons, List.length_nil, ↓mapK, ↓frzK_sl, ↓frzK_agg, ↓frzK_tup, ↓frzK_ifc, ↓frzK_func, ↓frzK_int, ↓frzK_bool, ↓frzK_str, ↓frzK_nilp, ↓frzK_nils, ↓frzK_nilm, ↓frzK_nilf, ↓frzK_nili, ↓frzK_fz, ↓frzK_any, ↓frzK_ptr, ↓frzK_ro, ↓getB, setB, kill, killM, dropK, keysOf, capOf_nn, zeroC, bump, frzT, thaw, gets, putAll, ↓getsK, ↓getR, ↓retK, retv, find, cells, ↓nilpK, ↓nilsK, ↓nilfK, ↓niliK, ↓bndK, ↓cutK, ↓fillK, ↓exitK, List.append_nil, List.drop, List.take, Nat.reduceAdd, Nat.reduceSub, Nat.reduceMul, Nat.reduceLT, Nat.reduceLeDiff, Nat.zero_add, Nat.add_zero, Nat.mul_one, Int.reduceToNat, Nat.reduceEqDiff, Nat.succ_ne_self, Nat.le_refl, Nat.one_ne_zero, Nat.reduceBEq, Nat.lt_irrefl, List.length_append, Int.toNat_zero, Int.toNat_one, List.take_zero, List.drop_zero, Nat.zero_mul, sel, rest, keyIn, ↓reduceIte, ↓if_pos, ↓if_neg, reduceCtorEq, Bool.not_true, Bool.not_false, Bool.false_eq_true, Bool.true_eq_false, and_self, and_true, true_and, false_and, and_false, decide_true, decide_false, decide_eq_true, decide_eq_false, decide_eq_true_eq, decide_eq_false_iff_not, Bool.not_eq_true, Bool.not_eq_false, Bool.not_eq_eq_eq_not, Decidable.not_not, eA]
    exact h
  | cons x post ih =>
    intro pre h1
    have hlt : pre.length < row.length := by rw [h1]; simp
    have g0 : (List.map AV.bool row)[pre.length]? = some (.bool x) := by rw [List.getElem?_map, h1]; simp
    have g1 : (List.map AV.bool row)[0]? = some (.bool (row.headD false)) := by rw [h1]; cases pre <;> simp
    have w1 : IntKind.i64.wrap ((pre.length : Int) + 1) = ((pre.length + 1 : Nat) : Int) := by rw [IntKind.wrap_i64]; omega
    have hih := ih (pre ++ [x]) (by rw [h1]; simp)
    rw [show (pre ++ [x]).length = pre.length + 1 by simp, show (pre ++ [x]).all (· == row.headD false) = (pre.all (· == row.headD false) && (x == row.headD false)) by simp] at hih
    refine round (its := [.blk 0 wb_ref04_Tree_0]) (k0 := [.c c_ref04_Tree_k0]) 100 trivial trivial (fun A eA => ?_)
    cases hs : pre.all (· == row.headD false) with
    | false =>
      rw [hs] at hih
      simp (disch := first | omega | (simp only [avs_len, List.length_cons, List.length_append, List.length_nil, List.length_take, List.length_drop, List.length_map]; omega)) only [c_ref04_Tree, wl_ref04_Tree_0, s_ref04_Tree_0, c_ref04_Tree_l0, wb_ref04_Tree_0, c_ref04_Tree_k0, ↓advStep, ↓execK, ↓opK, ↓binK, ↓intK, ↓strK, evs, ev, getT, setT, put, List.replicate, List.cons_append, List.nil_append, List.length_cons, List.length_nil, ↓mapK, ↓frzK_sl, ↓frzK_agg, ↓frzK_tup, ↓frzK_ifc, ↓frzK_func, ↓frzK_int, ↓frzK_bool, ↓frzK_str, ↓frzK_nilp, ↓frzK_nils, ↓frzK_nilm, ↓frzK_nilf, ↓frzK_nili, ↓frzK_fz, ↓frzK_any, ↓frzK_ptr, ↓frzK_ro, ↓getB, setB, kill, killM, dropK, keysOf, capOf_nn, zeroC, bump, frzT, thaw, gets, putAll, ↓getsK, ↓getR, ↓retK, retv, find, cells, ↓nilpK, ↓nilsK, ↓nilfK, ↓niliK, ↓bndK, ↓cutK, ↓fillK, ↓exitK, List.append_nil, List.drop, List.take, Nat.reduceAdd, Nat.reduceSub, Nat.reduceMul, Nat.reduceLT, Nat.reduceLeDiff, Nat.zero_add, Nat.add_zero, Nat.mul_one, Int.reduceToNat, Nat.reduceEqDiff, Nat.succ_ne_self, Nat.le_refl, Nat.one_ne_zero, Nat.reduceBEq, Nat.lt_irrefl, List.length_append, Int.toNat_zero, Int.toNat_one, List.take_zero, List.drop_zero, Nat.zero_mul, sel, rest, keyIn, ↓reduceIte, ↓if_pos, ↓if_neg, reduceCtorEq, Bool.not_true, Bool.not_false, Bool.false_eq_true, Bool.true_eq_false, and_self, and_true, true_and, false_and, and_false, decide_true, decide_false, decide_eq_true, decide_eq_false, decide_eq_true_eq, decide_eq_false_iff_not, Bool.not_eq_true, Bool.not_eq_false, Bool.not_eq_eq_eq_not, Decidable.not_not, eA, w1, Int.toNat_natCast, g0, g1]
      exact hih
    | true =>
      rw [hs] at hih
      simp (disch := first | omega | (simp only [avs_len, List.length_cons, List.length_append, List.length_nil, List.length_take, List.length_drop, List.length_map]; omega)) only [c_ref04_Tree, wl_ref04_Tree_0, s_ref04_Tree_0, c_ref04_Tree_l0, wb_ref04_Tree_0, c_ref04_Tree_k0, ↓advStep, ↓execK, ↓opK, ↓binK, ↓intK, ↓strK, evs, ev, getT, setT, put, List.replicate, List.cons_append, List.nil_append, List.length_cons, List.length_nil, ↓mapK, ↓frzK_sl, ↓frzK_agg, ↓frzK_tup, ↓frzK_ifc, ↓frzK_func, ↓frzK_int, ↓frzK_bool, ↓frzK_str, ↓frzK_nilp, ↓frzK_nils, ↓frzK_nilm, ↓frzK_nilf, ↓frzK_nili, ↓frzK_fz, ↓frzK_any, ↓frzK_ptr, ↓frzK_ro, ↓getB, setB, kill, killM, dropK, keysOf, capOf_nn, zeroC, bump, frzT, thaw, gets, putAll, ↓getsK, ↓getR, ↓retK, retv, find, cells, ↓nilpK, ↓nilsK, ↓nilfK, ↓niliK, ↓bndK, ↓cutK, ↓fillK, ↓exitK, List.append_nil, List.drop, List.take, Nat.reduceAdd, Nat.reduceSub, Nat.reduceMul, Nat.reduceLT, Nat.reduceLeDiff, Nat.zero_add, Nat.add_zero, Nat.mul_one, Int.reduceToNat, Nat.reduceEqDiff, Nat.succ_ne_self, Nat.le_refl, Nat.one_ne_zero, Nat.reduceBEq, Nat.lt_irrefl, List.length_append, Int.toNat_zero, Int.toNat_one, List.take_zero, List.drop_zero, Nat.zero_mul, sel, rest, keyIn, ↓reduceIte, ↓if_pos, ↓if_neg, reduceCtorEq, Bool.not_true, Bool.not_false, Bool.false_eq_true, Bool.true_eq_false, and_self, and_true, true_and, false_and, and_false, decide_true, decide_false, decide_eq_true, decide_eq_false, decide_eq_true_eq, decide_eq_false_iff_not, Bool.not_eq_true, Bool.not_eq_false, Bool.not_eq_eq_eq_not, Decidable.not_not, eA, w1, Int.toNat_natCast, g0, g1]
      exact hih
theorem Tree_calls : ∀ (d : Nat) (row : List Bool), d ≤ 20 → row.length = 2 ^ d → PCalls Try.prog F_ref04_Tree [.fz 1 (row.map .bool) none] (tv (treeF d row).t) := by
  intro d
  induction d with
  | zero =>
    intro row _ hl
    match row, hl with
    | [x], _ =>
      refine calls_ref04_Tree (walk0 100 trivial (fun A eA => ?_))
      simp (disch := first | omega | (simp only [avs_len, List.length_cons, List.length_append, List.length_nil, List.length_take, List.length_drop, List.length_map]; omega)) only [c_ref04_Tree, wl_ref04_Tree_0, s_ref04_Tree_0, c_ref04_Tree_l0, wb_ref04_Tree_0, c_ref04_Tree_k0, ↓advStep, ↓execK, ↓opK, ↓binK, ↓intK, ↓strK, evs, ev, getT, setT, put, List.replicate, List.cons_append, List.nil_append, List.length_cons, List.length_nil, ↓mapK, ↓frzK_sl, ↓frzK_agg, ↓frzK_tup, ↓frzK_ifc, ↓frzK_func, ↓frzK_int, ↓frzK_bool, ↓frzK_str, ↓frzK_nilp, ↓frzK_nils, ↓frzK_nilm, ↓frzK_nilf, ↓frzK_nili, ↓frzK_fz, ↓frzK_any, ↓frzK_ptr, ↓frzK_ro, ↓getB, setB, kill, killM, dropK, keysOf, capOf_nn, zeroC, bump, frzT, thaw, gets, putAll, ↓getsK, ↓getR, ↓retK, retv, find, cells, ↓nilpK, ↓nilsK, ↓nilfK, ↓niliK, ↓bndK, ↓cutK, ↓fillK, ↓exitK, List.append_nil, List.drop, List.take, Nat.reduceAdd, Nat.reduceSub, Nat.reduceMul, Nat.reduceLT, Nat.reduceLeDiff, Nat.zero_add, Nat.add_zero, Nat.mul_one, Int.reduceToNat, Nat.reduceEqDiff, Nat.succ_ne_self, Nat.le_refl, Nat.one_ne_zero, Nat.reduceBEq, Nat.lt_irrefl, List.length_append, Int.toNat_zero, Int.toNat_one, List.take_zero, List.drop_zero, Nat.zero_mul, sel, rest, keyIn, ↓reduceIte, ↓if_pos, ↓if_neg, reduceCtorEq, Bool.not_true, Bool.not_false, Bool.false_eq_true, Bool.true_eq_false, and_self, and_true, true_and, false_and, and_false, decide_true, decide_false, decide_eq_true, decide_eq_false, decide_eq_true_eq, decide_eq_false_iff_not, Bool.not_eq_true, Bool.not_eq_false, Bool.not_eq_eq_eq_not, Decidable.not_not, eA, List.map]
      refine tree_loop [x] (by simp) _ _ _ ?_ [x] [] rfl
      refine walk0 (its := [.c c_ref04_Tree_k0]) 100 trivial (fun A eA => ?_)
      simp (disch := first | omega | (simp only [avs_len, List.length_cons, List.length_append, List.length_nil, List.length_take, List.length_drop, List.length_map]; omega)) only [c_ref04_Tree, wl_ref04_Tree_0, s_ref04_Tree_0, c_ref04_Tree_l0, wb_ref04_Tree_0, c_ref04_Tree_k0, ↓advStep, ↓execK, ↓opK, ↓binK, ↓intK, ↓strK, evs, ev, getT, setT, put, List.replicate, List.cons_append, List.nil_append, List.length_cons, List.length_nil, ↓mapK, ↓frzK_sl, ↓frzK_agg, ↓frzK_tup, ↓frzK_ifc, ↓frzK_func, ↓frzK_int, ↓frzK_bool, ↓frzK_str, ↓frzK_nilp, ↓frzK_nils, ↓frzK_nilm, ↓frzK_nilf, ↓frzK_nili, ↓frzK_fz, ↓frzK_any, ↓frzK_ptr, ↓frzK_ro, ↓getB, setB, kill, killM, dropK, keysOf, capOf_nn, zeroC, bump, frzT, thaw, gets, putAll, ↓getsK, ↓getR, ↓retK, retv, find, cells, ↓nilpK, ↓nilsK, ↓nilfK, ↓niliK, ↓bndK, ↓cutK, ↓fillK, ↓exitK, List.append_nil, List.drop, List.take, Nat.reduceAdd, Nat.reduceSub, Nat.reduceMul, Nat.reduceLT, Nat.reduceLeDiff, Nat.zero_add, Nat.add_zero, Nat.mul_one, Int.reduceToNat, Nat.reduceEqDiff, Nat.succ_ne_self, Nat.le_refl, Nat.one_ne_zero, Nat.reduceBEq, Nat.lt_irrefl, List.length_append, Int.toNat_zero, Int.toNat_one, List.take_zero, List.drop_zero, Nat.zero_mul, sel, rest, keyIn, ↓reduceIte, ↓if_pos, ↓if_neg, reduceCtorEq, Bool.not_true, Bool.not_false, Bool.false_eq_true, Bool.true_eq_false, and_self, and_true, true_and, false_and, and_false, decide_true, decide_false, decide_eq_true, decide_eq_false, decide_eq_true_eq, decide_eq_false_iff_not, Bool.not_eq_true, Bool.not_eq_false, Bool.not_eq_eq_eq_not, Decidable.not_not, eA, List.map, List.headD, List.all_cons, List.all_nil, beq_self_eq_true, Bool.and_self, List.getElem?_cons_zero]
      exact doneW rfl (wk_leaf x)
  | succ d ih =>
    intro row hd hl
    have hp : (2 : Nat) ^ (d + 1) ≤ 2 ^ 20 := Nat.pow_le_pow_right (by omega) hd
    have e : 2 ^ (d + 1) / 2 = 2 ^ d := by rw [Nat.pow_succ]; omega
    have e2 : 2 ^ (d + 1) - 2 ^ d = 2 ^ d := by rw [Nat.pow_succ]; omega
    have h0 : 0 < 2 ^ d := Nat.pow_pos (by omega)
    have g1 : (List.map AV.bool row)[0]? = some (.bool (row.headD false)) := by
      cases row with
      | nil => simp at hl; omega
      | cons x l => simp
    have c1 := ih (row.take (2 ^ d)) (by omega) (by rw [List.length_take, hl, Nat.pow_succ]; omega)
    have c2 := ih (row.drop (2 ^ d)) (by omega) (by rw [List.length_drop, hl, e2])
    rw [List.map_take] at c1
    rw [List.map_drop] at c2
    have q1 : (row.length : Int).tdiv 2 = ((2 ^ d : Nat) : Int) := by rw [Int.tdiv_eq_ediv_of_nonneg (by omega), hl, ← e]; omega
    have hm : (2 : Nat) ^ d ≤ 2 ^ 20 := by have : (2 : Nat) ^ d ≤ 2 ^ (d + 1) := Nat.pow_le_pow_right (by omega) (by omega)
                                           omega
    have hle : 2 ^ d ≤ row.length := by rw [hl]; exact Nat.pow_le_pow_right (by omega) (by omega)
    generalize hK : (2 : Nat) ^ d = K at *
    have q2 : IntKind.i64.wrap (K : Int) = (K : Int) := by rw [IntKind.wrap_i64]; omega
    refine calls_ref04_Tree (walk0 100 trivial (fun A eA => ?_))
    simp (disch := first | omega | (simp only [avs_len, List.length_cons, List.length_append, List.length_nil, List.length_take, List.length_drop, List.length_map]; omega)) only [c_ref04_Tree, wl_ref04_Tree_0, s_ref04_Tree_0, c_ref04_Tree_l0, wb_ref04_Tree_0, c_ref04_Tree_k0, ↓advStep, ↓execK, ↓opK, ↓binK, ↓intK, ↓strK, evs, ev, getT, setT, put, List.replicate, List.cons_append, List.nil_append, List.length_cons, List.length_nil, ↓mapK, ↓frzK_sl, ↓frzK_agg, ↓frzK_tup, ↓frzK_ifc, ↓frzK_func, ↓frzK_int, ↓frzK_bool, ↓frzK_str, ↓frzK_nilp, ↓frzK_nils, ↓frzK_nilm, ↓frzK_nilf, ↓frzK_nili, ↓frzK_fz, ↓frzK_any, ↓frzK_ptr, ↓frzK_ro, ↓getB, setB, kill, killM, dropK, keysOf, capOf_nn, zeroC, bump, frzT, thaw, gets, putAll, ↓getsK, ↓getR, ↓retK, retv, find, cells, ↓nilpK, ↓nilsK, ↓nilfK, ↓niliK, ↓bndK, ↓cutK, ↓fillK, ↓exitK, List.append_nil, List.drop, List.take, Nat.reduceAdd, Nat.reduceSub, Nat.reduceMul, Nat.reduceLT, Nat.reduceLeDiff, Nat.zero_add, Nat.add_zero, Nat.mul_one, Int.reduceToNat, Nat.reduceEqDiff, Nat.succ_ne_self, Nat.le_refl, Nat.one_ne_zero, Nat.reduceBEq, Nat.lt_irrefl, List.length_append, Int.toNat_zero, Int.toNat_one, List.take_zero, List.drop_zero, Nat.zero_mul, sel, rest, keyIn, ↓reduceIte, ↓if_pos, ↓if_neg, reduceCtorEq, Bool.not_true, Bool.not_false, Bool.false_eq_true, Bool.true_eq_false, and_self, and_true, true_and, false_and, and_false, decide_true, decide_false, decide_eq_true, decide_eq_false, decide_eq_true_eq, decide_eq_false_iff_not, Bool.not_eq_true, Bool.not_eq_false, Bool.not_eq_eq_eq_not, Decidable.not_not, eA, List.length_map]
    refine tree_loop row (by omega) _ _ _ ?_ row [] rfl
    refine walk0 (its := [.c c_ref04_Tree_k0]) 100 trivial (fun A eA => ?_)
    simp only [treeF]
    by_cases hall : row.all (· == row.headD false) = true
    · rw [if_pos hall]
      simp (disch := first | omega | (simp only [avs_len, List.length_cons, List.length_append, List.length_nil, List.length_take, List.length_drop, List.length_map]; omega)) only [c_ref04_Tree, wl_ref04_Tree_0, s_ref04_Tree_0, c_ref04_Tree_l0, wb_ref04_Tree_0, c_ref04_Tree_k0, ↓advStep, ↓execK, ↓opK, ↓binK, ↓intK, ↓strK, evs, ev, getT, setT, put, List.replicate, List.cons_append, List.nil_append, List.length_cons, List.length_nil, ↓mapK, ↓frzK_sl, ↓frzK_agg, ↓frzK_tup, ↓frzK_ifc, ↓frzK_func, ↓frzK_int, ↓frzK_bool, ↓frzK_str, ↓frzK_nilp, ↓frzK_nils, ↓frzK_nilm, ↓frzK_nilf, ↓frzK_nili, ↓frzK_fz, ↓frzK_any, ↓frzK_ptr, ↓frzK_ro, ↓getB, setB, kill, killM, dropK, keysOf, capOf_nn, zeroC, bump, frzT, thaw, gets, putAll, ↓getsK, ↓getR, ↓retK, retv, find, cells, ↓nilpK, ↓nilsK, ↓nilfK, ↓niliK, ↓bndK, ↓cutK, ↓fillK, ↓exitK, List.append_nil, List.drop, List.take, Nat.reduceAdd, Nat.reduceSub, Nat.reduceMul, Nat.reduceLT, Nat.reduceLeDiff, Nat.zero_add, Nat.add_zero, Nat.mul_one, Int.reduceToNat, Nat.reduceEqDiff, Nat.succ_ne_self, Nat.le_refl, Nat.one_ne_zero, Nat.reduceBEq, Nat.lt_irrefl, List.length_append, Int.toNat_zero, Int.toNat_one, List.take_zero, List.drop_zero, Nat.zero_mul, sel, rest, keyIn, ↓reduceIte, ↓if_pos, ↓if_neg, reduceCtorEq, Bool.not_true, Bool.not_false, Bool.false_eq_true, Bool.true_eq_false, and_self, and_true, true_and, false_and, and_false, decide_true, decide_false, decide_eq_true, decide_eq_false, decide_eq_true_eq, decide_eq_false_iff_not, Bool.not_eq_true, Bool.not_eq_false, Bool.not_eq_eq_eq_not, Decidable.not_not, eA, hall, g1]
      exact doneW rfl (wk_leaf _)
    · rw [if_neg hall]
      simp only [Bool.not_eq_true] at hall
      simp (disch := first | omega | (simp only [avs_len, List.length_cons, List.length_append, List.length_nil, List.length_take, List.length_drop, List.length_map]; omega)) only [c_ref04_Tree, wl_ref04_Tree_0, s_ref04_Tree_0, c_ref04_Tree_l0, wb_ref04_Tree_0, c_ref04_Tree_k0, ↓advStep, ↓execK, ↓opK, ↓binK, ↓intK, ↓strK, evs, ev, getT, setT, put, List.replicate, List.cons_append, List.nil_append, List.length_cons, List.length_nil, ↓mapK, ↓frzK_sl, ↓frzK_agg, ↓frzK_tup, ↓frzK_ifc, ↓frzK_func, ↓frzK_int, ↓frzK_bool, ↓frzK_str, ↓frzK_nilp, ↓frzK_nils, ↓frzK_nilm, ↓frzK_nilf, ↓frzK_nili, ↓frzK_fz, ↓frzK_any, ↓frzK_ptr, ↓frzK_ro, ↓getB, setB, kill, killM, dropK, keysOf, capOf_nn, zeroC, bump, frzT, thaw, gets, putAll, ↓getsK, ↓getR, ↓retK, retv, find, cells, ↓nilpK, ↓nilsK, ↓nilfK, ↓niliK, ↓bndK, ↓cutK, ↓fillK, ↓exitK, List.append_nil, List.drop, List.take, Nat.reduceAdd, Nat.reduceSub, Nat.reduceMul, Nat.reduceLT, Nat.reduceLeDiff, Nat.zero_add, Nat.add_zero, Nat.mul_one, Int.reduceToNat, Nat.reduceEqDiff, Nat.succ_ne_self, Nat.le_refl, Nat.one_ne_zero, Nat.reduceBEq, Nat.lt_irrefl, List.length_append, Int.toNat_zero, Int.toNat_one, List.take_zero, List.drop_zero, Nat.zero_mul, sel, rest, keyIn, ↓reduceIte, ↓if_pos, ↓if_neg, reduceCtorEq, Bool.not_true, Bool.not_false, Bool.false_eq_true, Bool.true_eq_false, and_self, and_true, true_and, false_and, and_false, decide_true, decide_false, decide_eq_true, decide_eq_false, decide_eq_true_eq, decide_eq_false_iff_not, Bool.not_eq_true, Bool.not_eq_false, Bool.not_eq_eq_eq_not, Decidable.not_not, eA, hall, List.length_map, q1, q2, Int.toNat_natCast]
      refine call0 100 trivial trivial c1 (.inl rfl) (fun A eA => ?_)
      simp (disch := first | omega | (simp only [avs_len, List.length_cons, List.length_append, List.length_nil, List.length_take, List.length_drop, List.length_map]; omega)) only [c_ref04_Tree, wl_ref04_Tree_0, s_ref04_Tree_0, c_ref04_Tree_l0, wb_ref04_Tree_0, c_ref04_Tree_k0, ↓advStep, ↓execK, ↓opK, ↓binK, ↓intK, ↓strK, evs, ev, getT, setT, put, List.replicate, List.cons_append, List.nil_append, List.length_cons, List.length_nil, ↓mapK, ↓frzK_sl, ↓frzK_agg, ↓frzK_tup, ↓frzK_ifc, ↓frzK_func, ↓frzK_int, ↓frzK_bool, ↓frzK_str, ↓frzK_nilp, ↓frzK_nils, ↓frzK_nilm, ↓frzK_nilf, ↓frzK_nili, ↓frzK_fz, ↓frzK_any, ↓frzK_ptr, ↓frzK_ro, ↓getB, setB, kill, killM, dropK, keysOf, capOf_nn, zeroC, bump, frzT, thaw, gets, putAll, ↓getsK, ↓getR, ↓retK, retv, find, cells, ↓nilpK, ↓nilsK, ↓nilfK, ↓niliK, ↓bndK, ↓cutK, ↓fillK, ↓exitK, List.append_nil, List.drop, List.take, Nat.reduceAdd, Nat.reduceSub, Nat.reduceMul, Nat.reduceLT, Nat.reduceLeDiff, Nat.zero_add, Nat.add_zero, Nat.mul_one, Int.reduceToNat, Nat.reduceEqDiff, Nat.succ_ne_self, Nat.le_refl, Nat.one_ne_zero, Nat.reduceBEq, Nat.lt_irrefl, List.length_append, Int.toNat_zero, Int.toNat_one, List.take_zero, List.drop_zero, Nat.zero_mul, sel, rest, keyIn, ↓reduceIte, ↓if_pos, ↓if_neg, reduceCtorEq, Bool.not_true, Bool.not_false, Bool.false_eq_true, Bool.true_eq_false, and_self, and_true, true_and, false_and, and_false, decide_true, decide_false, decide_eq_true, decide_eq_false, decide_eq_true_eq, decide_eq_false_iff_not, Bool.not_eq_true, Bool.not_eq_false, Bool.not_eq_eq_eq_not, Decidable.not_not, eA, hall, List.length_map, q1, q2, Int.toNat_natCast]
      have ht : List.take row.length (List.map AV.bool row) = List.map AV.bool row := by rw [List.take_of_length_le (by simp)]
      simp (disch := first | omega | (simp only [avs_len, List.length_cons, List.length_append, List.length_nil, List.length_take, List.length_drop, List.length_map]; omega)) only [c_ref04_Tree, wl_ref04_Tree_0, s_ref04_Tree_0, c_ref04_Tree_l0, wb_ref04_Tree_0, c_ref04_Tree_k0, ↓advStep, ↓execK, ↓opK, ↓binK, ↓intK, ↓strK, evs, ev, getT, setT, put, List.replicate, List.cons_append, List.nil_append, List.length_cons, List.length_nil, ↓mapK, ↓frzK_sl, ↓frzK_agg, ↓frzK_tup, ↓frzK_ifc, ↓frzK_func, ↓frzK_int, ↓frzK_bool, ↓frzK_str, ↓frzK_nilp, ↓frzK_nils, ↓frzK_nilm, ↓frzK_nilf, ↓frzK_nili, ↓frzK_fz, ↓frzK_any, ↓frzK_ptr, ↓frzK_ro, ↓getB, setB, kill, killM, dropK, keysOf, capOf_nn, zeroC, bump, frzT, thaw, gets, putAll, ↓getsK, ↓getR, ↓retK, retv, find, cells, ↓nilpK, ↓nilsK, ↓nilfK, ↓niliK, ↓bndK, ↓cutK, ↓fillK, ↓exitK, List.append_nil, List.drop, List.take, Nat.reduceAdd, Nat.reduceSub, Nat.reduceMul, Nat.reduceLT, Nat.reduceLeDiff, Nat.zero_add, Nat.add_zero, Nat.mul_one, Int.reduceToNat, Nat.reduceEqDiff, Nat.succ_ne_self, Nat.le_refl, Nat.one_ne_zero, Nat.reduceBEq, Nat.lt_irrefl, List.length_append, Int.toNat_zero, Int.toNat_one, List.take_zero, List.drop_zero, Nat.zero_mul, sel, rest, keyIn, ↓reduceIte, ↓if_pos, ↓if_neg, reduceCtorEq, Bool.not_true, Bool.not_false, Bool.false_eq_true, Bool.true_eq_false, and_self, and_true, true_and, false_and, and_false, decide_true, decide_false, decide_eq_true, decide_eq_false, decide_eq_true_eq, decide_eq_false_iff_not, Bool.not_eq_true, Bool.not_eq_false, Bool.not_eq_eq_eq_not, Decidable.not_not, eA, ht]
      refine call0 100 trivial trivial c2 (.inl rfl) (fun A eA => ?_)
      simp (disch := first | omega | (simp only [avs_len, List.length_cons, List.length_append, List.length_nil, List.length_take, List.length_drop, List.length_map]; omega)) only [c_ref04_Tree, wl_ref04_Tree_0, s_ref04_Tree_0, c_ref04_Tree_l0, wb_ref04_Tree_0, c_ref04_Tree_k0, ↓advStep, ↓execK, ↓opK, ↓binK, ↓intK, ↓strK, evs, ev, getT, setT, put, List.replicate, List.cons_append, List.nil_append, List.length_cons, List.length_nil, ↓mapK, ↓frzK_sl, ↓frzK_agg, ↓frzK_tup, ↓frzK_ifc, ↓frzK_func, ↓frzK_int, ↓frzK_bool, ↓frzK_str, ↓frzK_nilp, ↓frzK_nils, ↓frzK_nilm, ↓frzK_nilf, ↓frzK_nili, ↓frzK_fz, ↓frzK_any, ↓frzK_ptr, ↓frzK_ro, ↓getB, setB, kill, killM, dropK, keysOf, capOf_nn, zeroC, bump, frzT, thaw, gets, putAll, ↓getsK, ↓getR, ↓retK, retv, find, cells, ↓nilpK, ↓nilsK, ↓nilfK, ↓niliK, ↓bndK, ↓cutK, ↓fillK, ↓exitK, List.append_nil, List.drop, List.take, Nat.reduceAdd, Nat.reduceSub, Nat.reduceMul, Nat.reduceLT, Nat.reduceLeDiff, Nat.zero_add, Nat.add_zero, Nat.mul_one, Int.reduceToNat, Nat.reduceEqDiff, Nat.succ_ne_self, Nat.le_refl, Nat.one_ne_zero, Nat.reduceBEq, Nat.lt_irrefl, List.length_append, Int.toNat_zero, Int.toNat_one, List.take_zero, List.drop_zero, Nat.zero_mul, sel, rest, keyIn, ↓reduceIte, ↓if_pos, ↓if_neg, reduceCtorEq, Bool.not_true, Bool.not_false, Bool.false_eq_true, Bool.true_eq_false, and_self, and_true, true_and, false_and, and_false, decide_true, decide_false, decide_eq_true, decide_eq_false, decide_eq_true_eq, decide_eq_false_iff_not, Bool.not_eq_true, Bool.not_eq_false, Bool.not_eq_eq_eq_not, Decidable.not_not, eA, allSz, cells, beq_self_eq_true, scal1, List.all_cons, List.all_nil, Bool.and_self]
      rw [hK]
      exact doneW rfl (wk_two _ _)
end Go.Proofs.Ytmokhopjnjecbaa
