/- The walk through the reference's Num. -/
import Derived.Test.YtmokhopjnjecbaaWOut
namespace Go.Proofs.Ytmokhopjnjecbaa
open Go.Ev
set_option linter.unusedVariables false
set_option linter.unusedSimpArgs false
set_option maxRecDepth 100000
set_option maxHeartbeats 1600000
variable {R : List AV → Heap → Ctr → Prop} {k : List It} {φ : Nat}

theorem refNum_loop (hk : flat k) : ∀ (n v : Nat), v < 128 ^ (n + 1) → v < 18446744073709551616 → ∀ (e : Option Nat) (bs : List Nat) (nx : Ctr), (e = none → bs = []) → bs.length + n < 1099511627776 →
    (∀ (e' : Option Nat) (bs' : List Nat) (v' : Nat) (nx' : Ctr), v' < 128 → (e' = none → bs' = []) → bs' ++ [v'] = bs ++ numB v → (e' = none → e = none ∧ v < 128) → RunsX Try.prog φ R k (e_ref01_Num_0 (.int .u64 (v' : Nat)) (accV φ 12 1 e' bs'.length)) (accE φ 12 e' (avs bs')) nx') →
    RunsX Try.prog φ R (i_ref01_Num_0 ++ k) (s_ref01_Num_0 (.int .u64 (v : Nat)) (accV φ 12 1 e bs.length)) (accE φ 12 e (avs bs)) nx := by
  intro n
  induction n with
  | zero =>
    intro v hv hv2 e bs nx he hl h
    have h1 : v < 128 := by omega
    have i1 : ¬ (127 : Int) < (v : Int) := by omega
    have hh := h e bs v nx h1 he (by rw [numB_lt h1]) (fun q => ⟨q, h1⟩)
    refine round (its := [.blk 0 wb_ref01_Num_0]) 100 hk trivial (fun A eA => ?_)
    simp (disch := first | omega | (simp only [avs_len, List.length_cons, List.length_append, List.length_nil, List.length_take, List.length_drop, List.length_map]; omega)) only [c_ref01_Num, wl_ref01_Num_0, s_ref01_Num_0, c_ref01_Num_l0, wb_ref01_Num_0, c_ref01_Num_k0, ↓advStep, ↓execK, ↓opK, ↓binK, ↓intK, ↓strK, evs, ev, getT, setT, put, List.replicate, List.cons_append, List.nil_append, List.length_cons, List.length_nil, ↓mapK, ↓frzK_sl, ↓frzK_agg, ↓frzK_tup, ↓frzK_ifc, ↓frzK_func, ↓frzK_int, ↓frzK_bool, ↓frzK_str, ↓frzK_nilp, ↓frzK_nils, ↓frzK_nilm, ↓frzK_nilf, ↓frzK_nili, ↓frzK_fz, ↓frzK_any, ↓frzK_ptr, ↓frzK_ro, ↓getB, setB, kill, killM, dropK, keysOf, capOf_nn, zeroC, bump, frzT, thaw, gets, putAll, ↓getsK, ↓getR, ↓retK, retv, find, cells, ↓nilpK, ↓nilsK, ↓nilfK, ↓niliK, ↓bndK, ↓cutK, ↓fillK, ↓exitK, List.append_nil, List.drop, List.take, Nat.reduceAdd, Nat.reduceSub, Nat.reduceMul, Nat.reduceLT, Nat.reduceLeDiff, Nat.zero_add, Nat.add_zero, Nat.mul_one, Int.reduceToNat, Nat.reduceEqDiff, Nat.succ_ne_self, Nat.le_refl, Nat.one_ne_zero, Nat.reduceBEq, Nat.lt_irrefl, List.length_append, Int.toNat_zero, Int.toNat_one, List.take_zero, List.drop_zero, Nat.zero_mul, sel, rest, keyIn, ↓reduceIte, ↓if_pos, ↓if_neg, reduceCtorEq, Bool.not_true, Bool.not_false, Bool.false_eq_true, Bool.true_eq_false, and_self, and_true, true_and, false_and, and_false, decide_true, decide_false, decide_eq_true, decide_eq_false, decide_eq_true_eq, decide_eq_false_iff_not, Bool.not_eq_true, Bool.not_eq_false, Bool.not_eq_eq_eq_not, Decidable.not_not, eA, i1]
    exact hh
  | succ n ih =>
    intro v hv hv2 e bs nx he hl h
    by_cases h1 : v < 128
    · have i1 : ¬ (127 : Int) < (v : Int) := by omega
      have hh := h e bs v nx h1 he (by rw [numB_lt h1]) (fun q => ⟨q, h1⟩)
      refine round (its := [.blk 0 wb_ref01_Num_0]) 100 hk trivial (fun A eA => ?_)
      simp (disch := first | omega | (simp only [avs_len, List.length_cons, List.length_append, List.length_nil, List.length_take, List.length_drop, List.length_map]; omega)) only [c_ref01_Num, wl_ref01_Num_0, s_ref01_Num_0, c_ref01_Num_l0, wb_ref01_Num_0, c_ref01_Num_k0, ↓advStep, ↓execK, ↓opK, ↓binK, ↓intK, ↓strK, evs, ev, getT, setT, put, List.replicate, List.cons_append, List.nil_append, List.length_cons, List.length_nil, ↓mapK, ↓frzK_sl, ↓frzK_agg, ↓frzK_tup, ↓frzK_ifc, ↓frzK_func, ↓frzK_int, ↓frzK_bool, ↓frzK_str, ↓frzK_nilp, ↓frzK_nils, ↓frzK_nilm, ↓frzK_nilf, ↓frzK_nili, ↓frzK_fz, ↓frzK_any, ↓frzK_ptr, ↓frzK_ro, ↓getB, setB, kill, killM, dropK, keysOf, capOf_nn, zeroC, bump, frzT, thaw, gets, putAll, ↓getsK, ↓getR, ↓retK, retv, find, cells, ↓nilpK, ↓nilsK, ↓nilfK, ↓niliK, ↓bndK, ↓cutK, ↓fillK, ↓exitK, List.append_nil, List.drop, List.take, Nat.reduceAdd, Nat.reduceSub, Nat.reduceMul, Nat.reduceLT, Nat.reduceLeDiff, Nat.zero_add, Nat.add_zero, Nat.mul_one, Int.reduceToNat, Nat.reduceEqDiff, Nat.succ_ne_self, Nat.le_refl, Nat.one_ne_zero, Nat.reduceBEq, Nat.lt_irrefl, List.length_append, Int.toNat_zero, Int.toNat_one, List.take_zero, List.drop_zero, Nat.zero_mul, sel, rest, keyIn, ↓reduceIte, ↓if_pos, ↓if_neg, reduceCtorEq, Bool.not_true, Bool.not_false, Bool.false_eq_true, Bool.true_eq_false, and_self, and_true, true_and, false_and, and_false, decide_true, decide_false, decide_eq_true, decide_eq_false, decide_eq_true_eq, decide_eq_false_iff_not, Bool.not_eq_true, Bool.not_eq_false, Bool.not_eq_eq_eq_not, Decidable.not_not, eA, i1]
      exact hh
    · have hA : ∀ (ok : AV → Heap → Ctr → Out) bd, appK 1 1 12 (accV φ 12 1 e bs.length) (.fz 1 [.int .u8 ((v % 128 + 128 : Nat) : Int)] (some 1)) (accE φ 12 e (avs bs)) nx φ ok bd = ok (accV φ 12 1 (some (nx 12)) (bs ++ [v % 128 + 128]).length) (accE φ 12 (some (nx 12)) (avs (bs ++ [v % 128 + 128]))) (bump nx 12) := by
        intro ok bd
        rw [app_acc (n := bs.length) (m := 1) (e := e) (cs := avs bs) (ns := avs [v % 128 + 128]) (fun q => by rw [he q]; exact ⟨rfl, rfl⟩) (fun g q => by subst q; simp [accE, find]) (by rw [avs_len]; omega) ⟨_, _, rfl, rfl, by rfl⟩ (by omega) (by omega) (by omega)]
        have := setB_accE φ 12 (nx 12) e (avs bs) (some (avs bs ++ avs [v % 128 + 128])) [] rfl
        rw [List.append_nil] at this
        rw [this]
        simp [accE, avs_append]
      have hq : v / 128 < 128 ^ (n + 1) := by rw [Nat.div_lt_iff_lt_mul (by omega), ← Nat.pow_succ]; exact hv
      have hih := ih (v / 128) hq (by omega) (some (nx 12)) (bs ++ [v % 128 + 128]) (bump nx 12) (by simp) (by simp; omega) (fun e' bs' v' nx' q1 q2 q3 q4 => h e' bs' v' nx' q1 q2 (by rw [q3, numB_ge h1]; simp) (fun q => by have := (q4 q).1; simp at this))
      clear ih hq hv h
      have i1 : (127 : Int) < (v : Int) := by omega
      have e1 : (v : Int).tmod 128 = ((v % 128 : Nat) : Int) := by rw [Int.tmod_eq_emod_of_nonneg (by omega)]; omega
      have e2 : IntKind.u64.wrap (128 + ((v % 128 : Nat) : Int)) = ((v % 128 + 128 : Nat) : Int) := by
        rw [show 128 + ((v % 128 : Nat) : Int) = ((v % 128 + 128 : Nat) : Int) by omega]; exact wrap_nat .u64 rfl _ (by show _ < 2 ^ 64; omega)
      have e3 : IntKind.u8.wrap ((v % 128 + 128 : Nat) : Int) = ((v % 128 + 128 : Nat) : Int) := wrap_nat .u8 rfl _ (by show _ < 2 ^ 8; omega)
      have e4 : IntKind.u64.wrap ((v : Int).tdiv 128) = ((v / 128 : Nat) : Int) := by
        rw [show (v : Int).tdiv 128 = ((v / 128 : Nat) : Int) by rw [Int.tdiv_eq_ediv_of_nonneg (by omega)]; omega]
        exact wrap_nat .u64 rfl _ (by show _ < 2 ^ 64; omega)
      have e5 : ¬ ((128 : Int) = 0) := by omega
      refine round (its := [.blk 0 wb_ref01_Num_0]) 100 hk trivial (fun A eA => ?_)
      simp (disch := first | omega | (simp only [avs_len, List.length_cons, List.length_append, List.length_nil, List.length_take, List.length_drop, List.length_map]; omega)) only [c_ref01_Num, wl_ref01_Num_0, s_ref01_Num_0, c_ref01_Num_l0, wb_ref01_Num_0, c_ref01_Num_k0, ↓advStep, ↓execK, ↓opK, ↓binK, ↓intK, ↓strK, evs, ev, getT, setT, put, List.replicate, List.cons_append, List.nil_append, List.length_cons, List.length_nil, ↓mapK, ↓frzK_sl, ↓frzK_agg, ↓frzK_tup, ↓frzK_ifc, ↓frzK_func, ↓frzK_int, ↓frzK_bool, ↓frzK_str, ↓frzK_nilp, ↓frzK_nils, ↓frzK_nilm, ↓frzK_nilf, ↓frzK_nili, ↓frzK_fz, ↓frzK_any, ↓frzK_ptr, ↓frzK_ro, ↓getB, setB, kill, killM, dropK, keysOf, capOf_nn, zeroC, bump, frzT, thaw, gets, putAll, ↓getsK, ↓getR, ↓retK, retv, find, cells, ↓nilpK, ↓nilsK, ↓nilfK, ↓niliK, ↓bndK, ↓cutK, ↓fillK, ↓exitK, List.append_nil, List.drop, List.take, Nat.reduceAdd, Nat.reduceSub, Nat.reduceMul, Nat.reduceLT, Nat.reduceLeDiff, Nat.zero_add, Nat.add_zero, Nat.mul_one, Int.reduceToNat, Nat.reduceEqDiff, Nat.succ_ne_self, Nat.le_refl, Nat.one_ne_zero, Nat.reduceBEq, Nat.lt_irrefl, List.length_append, Int.toNat_zero, Int.toNat_one, List.take_zero, List.drop_zero, Nat.zero_mul, sel, rest, keyIn, ↓reduceIte, ↓if_pos, ↓if_neg, reduceCtorEq, Bool.not_true, Bool.not_false, Bool.false_eq_true, Bool.true_eq_false, and_self, and_true, true_and, false_and, and_false, decide_true, decide_false, decide_eq_true, decide_eq_false, decide_eq_true_eq, decide_eq_false_iff_not, Bool.not_eq_true, Bool.not_eq_false, Bool.not_eq_eq_eq_not, Decidable.not_not, eA, i1, e1, e2, e3, e4, e5, allSz, scal1, List.all_cons, List.all_nil, Bool.and_self, beq_self_eq_true, ↓hA]
      simp only [List.length_append, List.length_cons, List.length_nil, Nat.zero_add] at hih
      exact hih
theorem numB_256 : ∀ (n v : Nat), v < 128 ^ (n + 1) → ∀ b ∈ numB v, b < 256
  | 0, v, h, b, hb => by rw [numB_lt (by omega)] at hb; simp at hb; omega
  | n + 1, v, h, b, hb => by
    by_cases h1 : v < 128
    · rw [numB_lt h1] at hb; simp at hb; omega
    · rw [numB_ge h1, List.mem_cons] at hb
      rcases hb with rfl | hb
      · omega
      · exact numB_256 n (v / 128) (by rw [Nat.div_lt_iff_lt_mul (by omega), ← Nat.pow_succ]; exact h) b hb
theorem refNum_calls (v : Nat) (hv : v < 18446744073709551616) : PCalls Try.prog F_ref01_Num [.int .u64 (v : Nat)] (bv (numB v)) := by
  have hnl := numB_len 9 v (by omega)
  refine calls_ref01_Num (walk0 100 trivial (fun A eA => ?_))
  simp (disch := first | omega | (simp only [avs_len, List.length_cons, List.length_append, List.length_nil, List.length_take, List.length_drop, List.length_map]; omega)) only [c_ref01_Num, wl_ref01_Num_0, s_ref01_Num_0, c_ref01_Num_l0, wb_ref01_Num_0, c_ref01_Num_k0, ↓advStep, ↓execK, ↓opK, ↓binK, ↓intK, ↓strK, evs, ev, getT, setT, put, List.replicate, List.cons_append, List.nil_append, List.length_cons, List.length_nil, ↓mapK, ↓frzK_sl, ↓frzK_agg, ↓frzK_tup, ↓frzK_ifc, ↓frzK_func, ↓frzK_int, ↓frzK_bool, ↓frzK_str, ↓frzK_nilp, ↓frzK_nils, ↓frzK_nilm, ↓frzK_nilf, ↓frzK_nili, ↓frzK_fz, ↓frzK_any, ↓frzK_ptr, ↓frzK_ro, ↓getB, setB, kill, killM, dropK, keysOf, capOf_nn, zeroC, bump, frzT, thaw, gets, putAll, ↓getsK, ↓getR, ↓retK, retv, find, cells, ↓nilpK, ↓nilsK, ↓nilfK, ↓niliK, ↓bndK, ↓cutK, ↓fillK, ↓exitK, List.append_nil, List.drop, List.take, Nat.reduceAdd, Nat.reduceSub, Nat.reduceMul, Nat.reduceLT, Nat.reduceLeDiff, Nat.zero_add, Nat.add_zero, Nat.mul_one, Int.reduceToNat, Nat.reduceEqDiff, Nat.succ_ne_self, Nat.le_refl, Nat.one_ne_zero, Nat.reduceBEq, Nat.lt_irrefl, List.length_append, Int.toNat_zero, Int.toNat_one, List.take_zero, List.drop_zero, Nat.zero_mul, sel, rest, keyIn, ↓reduceIte, ↓if_pos, ↓if_neg, reduceCtorEq, Bool.not_true, Bool.not_false, Bool.false_eq_true, Bool.true_eq_false, and_self, and_true, true_and, false_and, and_false, decide_true, decide_false, decide_eq_true, decide_eq_false, decide_eq_true_eq, decide_eq_false_iff_not, Bool.not_eq_true, Bool.not_eq_false, Bool.not_eq_eq_eq_not, Decidable.not_not, eA]
  refine refNum_loop (k := [.c c_ref01_Num_k0]) trivial 9 v (by omega) hv none [] zeroC (fun _ => rfl) (by simp) (fun e' bs' v' nx' q1 q2 q3 q4 => ?_)
  rw [List.nil_append] at q3
  have w1 : IntKind.u8.wrap ((v' : Nat) : Int) = ((v' : Nat) : Int) := wrap_nat .u8 rfl _ (by show _ < 2 ^ 8; omega)
  have hl : bs'.length + 1 = (numB v).length := by rw [← q3]; simp
  have hc : avs bs' ++ [.int .u8 ((v' : Nat) : Int)] = avs (numB v) := by rw [← q3, ← avs_append]; rfl
  refine walk0 (its := [.c c_ref01_Num_k0]) 100 trivial (fun A eA => ?_)
  cases e' with
  | none =>
    have hb := q2 rfl
    subst hb
    simp only [accV, accE]
    simp only [avs, List.map_nil, List.nil_append] at hc
    simp (disch := first | omega | (simp only [avs_len, List.length_cons, List.length_append, List.length_nil, List.length_take, List.length_drop, List.length_map]; omega)) only [c_ref01_Num, wl_ref01_Num_0, s_ref01_Num_0, c_ref01_Num_l0, wb_ref01_Num_0, c_ref01_Num_k0, ↓advStep, ↓execK, ↓opK, ↓binK, ↓intK, ↓strK, evs, ev, getT, setT, put, List.replicate, List.cons_append, List.nil_append, List.length_cons, List.length_nil, ↓mapK, ↓frzK_sl, ↓frzK_agg, ↓frzK_tup, ↓frzK_ifc, ↓frzK_func, ↓frzK_int, ↓frzK_bool, ↓frzK_str, ↓frzK_nilp, ↓frzK_nils, ↓frzK_nilm, ↓frzK_nilf, ↓frzK_nili, ↓frzK_fz, ↓frzK_any, ↓frzK_ptr, ↓frzK_ro, ↓getB, setB, kill, killM, dropK, keysOf, capOf_nn, zeroC, bump, frzT, thaw, gets, putAll, ↓getsK, ↓getR, ↓retK, retv, find, cells, ↓nilpK, ↓nilsK, ↓nilfK, ↓niliK, ↓bndK, ↓cutK, ↓fillK, ↓exitK, List.append_nil, List.drop, List.take, Nat.reduceAdd, Nat.reduceSub, Nat.reduceMul, Nat.reduceLT, Nat.reduceLeDiff, Nat.zero_add, Nat.add_zero, Nat.mul_one, Int.reduceToNat, Nat.reduceEqDiff, Nat.succ_ne_self, Nat.le_refl, Nat.one_ne_zero, Nat.reduceBEq, Nat.lt_irrefl, List.length_append, Int.toNat_zero, Int.toNat_one, List.take_zero, List.drop_zero, Nat.zero_mul, sel, rest, keyIn, ↓reduceIte, ↓if_pos, ↓if_neg, reduceCtorEq, Bool.not_true, Bool.not_false, Bool.false_eq_true, Bool.true_eq_false, and_self, and_true, true_and, false_and, and_false, decide_true, decide_false, decide_eq_true, decide_eq_false, decide_eq_true_eq, decide_eq_false_iff_not, Bool.not_eq_true, Bool.not_eq_false, Bool.not_eq_eq_eq_not, Decidable.not_not, eA, ↓appK, allSz, scal1, List.all_cons, List.all_nil, Bool.and_self, beq_self_eq_true, w1, catCells]
    refine doneG ?_
    rw [show bv (numB v) = bv [v'] by rw [← q3]; rfl]
    have e1 : [AV.int IntKind.u8 ((v' : Nat) : Int)] = avs [v'] := rfl
    rw [e1]
    simp (disch := first | omega | (simp only [avs_len, List.length_cons, List.length_append, List.length_nil, List.length_take, List.length_drop, List.length_map]; omega)) only [↓advStep, ↓execK, ↓opK, ↓binK, ↓intK, ↓strK, evs, ev, getT, setT, put, List.replicate, List.cons_append, List.nil_append, List.length_cons, List.length_nil, ↓mapK, ↓frzK_sl, ↓frzK_agg, ↓frzK_tup, ↓frzK_ifc, ↓frzK_func, ↓frzK_int, ↓frzK_bool, ↓frzK_str, ↓frzK_nilp, ↓frzK_nils, ↓frzK_nilm, ↓frzK_nilf, ↓frzK_nili, ↓frzK_fz, ↓frzK_any, ↓frzK_ptr, ↓frzK_ro, ↓getB, setB, kill, killM, dropK, keysOf, capOf_nn, zeroC, bump, frzT, thaw, gets, putAll, ↓getsK, ↓getR, ↓retK, retv, find, cells, ↓nilpK, ↓nilsK, ↓nilfK, ↓niliK, ↓bndK, ↓cutK, ↓fillK, ↓exitK, List.append_nil, List.drop, List.take, Nat.reduceAdd, Nat.reduceSub, Nat.reduceMul, Nat.reduceLT, Nat.reduceLeDiff, Nat.zero_add, Nat.add_zero, Nat.mul_one, Int.reduceToNat, Nat.reduceEqDiff, Nat.succ_ne_self, Nat.le_refl, Nat.one_ne_zero, Nat.reduceBEq, Nat.lt_irrefl, List.length_append, Int.toNat_zero, Int.toNat_one, List.take_zero, List.drop_zero, Nat.zero_mul, sel, rest, keyIn, ↓reduceIte, ↓if_pos, ↓if_neg, reduceCtorEq, Bool.not_true, Bool.not_false, Bool.false_eq_true, Bool.true_eq_false, and_self, and_true, true_and, false_and, and_false, decide_true, decide_false, decide_eq_true, decide_eq_false, decide_eq_true_eq, decide_eq_false_iff_not, Bool.not_eq_true, Bool.not_eq_false, Bool.not_eq_eq_eq_not, Decidable.not_not, avs_len, Nat.sub_zero, avs_take_all, ↓frz_ints, chunk]
  | some g =>
    simp only [accV, accE]
    have n5 : (avs bs').length = bs'.length * 1 := by rw [avs_len]; omega
    simp (disch := first | omega | (simp only [avs_len, List.length_cons, List.length_append, List.length_nil, List.length_take, List.length_drop, List.length_map]; omega)) only [c_ref01_Num, wl_ref01_Num_0, s_ref01_Num_0, c_ref01_Num_l0, wb_ref01_Num_0, c_ref01_Num_k0, ↓advStep, ↓execK, ↓opK, ↓binK, ↓intK, ↓strK, evs, ev, getT, setT, put, List.replicate, List.cons_append, List.nil_append, List.length_cons, List.length_nil, ↓mapK, ↓frzK_sl, ↓frzK_agg, ↓frzK_tup, ↓frzK_ifc, ↓frzK_func, ↓frzK_int, ↓frzK_bool, ↓frzK_str, ↓frzK_nilp, ↓frzK_nils, ↓frzK_nilm, ↓frzK_nilf, ↓frzK_nili, ↓frzK_fz, ↓frzK_any, ↓frzK_ptr, ↓frzK_ro, ↓getB, setB, kill, killM, dropK, keysOf, capOf_nn, zeroC, bump, frzT, thaw, gets, putAll, ↓getsK, ↓getR, ↓retK, retv, find, cells, ↓nilpK, ↓nilsK, ↓nilfK, ↓niliK, ↓bndK, ↓cutK, ↓fillK, ↓exitK, List.append_nil, List.drop, List.take, Nat.reduceAdd, Nat.reduceSub, Nat.reduceMul, Nat.reduceLT, Nat.reduceLeDiff, Nat.zero_add, Nat.add_zero, Nat.mul_one, Int.reduceToNat, Nat.reduceEqDiff, Nat.succ_ne_self, Nat.le_refl, Nat.one_ne_zero, Nat.reduceBEq, Nat.lt_irrefl, List.length_append, Int.toNat_zero, Int.toNat_one, List.take_zero, List.drop_zero, Nat.zero_mul, sel, rest, keyIn, ↓reduceIte, ↓if_pos, ↓if_neg, reduceCtorEq, Bool.not_true, Bool.not_false, Bool.false_eq_true, Bool.true_eq_false, and_self, and_true, true_and, false_and, and_false, decide_true, decide_false, decide_eq_true, decide_eq_false, decide_eq_true_eq, decide_eq_false_iff_not, Bool.not_eq_true, Bool.not_eq_false, Bool.not_eq_eq_eq_not, Decidable.not_not, eA, ↓appK, allSz, scal1, List.all_cons, List.all_nil, Bool.and_self, beq_self_eq_true, w1, catCells, avs_len, hc]
    refine doneG ?_
    rw [hl]
    simp (disch := first | omega | (simp only [avs_len, List.length_cons, List.length_append, List.length_nil, List.length_take, List.length_drop, List.length_map]; omega)) only [↓advStep, ↓execK, ↓opK, ↓binK, ↓intK, ↓strK, evs, ev, getT, setT, put, List.replicate, List.cons_append, List.nil_append, List.length_cons, List.length_nil, ↓mapK, ↓frzK_sl, ↓frzK_agg, ↓frzK_tup, ↓frzK_ifc, ↓frzK_func, ↓frzK_int, ↓frzK_bool, ↓frzK_str, ↓frzK_nilp, ↓frzK_nils, ↓frzK_nilm, ↓frzK_nilf, ↓frzK_nili, ↓frzK_fz, ↓frzK_any, ↓frzK_ptr, ↓frzK_ro, ↓getB, setB, kill, killM, dropK, keysOf, capOf_nn, zeroC, bump, frzT, thaw, gets, putAll, ↓getsK, ↓getR, ↓retK, retv, find, cells, ↓nilpK, ↓nilsK, ↓nilfK, ↓niliK, ↓bndK, ↓cutK, ↓fillK, ↓exitK, List.append_nil, List.drop, List.take, Nat.reduceAdd, Nat.reduceSub, Nat.reduceMul, Nat.reduceLT, Nat.reduceLeDiff, Nat.zero_add, Nat.add_zero, Nat.mul_one, Int.reduceToNat, Nat.reduceEqDiff, Nat.succ_ne_self, Nat.le_refl, Nat.one_ne_zero, Nat.reduceBEq, Nat.lt_irrefl, List.length_append, Int.toNat_zero, Int.toNat_one, List.take_zero, List.drop_zero, Nat.zero_mul, sel, rest, keyIn, ↓reduceIte, ↓if_pos, ↓if_neg, reduceCtorEq, Bool.not_true, Bool.not_false, Bool.false_eq_true, Bool.true_eq_false, and_self, and_true, true_and, false_and, and_false, decide_true, decide_false, decide_eq_true, decide_eq_false, decide_eq_true_eq, decide_eq_false_iff_not, Bool.not_eq_true, Bool.not_eq_false, Bool.not_eq_eq_eq_not, Decidable.not_not, avs_len, Nat.sub_zero, avs_take_all, ↓frz_ints, chunk]
end Go.Proofs.Ytmokhopjnjecbaa
