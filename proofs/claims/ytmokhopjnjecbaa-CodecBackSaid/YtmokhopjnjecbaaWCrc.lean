/- The walk through the sum functions. -/
import Derived.Test.YtmokhopjnjecbaaCdSum
import Derived.Test.YtmokhopjnjecbaaPSum
namespace Go.Proofs.Ytmokhopjnjecbaa
open Go.Ev
set_option linter.unusedVariables false
set_option linter.unusedSimpArgs false
set_option maxRecDepth 100000
variable {R : List AV → Heap → Ctr → Prop} {k : List It} {H : Heap} {nx : Ctr} {φ : Nat}

theorem add_loop (hk : flat k) : ∀ (n i s : Nat), i + n = 8 → s < 2 ^ 32 → RunsX Try.prog φ R k (e_sum_add_0 (.int .u32 (csteps n s : Nat))) H nx →
    RunsX Try.prog φ R (i_sum_add_0 ++ k) (s_sum_add_0 (.int .u32 (s : Nat)) (.int .i64 (i : Nat))) H nx := by
  intro n
  induction n with
  | zero =>
    intro i s hi hs h
    simp only [csteps] at h
    refine round (its := [.blk 0 wb_sum_add_0]) 60 hk trivial (fun A eA => ?_)
    obtain rfl : i = 8 := by omega
    simp only [c_sum_add, wl_sum_add_0, s_sum_add_0, c_sum_add_l0, wb_sum_add_0, c_sum_add_k0, ↓advStep, ↓execK, ↓opK, ↓binK, ↓intK, ↓strK, evs, ev, getT, setT, put, List.replicate, List.cons_append, List.nil_append, List.length_cons, List.length_nil, ↓mapK, ↓frzK_sl, ↓frzK_agg, ↓frzK_tup, ↓frzK_ifc, ↓frzK_func, ↓frzK_int, ↓frzK_bool, ↓frzK_str, ↓frzK_nilp, ↓frzK_nils, ↓frzK_nilm, ↓frzK_nilf, ↓frzK_nili, ↓frzK_fz, ↓frzK_any, ↓frzK_ptr, ↓frzK_ro, ↓getB, setB, kill, killM, dropK, keysOf, capOf_nn, zeroC, bump, frzT, thaw, gets, putAll, ↓getsK, ↓getR, ↓retK, retv, find, cells, ↓nilpK, ↓nilsK, ↓nilfK, ↓niliK, ↓bndK, ↓cutK, ↓fillK, ↓exitK, List.append_nil, List.drop, List.take, Nat.reduceAdd, Nat.reduceSub, Nat.reduceMul, Nat.reduceLT, Nat.reduceLeDiff, Nat.zero_add, Nat.add_zero, Nat.mul_one, Int.reduceToNat, Nat.reduceEqDiff, Nat.succ_ne_self, Nat.le_refl, Nat.one_ne_zero, Nat.reduceBEq, Nat.lt_irrefl, List.length_append, Int.toNat_zero, Int.toNat_one, List.take_zero, List.drop_zero, Nat.zero_mul, sel, rest, keyIn, ↓reduceIte, ↓if_pos, ↓if_neg, reduceCtorEq, Bool.not_true, Bool.not_false, Bool.false_eq_true, Bool.true_eq_false, and_self, and_true, true_and, false_and, and_false, decide_true, decide_false, decide_eq_true, decide_eq_false, decide_eq_true_eq, decide_eq_false_iff_not, Bool.not_eq_true, Bool.not_eq_false, Bool.not_eq_eq_eq_not, Decidable.not_not, eA]
    exact h
  | succ n ih =>
    intro i s hi hs h
    simp only [csteps] at h
    refine round (its := [.blk 0 wb_sum_add_0]) 60 hk trivial (fun A eA => ?_)
    have h1 : (i : Int) < 8 := by omega
    have e1 : ibits .and .u32 (s : Int) 1 = ((s % 2 : Nat) : Int) := by
      have := ibits_and .u32 rfl s 1 hs (by decide)
      rw [Nat.and_one_is_mod] at this; exact this
    have e2 : ishr .u32 (s : Int) 1 = ((s / 2 : Nat) : Int) := by
      have := ishr_nat .u32 .u64 s 1 (by decide); simpa using this
    have e3 : ibits .xor .u32 ((s / 2 : Nat) : Int) 2197175160 = ((s / 2 ^^^ 2197175160 : Nat) : Int) := ibits_xor .u32 rfl (s / 2) 2197175160 (by show s / 2 < 2 ^ 32; omega) (by decide)
    have e4 : IntKind.i64.wrap ((i : Int) + 1) = ((i + 1 : Nat) : Int) := by
      rw [IntKind.wrap_i64]; omega
    have hst := cstep_lt hs
    by_cases hb : s % 2 = 1
    · have e5 : cstep s = s / 2 ^^^ 2197175160 := by simp [cstep, hb]
      have e6 : (((s % 2 : Nat) : Int) = 1) := by omega
      simp only [c_sum_add, wl_sum_add_0, s_sum_add_0, c_sum_add_l0, wb_sum_add_0, c_sum_add_k0, ↓advStep, ↓execK, ↓opK, ↓binK, ↓intK, ↓strK, evs, ev, getT, setT, put, List.replicate, List.cons_append, List.nil_append, List.length_cons, List.length_nil, ↓mapK, ↓frzK_sl, ↓frzK_agg, ↓frzK_tup, ↓frzK_ifc, ↓frzK_func, ↓frzK_int, ↓frzK_bool, ↓frzK_str, ↓frzK_nilp, ↓frzK_nils, ↓frzK_nilm, ↓frzK_nilf, ↓frzK_nili, ↓frzK_fz, ↓frzK_any, ↓frzK_ptr, ↓frzK_ro, ↓getB, setB, kill, killM, dropK, keysOf, capOf_nn, zeroC, bump, frzT, thaw, gets, putAll, ↓getsK, ↓getR, ↓retK, retv, find, cells, ↓nilpK, ↓nilsK, ↓nilfK, ↓niliK, ↓bndK, ↓cutK, ↓fillK, ↓exitK, List.append_nil, List.drop, List.take, Nat.reduceAdd, Nat.reduceSub, Nat.reduceMul, Nat.reduceLT, Nat.reduceLeDiff, Nat.zero_add, Nat.add_zero, Nat.mul_one, Int.reduceToNat, Nat.reduceEqDiff, Nat.succ_ne_self, Nat.le_refl, Nat.one_ne_zero, Nat.reduceBEq, Nat.lt_irrefl, List.length_append, Int.toNat_zero, Int.toNat_one, List.take_zero, List.drop_zero, Nat.zero_mul, sel, rest, keyIn, ↓reduceIte, ↓if_pos, ↓if_neg, reduceCtorEq, Bool.not_true, Bool.not_false, Bool.false_eq_true, Bool.true_eq_false, and_self, and_true, true_and, false_and, and_false, decide_true, decide_false, decide_eq_true, decide_eq_false, decide_eq_true_eq, decide_eq_false_iff_not, Bool.not_eq_true, Bool.not_eq_false, Bool.not_eq_eq_eq_not, Decidable.not_not, eA, h1, e1, e2, e3, e4, e6]
      rw [← e5]
      exact ih (i + 1) (cstep s) (by omega) hst h
    · have e5 : cstep s = s / 2 := by simp [cstep, hb]
      have e6 : ¬ (((s % 2 : Nat) : Int) = 1) := by omega
      simp only [c_sum_add, wl_sum_add_0, s_sum_add_0, c_sum_add_l0, wb_sum_add_0, c_sum_add_k0, ↓advStep, ↓execK, ↓opK, ↓binK, ↓intK, ↓strK, evs, ev, getT, setT, put, List.replicate, List.cons_append, List.nil_append, List.length_cons, List.length_nil, ↓mapK, ↓frzK_sl, ↓frzK_agg, ↓frzK_tup, ↓frzK_ifc, ↓frzK_func, ↓frzK_int, ↓frzK_bool, ↓frzK_str, ↓frzK_nilp, ↓frzK_nils, ↓frzK_nilm, ↓frzK_nilf, ↓frzK_nili, ↓frzK_fz, ↓frzK_any, ↓frzK_ptr, ↓frzK_ro, ↓getB, setB, kill, killM, dropK, keysOf, capOf_nn, zeroC, bump, frzT, thaw, gets, putAll, ↓getsK, ↓getR, ↓retK, retv, find, cells, ↓nilpK, ↓nilsK, ↓nilfK, ↓niliK, ↓bndK, ↓cutK, ↓fillK, ↓exitK, List.append_nil, List.drop, List.take, Nat.reduceAdd, Nat.reduceSub, Nat.reduceMul, Nat.reduceLT, Nat.reduceLeDiff, Nat.zero_add, Nat.add_zero, Nat.mul_one, Int.reduceToNat, Nat.reduceEqDiff, Nat.succ_ne_self, Nat.le_refl, Nat.one_ne_zero, Nat.reduceBEq, Nat.lt_irrefl, List.length_append, Int.toNat_zero, Int.toNat_one, List.take_zero, List.drop_zero, Nat.zero_mul, sel, rest, keyIn, ↓reduceIte, ↓if_pos, ↓if_neg, reduceCtorEq, Bool.not_true, Bool.not_false, Bool.false_eq_true, Bool.true_eq_false, and_self, and_true, true_and, false_and, and_false, decide_true, decide_false, decide_eq_true, decide_eq_false, decide_eq_true_eq, decide_eq_false_iff_not, Bool.not_eq_true, Bool.not_eq_false, Bool.not_eq_eq_eq_not, Decidable.not_not, eA, h1, e1, e2, e3, e4, e6]
      rw [← e5]
      exact ih (i + 1) (cstep s) (by omega) hst h
theorem add_calls (s b : Nat) (hs : s < 2 ^ 32) (hb : b < 256) : PCalls Try.prog F_sum_add [.int .u32 (s : Nat), .int .u8 (b : Nat)] (.int .u32 (add s b : Nat)) := by
  refine calls_sum_add (walk0 60 trivial (fun A eA => ?_))
  have e1 : IntKind.u32.wrap (b : Int) = ((b : Nat) : Int) := wrap_nat .u32 rfl b (by show b < 2 ^ 32; omega)
  have e2 : ibits .xor .u32 (s : Int) (b : Int) = ((s ^^^ b : Nat) : Int) := ibits_xor .u32 rfl s b hs (by show b < 2 ^ 32; omega)
  simp only [c_sum_add, wl_sum_add_0, s_sum_add_0, c_sum_add_l0, wb_sum_add_0, c_sum_add_k0, ↓advStep, ↓execK, ↓opK, ↓binK, ↓intK, ↓strK, evs, ev, getT, setT, put, List.replicate, List.cons_append, List.nil_append, List.length_cons, List.length_nil, ↓mapK, ↓frzK_sl, ↓frzK_agg, ↓frzK_tup, ↓frzK_ifc, ↓frzK_func, ↓frzK_int, ↓frzK_bool, ↓frzK_str, ↓frzK_nilp, ↓frzK_nils, ↓frzK_nilm, ↓frzK_nilf, ↓frzK_nili, ↓frzK_fz, ↓frzK_any, ↓frzK_ptr, ↓frzK_ro, ↓getB, setB, kill, killM, dropK, keysOf, capOf_nn, zeroC, bump, frzT, thaw, gets, putAll, ↓getsK, ↓getR, ↓retK, retv, find, cells, ↓nilpK, ↓nilsK, ↓nilfK, ↓niliK, ↓bndK, ↓cutK, ↓fillK, ↓exitK, List.append_nil, List.drop, List.take, Nat.reduceAdd, Nat.reduceSub, Nat.reduceMul, Nat.reduceLT, Nat.reduceLeDiff, Nat.zero_add, Nat.add_zero, Nat.mul_one, Int.reduceToNat, Nat.reduceEqDiff, Nat.succ_ne_self, Nat.le_refl, Nat.one_ne_zero, Nat.reduceBEq, Nat.lt_irrefl, List.length_append, Int.toNat_zero, Int.toNat_one, List.take_zero, List.drop_zero, Nat.zero_mul, sel, rest, keyIn, ↓reduceIte, ↓if_pos, ↓if_neg, reduceCtorEq, Bool.not_true, Bool.not_false, Bool.false_eq_true, Bool.true_eq_false, and_self, and_true, true_and, false_and, and_false, decide_true, decide_false, decide_eq_true, decide_eq_false, decide_eq_true_eq, decide_eq_false_iff_not, Bool.not_eq_true, Bool.not_eq_false, Bool.not_eq_eq_eq_not, Decidable.not_not, eA, e1, e2]
  refine add_loop (k := [.c c_sum_add_k0]) trivial 8 0 _ rfl (Nat.xor_lt_two_pow hs (by omega)) ?_
  refine walk0 60 trivial (fun A eA => ?_)
  simp only [c_sum_add, wl_sum_add_0, s_sum_add_0, c_sum_add_l0, wb_sum_add_0, c_sum_add_k0, ↓advStep, ↓execK, ↓opK, ↓binK, ↓intK, ↓strK, evs, ev, getT, setT, put, List.replicate, List.cons_append, List.nil_append, List.length_cons, List.length_nil, ↓mapK, ↓frzK_sl, ↓frzK_agg, ↓frzK_tup, ↓frzK_ifc, ↓frzK_func, ↓frzK_int, ↓frzK_bool, ↓frzK_str, ↓frzK_nilp, ↓frzK_nils, ↓frzK_nilm, ↓frzK_nilf, ↓frzK_nili, ↓frzK_fz, ↓frzK_any, ↓frzK_ptr, ↓frzK_ro, ↓getB, setB, kill, killM, dropK, keysOf, capOf_nn, zeroC, bump, frzT, thaw, gets, putAll, ↓getsK, ↓getR, ↓retK, retv, find, cells, ↓nilpK, ↓nilsK, ↓nilfK, ↓niliK, ↓bndK, ↓cutK, ↓fillK, ↓exitK, List.append_nil, List.drop, List.take, Nat.reduceAdd, Nat.reduceSub, Nat.reduceMul, Nat.reduceLT, Nat.reduceLeDiff, Nat.zero_add, Nat.add_zero, Nat.mul_one, Int.reduceToNat, Nat.reduceEqDiff, Nat.succ_ne_self, Nat.le_refl, Nat.one_ne_zero, Nat.reduceBEq, Nat.lt_irrefl, List.length_append, Int.toNat_zero, Int.toNat_one, List.take_zero, List.drop_zero, Nat.zero_mul, sel, rest, keyIn, ↓reduceIte, ↓if_pos, ↓if_neg, reduceCtorEq, Bool.not_true, Bool.not_false, Bool.false_eq_true, Bool.true_eq_false, and_self, and_true, true_and, false_and, and_false, decide_true, decide_false, decide_eq_true, decide_eq_false, decide_eq_true_eq, decide_eq_false_iff_not, Bool.not_eq_true, Bool.not_eq_false, Bool.not_eq_eq_eq_not, Decidable.not_not, eA]
  exact doneG rfl
theorem crc_loop (bs : List Nat) (hbs : ∀ b ∈ bs, b < 256) (hlen : bs.length ≤ 140737488351232) (hk : flat k) : ∀ (post pre : List Nat), bs = pre ++ post → ∀ (s : Nat), s < 2 ^ 32 →
    RunsX Try.prog φ R k (e_sum_CRC_0 (.int .u32 (post.foldl add s : Nat))) H nx →
    RunsX Try.prog φ R (i_sum_CRC_0 ++ k) (s_sum_CRC_0 (.int .u32 (s : Nat)) (.fz 1 (avs bs) none) (.int .i64 (bs.length : Nat)) (.int .i64 (pre.length : Nat))) H nx := by
  intro post
  induction post with
  | nil =>
    intro pre hpre s hs h
    simp only [List.foldl_nil] at h
    refine round (its := [.blk 0 wb_sum_CRC_0]) 60 hk trivial (fun A eA => ?_)
    rw [List.append_nil] at hpre
    subst hpre
    have h1 : ¬ ((bs.length : Int) < bs.length) := by omega
    simp only [c_sum_CRC, wl_sum_CRC_0, s_sum_CRC_0, c_sum_CRC_l0, wb_sum_CRC_0, c_sum_CRC_k0, ↓advStep, ↓execK, ↓opK, ↓binK, ↓intK, ↓strK, evs, ev, getT, setT, put, List.replicate, List.cons_append, List.nil_append, List.length_cons, List.length_nil, ↓mapK, ↓frzK_sl, ↓frzK_agg, ↓frzK_tup, ↓frzK_ifc, ↓frzK_func, ↓frzK_int, ↓frzK_bool, ↓frzK_str, ↓frzK_nilp, ↓frzK_nils, ↓frzK_nilm, ↓frzK_nilf, ↓frzK_nili, ↓frzK_fz, ↓frzK_any, ↓frzK_ptr, ↓frzK_ro, ↓getB, setB, kill, killM, dropK, keysOf, capOf_nn, zeroC, bump, frzT, thaw, gets, putAll, ↓getsK, ↓getR, ↓retK, retv, find, cells, ↓nilpK, ↓nilsK, ↓nilfK, ↓niliK, ↓bndK, ↓cutK, ↓fillK, ↓exitK, List.append_nil, List.drop, List.take, Nat.reduceAdd, Nat.reduceSub, Nat.reduceMul, Nat.reduceLT, Nat.reduceLeDiff, Nat.zero_add, Nat.add_zero, Nat.mul_one, Int.reduceToNat, Nat.reduceEqDiff, Nat.succ_ne_self, Nat.le_refl, Nat.one_ne_zero, Nat.reduceBEq, Nat.lt_irrefl, List.length_append, Int.toNat_zero, Int.toNat_one, List.take_zero, List.drop_zero, Nat.zero_mul, sel, rest, keyIn, ↓reduceIte, ↓if_pos, ↓if_neg, reduceCtorEq, Bool.not_true, Bool.not_false, Bool.false_eq_true, Bool.true_eq_false, and_self, and_true, true_and, false_and, and_false, decide_true, decide_false, decide_eq_true, decide_eq_false, decide_eq_true_eq, decide_eq_false_iff_not, Bool.not_eq_true, Bool.not_eq_false, Bool.not_eq_eq_eq_not, Decidable.not_not, eA, h1]
    exact h
  | cons b post ih =>
    intro pre hpre s hs h
    simp only [List.foldl_cons] at h
    have hl : pre.length < bs.length := by rw [hpre]; simp
    have hb : b < 256 := hbs b (by rw [hpre]; simp)
    have h1 : (pre.length : Int) < bs.length := by omega
    have h2 : ¬ ((pre.length : Int) < 0) := by omega
    have e1 : (avs bs)[(pre.length : Int).toNat]? = some (.int .u8 (b : Nat)) := by
      rw [Int.toNat_natCast, avs_get, hpre, List.getElem?_append_right (Nat.le_refl _), Nat.sub_self]; rfl
    have e4 : IntKind.i64.wrap ((pre.length : Int) + 1) = ((pre.length + 1 : Nat) : Int) := by
      rw [IntKind.wrap_i64]; omega
    refine round (its := [.blk 0 wb_sum_CRC_0]) 60 hk trivial (fun A eA => ?_)
    simp only [c_sum_CRC, wl_sum_CRC_0, s_sum_CRC_0, c_sum_CRC_l0, wb_sum_CRC_0, c_sum_CRC_k0, ↓advStep, ↓execK, ↓opK, ↓binK, ↓intK, ↓strK, evs, ev, getT, setT, put, List.replicate, List.cons_append, List.nil_append, List.length_cons, List.length_nil, ↓mapK, ↓frzK_sl, ↓frzK_agg, ↓frzK_tup, ↓frzK_ifc, ↓frzK_func, ↓frzK_int, ↓frzK_bool, ↓frzK_str, ↓frzK_nilp, ↓frzK_nils, ↓frzK_nilm, ↓frzK_nilf, ↓frzK_nili, ↓frzK_fz, ↓frzK_any, ↓frzK_ptr, ↓frzK_ro, ↓getB, setB, kill, killM, dropK, keysOf, capOf_nn, zeroC, bump, frzT, thaw, gets, putAll, ↓getsK, ↓getR, ↓retK, retv, find, cells, ↓nilpK, ↓nilsK, ↓nilfK, ↓niliK, ↓bndK, ↓cutK, ↓fillK, ↓exitK, List.append_nil, List.drop, List.take, Nat.reduceAdd, Nat.reduceSub, Nat.reduceMul, Nat.reduceLT, Nat.reduceLeDiff, Nat.zero_add, Nat.add_zero, Nat.mul_one, Int.reduceToNat, Nat.reduceEqDiff, Nat.succ_ne_self, Nat.le_refl, Nat.one_ne_zero, Nat.reduceBEq, Nat.lt_irrefl, List.length_append, Int.toNat_zero, Int.toNat_one, List.take_zero, List.drop_zero, Nat.zero_mul, sel, rest, keyIn, ↓reduceIte, ↓if_pos, ↓if_neg, reduceCtorEq, Bool.not_true, Bool.not_false, Bool.false_eq_true, Bool.true_eq_false, and_self, and_true, true_and, false_and, and_false, decide_true, decide_false, decide_eq_true, decide_eq_false, decide_eq_true_eq, decide_eq_false_iff_not, Bool.not_eq_true, Bool.not_eq_false, Bool.not_eq_eq_eq_not, Decidable.not_not, eA, h1, h2, e1]
    refine call0 60 hk trivial (add_calls s b hs hb) (.inl rfl) (fun A eA => ?_)
    simp only [c_sum_CRC, wl_sum_CRC_0, s_sum_CRC_0, c_sum_CRC_l0, wb_sum_CRC_0, c_sum_CRC_k0, ↓advStep, ↓execK, ↓opK, ↓binK, ↓intK, ↓strK, evs, ev, getT, setT, put, List.replicate, List.cons_append, List.nil_append, List.length_cons, List.length_nil, ↓mapK, ↓frzK_sl, ↓frzK_agg, ↓frzK_tup, ↓frzK_ifc, ↓frzK_func, ↓frzK_int, ↓frzK_bool, ↓frzK_str, ↓frzK_nilp, ↓frzK_nils, ↓frzK_nilm, ↓frzK_nilf, ↓frzK_nili, ↓frzK_fz, ↓frzK_any, ↓frzK_ptr, ↓frzK_ro, ↓getB, setB, kill, killM, dropK, keysOf, capOf_nn, zeroC, bump, frzT, thaw, gets, putAll, ↓getsK, ↓getR, ↓retK, retv, find, cells, ↓nilpK, ↓nilsK, ↓nilfK, ↓niliK, ↓bndK, ↓cutK, ↓fillK, ↓exitK, List.append_nil, List.drop, List.take, Nat.reduceAdd, Nat.reduceSub, Nat.reduceMul, Nat.reduceLT, Nat.reduceLeDiff, Nat.zero_add, Nat.add_zero, Nat.mul_one, Int.reduceToNat, Nat.reduceEqDiff, Nat.succ_ne_self, Nat.le_refl, Nat.one_ne_zero, Nat.reduceBEq, Nat.lt_irrefl, List.length_append, Int.toNat_zero, Int.toNat_one, List.take_zero, List.drop_zero, Nat.zero_mul, sel, rest, keyIn, ↓reduceIte, ↓if_pos, ↓if_neg, reduceCtorEq, Bool.not_true, Bool.not_false, Bool.false_eq_true, Bool.true_eq_false, and_self, and_true, true_and, false_and, and_false, decide_true, decide_false, decide_eq_true, decide_eq_false, decide_eq_true_eq, decide_eq_false_iff_not, Bool.not_eq_true, Bool.not_eq_false, Bool.not_eq_eq_eq_not, Decidable.not_not, eA, e4]
    have hn := ih (pre ++ [b]) (by rw [hpre]; simp) (add s b) (add_lt hs hb) h
    rw [show (pre ++ [b]).length = pre.length + 1 by simp] at hn
    exact hn
theorem crc_calls (bs : List Nat) (hbs : ∀ b ∈ bs, b < 256) (hlen : bs.length ≤ 140737488351232) : PCalls Try.prog F_sum_CRC [.fz 1 (avs bs) none] (.int .u32 (crcOf bs : Nat)) := by
  refine calls_sum_CRC (walk0 60 trivial (fun A eA => ?_))
  simp only [c_sum_CRC, wl_sum_CRC_0, s_sum_CRC_0, c_sum_CRC_l0, wb_sum_CRC_0, c_sum_CRC_k0, ↓advStep, ↓execK, ↓opK, ↓binK, ↓intK, ↓strK, evs, ev, getT, setT, put, List.replicate, List.cons_append, List.nil_append, List.length_cons, List.length_nil, ↓mapK, ↓frzK_sl, ↓frzK_agg, ↓frzK_tup, ↓frzK_ifc, ↓frzK_func, ↓frzK_int, ↓frzK_bool, ↓frzK_str, ↓frzK_nilp, ↓frzK_nils, ↓frzK_nilm, ↓frzK_nilf, ↓frzK_nili, ↓frzK_fz, ↓frzK_any, ↓frzK_ptr, ↓frzK_ro, ↓getB, setB, kill, killM, dropK, keysOf, capOf_nn, zeroC, bump, frzT, thaw, gets, putAll, ↓getsK, ↓getR, ↓retK, retv, find, cells, ↓nilpK, ↓nilsK, ↓nilfK, ↓niliK, ↓bndK, ↓cutK, ↓fillK, ↓exitK, List.append_nil, List.drop, List.take, Nat.reduceAdd, Nat.reduceSub, Nat.reduceMul, Nat.reduceLT, Nat.reduceLeDiff, Nat.zero_add, Nat.add_zero, Nat.mul_one, Int.reduceToNat, Nat.reduceEqDiff, Nat.succ_ne_self, Nat.le_refl, Nat.one_ne_zero, Nat.reduceBEq, Nat.lt_irrefl, List.length_append, Int.toNat_zero, Int.toNat_one, List.take_zero, List.drop_zero, Nat.zero_mul, sel, rest, keyIn, ↓reduceIte, ↓if_pos, ↓if_neg, reduceCtorEq, Bool.not_true, Bool.not_false, Bool.false_eq_true, Bool.true_eq_false, and_self, and_true, true_and, false_and, and_false, decide_true, decide_false, decide_eq_true, decide_eq_false, decide_eq_true_eq, decide_eq_false_iff_not, Bool.not_eq_true, Bool.not_eq_false, Bool.not_eq_eq_eq_not, Decidable.not_not, eA, avs_len]
  refine crc_loop bs hbs hlen (k := [.c c_sum_CRC_k0]) trivial bs [] rfl 4294967295 (by decide) ?_
  refine walk0 60 trivial (fun A eA => ?_)
  have e2 : ibits .xor .u32 ((bs.foldl add 4294967295 : Nat) : Int) 4294967295 = ((crcOf bs : Nat) : Int) := ibits_xor .u32 rfl _ 4294967295 (fold_lt bs (by decide) hbs) (by decide)
  simp only [c_sum_CRC, wl_sum_CRC_0, s_sum_CRC_0, c_sum_CRC_l0, wb_sum_CRC_0, c_sum_CRC_k0, ↓advStep, ↓execK, ↓opK, ↓binK, ↓intK, ↓strK, evs, ev, getT, setT, put, List.replicate, List.cons_append, List.nil_append, List.length_cons, List.length_nil, ↓mapK, ↓frzK_sl, ↓frzK_agg, ↓frzK_tup, ↓frzK_ifc, ↓frzK_func, ↓frzK_int, ↓frzK_bool, ↓frzK_str, ↓frzK_nilp, ↓frzK_nils, ↓frzK_nilm, ↓frzK_nilf, ↓frzK_nili, ↓frzK_fz, ↓frzK_any, ↓frzK_ptr, ↓frzK_ro, ↓getB, setB, kill, killM, dropK, keysOf, capOf_nn, zeroC, bump, frzT, thaw, gets, putAll, ↓getsK, ↓getR, ↓retK, retv, find, cells, ↓nilpK, ↓nilsK, ↓nilfK, ↓niliK, ↓bndK, ↓cutK, ↓fillK, ↓exitK, List.append_nil, List.drop, List.take, Nat.reduceAdd, Nat.reduceSub, Nat.reduceMul, Nat.reduceLT, Nat.reduceLeDiff, Nat.zero_add, Nat.add_zero, Nat.mul_one, Int.reduceToNat, Nat.reduceEqDiff, Nat.succ_ne_self, Nat.le_refl, Nat.one_ne_zero, Nat.reduceBEq, Nat.lt_irrefl, List.length_append, Int.toNat_zero, Int.toNat_one, List.take_zero, List.drop_zero, Nat.zero_mul, sel, rest, keyIn, ↓reduceIte, ↓if_pos, ↓if_neg, reduceCtorEq, Bool.not_true, Bool.not_false, Bool.false_eq_true, Bool.true_eq_false, and_self, and_true, true_and, false_and, and_false, decide_true, decide_false, decide_eq_true, decide_eq_false, decide_eq_true_eq, decide_eq_false_iff_not, Bool.not_eq_true, Bool.not_eq_false, Bool.not_eq_eq_eq_not, Decidable.not_not, eA, e2]
  exact doneG rfl
theorem bits_loop (bs : List Nat) (i b : Nat) (hi : bs[i]? = some b) (hb : b < 256) (a8 a9 : AV) (hk : flat k) : ∀ (n j r : Nat), j + n = 8 → r < 2 ^ 32 →
    RunsX Try.prog φ R k (e_ref01_CRC_2 (.fz 1 (avs bs) none) (.int .u64 (rsteps n r b j : Nat)) a8 a9) H nx →
    RunsX Try.prog φ R (i_ref01_CRC_2 ++ k) (s_ref01_CRC_2 (.fz 1 (avs bs) none) (.int .u64 (r : Nat)) (.int .i64 (i : Nat)) a8 a9 (.int .i64 (j : Nat))) H nx := by
  intro n
  induction n with
  | zero =>
    intro j r hj hr h
    simp only [rsteps] at h
    refine round (its := [.blk 2 wb_ref01_CRC_2]) 60 hk trivial (fun A eA => ?_)
    obtain rfl : j = 8 := by omega
    simp only [c_ref01_CRC, wl_ref01_CRC_2, s_ref01_CRC_2, c_ref01_CRC_l2, wb_ref01_CRC_2, wb_ref01_CRC_1, c_ref01_CRC_k0, wl_ref01_CRC_0, s_ref01_CRC_0, c_ref01_CRC_l0, wb_ref01_CRC_0, c_ref01_CRC_k1, ↓advStep, ↓execK, ↓opK, ↓binK, ↓intK, ↓strK, evs, ev, getT, setT, put, List.replicate, List.cons_append, List.nil_append, List.length_cons, List.length_nil, ↓mapK, ↓frzK_sl, ↓frzK_agg, ↓frzK_tup, ↓frzK_ifc, ↓frzK_func, ↓frzK_int, ↓frzK_bool, ↓frzK_str, ↓frzK_nilp, ↓frzK_nils, ↓frzK_nilm, ↓frzK_nilf, ↓frzK_nili, ↓frzK_fz, ↓frzK_any, ↓frzK_ptr, ↓frzK_ro, ↓getB, setB, kill, killM, dropK, keysOf, capOf_nn, zeroC, bump, frzT, thaw, gets, putAll, ↓getsK, ↓getR, ↓retK, retv, find, cells, ↓nilpK, ↓nilsK, ↓nilfK, ↓niliK, ↓bndK, ↓cutK, ↓fillK, ↓exitK, List.append_nil, List.drop, List.take, Nat.reduceAdd, Nat.reduceSub, Nat.reduceMul, Nat.reduceLT, Nat.reduceLeDiff, Nat.zero_add, Nat.add_zero, Nat.mul_one, Int.reduceToNat, Nat.reduceEqDiff, Nat.succ_ne_self, Nat.le_refl, Nat.one_ne_zero, Nat.reduceBEq, Nat.lt_irrefl, List.length_append, Int.toNat_zero, Int.toNat_one, List.take_zero, List.drop_zero, Nat.zero_mul, sel, rest, keyIn, ↓reduceIte, ↓if_pos, ↓if_neg, reduceCtorEq, Bool.not_true, Bool.not_false, Bool.false_eq_true, Bool.true_eq_false, and_self, and_true, true_and, false_and, and_false, decide_true, decide_false, decide_eq_true, decide_eq_false, decide_eq_true_eq, decide_eq_false_iff_not, Bool.not_eq_true, Bool.not_eq_false, Bool.not_eq_eq_eq_not, Decidable.not_not, eA]
    exact h
  | succ n ih =>
    intro j r hj hr h
    simp only [rsteps] at h
    refine round (its := [.blk 2 wb_ref01_CRC_2]) 60 hk trivial (fun A eA => ?_)
    have h1 : (j : Int) < 8 := by omega
    have h2 : ¬ ((i : Int) < 0) := by omega
    have h3 : ¬ ((j : Int) < 0) := by omega
    have h4 : ¬ ((2 : Int) = 0) := by omega
    have e1 : (avs bs)[(i : Int).toNat]? = some (.int .u8 (b : Nat)) := by
      rw [Int.toNat_natCast, avs_get, hi]; rfl
    have e2 : IntKind.u64.wrap (j : Int) = ((j : Nat) : Int) := wrap_nat .u64 rfl j (by show j < 2 ^ 64; omega)
    have e3 : ishr .u8 (b : Int) (j : Int) = ((b / 2 ^ j : Nat) : Int) := ishr_nat .u8 .u64 b j (by show j ≤ 8; omega)
    have e4 : ibits .and .u8 ((b / 2 ^ j : Nat) : Int) 1 = ((b / 2 ^ j % 2 : Nat) : Int) := by
      have := ibits_and .u8 rfl (b / 2 ^ j) 1 (Nat.lt_of_le_of_lt (Nat.div_le_self _ _) hb) (by decide)
      rw [Nat.and_one_is_mod] at this; exact this
    have e5 : IntKind.u64.wrap ((b / 2 ^ j % 2 : Nat) : Int) = ((b / 2 ^ j % 2 : Nat) : Int) := wrap_nat .u64 rfl _ (by show _ < 2 ^ 64; omega)
    have e6 : (r : Int).tmod 2 = ((r % 2 : Nat) : Int) := by rw [Int.tmod_eq_emod_of_nonneg (by omega)]; omega
    have e7 : ibits .xor .u64 ((r % 2 : Nat) : Int) ((b / 2 ^ j % 2 : Nat) : Int) = ((rbit r b j : Nat) : Int) := ibits_xor .u64 rfl _ _ (by show _ < 2 ^ 64; omega) (by show _ < 2 ^ 64; omega)
    have e8 : IntKind.u64.wrap ((r : Int).tdiv 2) = ((r / 2 : Nat) : Int) := by
      have : (r : Int).tdiv 2 = ((r / 2 : Nat) : Int) := by rw [Int.tdiv_eq_ediv_of_nonneg (by omega)]; omega
      rw [this]
      exact wrap_nat .u64 rfl _ (by show _ < 2 ^ 64; omega)
    have e9 : ibits .xor .u64 ((r / 2 : Nat) : Int) 2197175160 = ((r / 2 ^^^ 2197175160 : Nat) : Int) := ibits_xor .u64 rfl (r / 2) 2197175160 (by show r / 2 < 2 ^ 64; omega) (by decide)
    have e10 : IntKind.i64.wrap ((j : Int) + 1) = ((j + 1 : Nat) : Int) := by rw [IntKind.wrap_i64]; omega
    have hst := rstep_lt (b := b) (j := j) hr
    by_cases hbit : rbit r b j = 1
    · have g5 : rstep r b j = r / 2 ^^^ 2197175160 := by simp [rstep, hbit]
      have g6 : (((rbit r b j : Nat) : Int) = 1) := by omega
      simp only [c_ref01_CRC, wl_ref01_CRC_2, s_ref01_CRC_2, c_ref01_CRC_l2, wb_ref01_CRC_2, wb_ref01_CRC_1, c_ref01_CRC_k0, wl_ref01_CRC_0, s_ref01_CRC_0, c_ref01_CRC_l0, wb_ref01_CRC_0, c_ref01_CRC_k1, ↓advStep, ↓execK, ↓opK, ↓binK, ↓intK, ↓strK, evs, ev, getT, setT, put, List.replicate, List.cons_append, List.nil_append, List.length_cons, List.length_nil, ↓mapK, ↓frzK_sl, ↓frzK_agg, ↓frzK_tup, ↓frzK_ifc, ↓frzK_func, ↓frzK_int, ↓frzK_bool, ↓frzK_str, ↓frzK_nilp, ↓frzK_nils, ↓frzK_nilm, ↓frzK_nilf, ↓frzK_nili, ↓frzK_fz, ↓frzK_any, ↓frzK_ptr, ↓frzK_ro, ↓getB, setB, kill, killM, dropK, keysOf, capOf_nn, zeroC, bump, frzT, thaw, gets, putAll, ↓getsK, ↓getR, ↓retK, retv, find, cells, ↓nilpK, ↓nilsK, ↓nilfK, ↓niliK, ↓bndK, ↓cutK, ↓fillK, ↓exitK, List.append_nil, List.drop, List.take, Nat.reduceAdd, Nat.reduceSub, Nat.reduceMul, Nat.reduceLT, Nat.reduceLeDiff, Nat.zero_add, Nat.add_zero, Nat.mul_one, Int.reduceToNat, Nat.reduceEqDiff, Nat.succ_ne_self, Nat.le_refl, Nat.one_ne_zero, Nat.reduceBEq, Nat.lt_irrefl, List.length_append, Int.toNat_zero, Int.toNat_one, List.take_zero, List.drop_zero, Nat.zero_mul, sel, rest, keyIn, ↓reduceIte, ↓if_pos, ↓if_neg, reduceCtorEq, Bool.not_true, Bool.not_false, Bool.false_eq_true, Bool.true_eq_false, and_self, and_true, true_and, false_and, and_false, decide_true, decide_false, decide_eq_true, decide_eq_false, decide_eq_true_eq, decide_eq_false_iff_not, Bool.not_eq_true, Bool.not_eq_false, Bool.not_eq_eq_eq_not, Decidable.not_not, eA, h1, h2, h3, h4, e1, e2, e3, e4, e5, e6, e7, e8, e9, e10, g6]
      rw [← g5]
      exact ih (j + 1) (rstep r b j) (by omega) hst h
    · have g5 : rstep r b j = r / 2 := by simp [rstep, hbit]
      have g6 : ¬ (((rbit r b j : Nat) : Int) = 1) := by omega
      simp only [c_ref01_CRC, wl_ref01_CRC_2, s_ref01_CRC_2, c_ref01_CRC_l2, wb_ref01_CRC_2, wb_ref01_CRC_1, c_ref01_CRC_k0, wl_ref01_CRC_0, s_ref01_CRC_0, c_ref01_CRC_l0, wb_ref01_CRC_0, c_ref01_CRC_k1, ↓advStep, ↓execK, ↓opK, ↓binK, ↓intK, ↓strK, evs, ev, getT, setT, put, List.replicate, List.cons_append, List.nil_append, List.length_cons, List.length_nil, ↓mapK, ↓frzK_sl, ↓frzK_agg, ↓frzK_tup, ↓frzK_ifc, ↓frzK_func, ↓frzK_int, ↓frzK_bool, ↓frzK_str, ↓frzK_nilp, ↓frzK_nils, ↓frzK_nilm, ↓frzK_nilf, ↓frzK_nili, ↓frzK_fz, ↓frzK_any, ↓frzK_ptr, ↓frzK_ro, ↓getB, setB, kill, killM, dropK, keysOf, capOf_nn, zeroC, bump, frzT, thaw, gets, putAll, ↓getsK, ↓getR, ↓retK, retv, find, cells, ↓nilpK, ↓nilsK, ↓nilfK, ↓niliK, ↓bndK, ↓cutK, ↓fillK, ↓exitK, List.append_nil, List.drop, List.take, Nat.reduceAdd, Nat.reduceSub, Nat.reduceMul, Nat.reduceLT, Nat.reduceLeDiff, Nat.zero_add, Nat.add_zero, Nat.mul_one, Int.reduceToNat, Nat.reduceEqDiff, Nat.succ_ne_self, Nat.le_refl, Nat.one_ne_zero, Nat.reduceBEq, Nat.lt_irrefl, List.length_append, Int.toNat_zero, Int.toNat_one, List.take_zero, List.drop_zero, Nat.zero_mul, sel, rest, keyIn, ↓reduceIte, ↓if_pos, ↓if_neg, reduceCtorEq, Bool.not_true, Bool.not_false, Bool.false_eq_true, Bool.true_eq_false, and_self, and_true, true_and, false_and, and_false, decide_true, decide_false, decide_eq_true, decide_eq_false, decide_eq_true_eq, decide_eq_false_iff_not, Bool.not_eq_true, Bool.not_eq_false, Bool.not_eq_eq_eq_not, Decidable.not_not, eA, h1, h2, h3, h4, e1, e2, e3, e4, e5, e6, e7, e8, e9, e10, g6]
      rw [← g5]
      exact ih (j + 1) (rstep r b j) (by omega) hst h
theorem ref_loop (bs : List Nat) (hbs : ∀ b ∈ bs, b < 256) (hlen : bs.length ≤ 140737488351232) (hk : flat k) : ∀ (post pre : List Nat), bs = pre ++ post → ∀ (s : Nat), s < 2 ^ 32 →
    RunsX Try.prog φ R k (e_ref01_CRC_0 (.int .u64 (post.foldl add s : Nat))) H nx →
    RunsX Try.prog φ R (i_ref01_CRC_0 ++ k) (s_ref01_CRC_0 (.fz 1 (avs bs) none) (.int .u64 (s : Nat)) (.int .i64 (bs.length : Nat)) (.int .i64 (pre.length : Nat))) H nx := by
  intro post
  induction post with
  | nil =>
    intro pre hpre s hs h
    simp only [List.foldl_nil] at h
    refine round (its := [.blk 0 wb_ref01_CRC_0]) 60 hk trivial (fun A eA => ?_)
    rw [List.append_nil] at hpre
    subst hpre
    have h1 : ¬ ((bs.length : Int) < bs.length) := by omega
    simp only [c_ref01_CRC, wl_ref01_CRC_2, s_ref01_CRC_2, c_ref01_CRC_l2, wb_ref01_CRC_2, wb_ref01_CRC_1, c_ref01_CRC_k0, wl_ref01_CRC_0, s_ref01_CRC_0, c_ref01_CRC_l0, wb_ref01_CRC_0, c_ref01_CRC_k1, ↓advStep, ↓execK, ↓opK, ↓binK, ↓intK, ↓strK, evs, ev, getT, setT, put, List.replicate, List.cons_append, List.nil_append, List.length_cons, List.length_nil, ↓mapK, ↓frzK_sl, ↓frzK_agg, ↓frzK_tup, ↓frzK_ifc, ↓frzK_func, ↓frzK_int, ↓frzK_bool, ↓frzK_str, ↓frzK_nilp, ↓frzK_nils, ↓frzK_nilm, ↓frzK_nilf, ↓frzK_nili, ↓frzK_fz, ↓frzK_any, ↓frzK_ptr, ↓frzK_ro, ↓getB, setB, kill, killM, dropK, keysOf, capOf_nn, zeroC, bump, frzT, thaw, gets, putAll, ↓getsK, ↓getR, ↓retK, retv, find, cells, ↓nilpK, ↓nilsK, ↓nilfK, ↓niliK, ↓bndK, ↓cutK, ↓fillK, ↓exitK, List.append_nil, List.drop, List.take, Nat.reduceAdd, Nat.reduceSub, Nat.reduceMul, Nat.reduceLT, Nat.reduceLeDiff, Nat.zero_add, Nat.add_zero, Nat.mul_one, Int.reduceToNat, Nat.reduceEqDiff, Nat.succ_ne_self, Nat.le_refl, Nat.one_ne_zero, Nat.reduceBEq, Nat.lt_irrefl, List.length_append, Int.toNat_zero, Int.toNat_one, List.take_zero, List.drop_zero, Nat.zero_mul, sel, rest, keyIn, ↓reduceIte, ↓if_pos, ↓if_neg, reduceCtorEq, Bool.not_true, Bool.not_false, Bool.false_eq_true, Bool.true_eq_false, and_self, and_true, true_and, false_and, and_false, decide_true, decide_false, decide_eq_true, decide_eq_false, decide_eq_true_eq, decide_eq_false_iff_not, Bool.not_eq_true, Bool.not_eq_false, Bool.not_eq_eq_eq_not, Decidable.not_not, eA, h1]
    exact h
  | cons b post ih =>
    intro pre hpre s hs h
    simp only [List.foldl_cons] at h
    have hl : pre.length < bs.length := by rw [hpre]; simp
    have hb : b < 256 := hbs b (by rw [hpre]; simp)
    have h1 : (pre.length : Int) < bs.length := by omega
    have e1 : bs[pre.length]? = some b := by
      rw [hpre, List.getElem?_append_right (Nat.le_refl _), Nat.sub_self]; rfl
    have e4 : IntKind.i64.wrap ((pre.length : Int) + 1) = ((pre.length + 1 : Nat) : Int) := by
      rw [IntKind.wrap_i64]; omega
    refine round (its := [.blk 0 wb_ref01_CRC_0]) 60 hk trivial (fun A eA => ?_)
    simp only [c_ref01_CRC, wl_ref01_CRC_2, s_ref01_CRC_2, c_ref01_CRC_l2, wb_ref01_CRC_2, wb_ref01_CRC_1, c_ref01_CRC_k0, wl_ref01_CRC_0, s_ref01_CRC_0, c_ref01_CRC_l0, wb_ref01_CRC_0, c_ref01_CRC_k1, ↓advStep, ↓execK, ↓opK, ↓binK, ↓intK, ↓strK, evs, ev, getT, setT, put, List.replicate, List.cons_append, List.nil_append, List.length_cons, List.length_nil, ↓mapK, ↓frzK_sl, ↓frzK_agg, ↓frzK_tup, ↓frzK_ifc, ↓frzK_func, ↓frzK_int, ↓frzK_bool, ↓frzK_str, ↓frzK_nilp, ↓frzK_nils, ↓frzK_nilm, ↓frzK_nilf, ↓frzK_nili, ↓frzK_fz, ↓frzK_any, ↓frzK_ptr, ↓frzK_ro, ↓getB, setB, kill, killM, dropK, keysOf, capOf_nn, zeroC, bump, frzT, thaw, gets, putAll, ↓getsK, ↓getR, ↓retK, retv, find, cells, ↓nilpK, ↓nilsK, ↓nilfK, ↓niliK, ↓bndK, ↓cutK, ↓fillK, ↓exitK, List.append_nil, List.drop, List.take, Nat.reduceAdd, Nat.reduceSub, Nat.reduceMul, Nat.reduceLT, Nat.reduceLeDiff, Nat.zero_add, Nat.add_zero, Nat.mul_one, Int.reduceToNat, Nat.reduceEqDiff, Nat.succ_ne_self, Nat.le_refl, Nat.one_ne_zero, Nat.reduceBEq, Nat.lt_irrefl, List.length_append, Int.toNat_zero, Int.toNat_one, List.take_zero, List.drop_zero, Nat.zero_mul, sel, rest, keyIn, ↓reduceIte, ↓if_pos, ↓if_neg, reduceCtorEq, Bool.not_true, Bool.not_false, Bool.false_eq_true, Bool.true_eq_false, and_self, and_true, true_and, false_and, and_false, decide_true, decide_false, decide_eq_true, decide_eq_false, decide_eq_true_eq, decide_eq_false_iff_not, Bool.not_eq_true, Bool.not_eq_false, Bool.not_eq_eq_eq_not, Decidable.not_not, eA, h1]
    refine bits_loop bs pre.length b e1 hb _ _ (k := .blk 1 wb_ref01_CRC_1 :: .c c_ref01_CRC_k0 :: .lp wl_ref01_CRC_0 c_ref01_CRC_l0 :: .blk 0 wb_ref01_CRC_0 :: k) hk 8 0 s rfl hs ?_
    refine walk 60 (its := [.blk 1 wb_ref01_CRC_1, .c c_ref01_CRC_k0, .lp wl_ref01_CRC_0 c_ref01_CRC_l0, .blk 0 wb_ref01_CRC_0]) hk trivial (fun A eA => ?_)
    rw [rsteps_add s b hb]
    simp only [c_ref01_CRC, wl_ref01_CRC_2, s_ref01_CRC_2, c_ref01_CRC_l2, wb_ref01_CRC_2, wb_ref01_CRC_1, c_ref01_CRC_k0, wl_ref01_CRC_0, s_ref01_CRC_0, c_ref01_CRC_l0, wb_ref01_CRC_0, c_ref01_CRC_k1, ↓advStep, ↓execK, ↓opK, ↓binK, ↓intK, ↓strK, evs, ev, getT, setT, put, List.replicate, List.cons_append, List.nil_append, List.length_cons, List.length_nil, ↓mapK, ↓frzK_sl, ↓frzK_agg, ↓frzK_tup, ↓frzK_ifc, ↓frzK_func, ↓frzK_int, ↓frzK_bool, ↓frzK_str, ↓frzK_nilp, ↓frzK_nils, ↓frzK_nilm, ↓frzK_nilf, ↓frzK_nili, ↓frzK_fz, ↓frzK_any, ↓frzK_ptr, ↓frzK_ro, ↓getB, setB, kill, killM, dropK, keysOf, capOf_nn, zeroC, bump, frzT, thaw, gets, putAll, ↓getsK, ↓getR, ↓retK, retv, find, cells, ↓nilpK, ↓nilsK, ↓nilfK, ↓niliK, ↓bndK, ↓cutK, ↓fillK, ↓exitK, List.append_nil, List.drop, List.take, Nat.reduceAdd, Nat.reduceSub, Nat.reduceMul, Nat.reduceLT, Nat.reduceLeDiff, Nat.zero_add, Nat.add_zero, Nat.mul_one, Int.reduceToNat, Nat.reduceEqDiff, Nat.succ_ne_self, Nat.le_refl, Nat.one_ne_zero, Nat.reduceBEq, Nat.lt_irrefl, List.length_append, Int.toNat_zero, Int.toNat_one, List.take_zero, List.drop_zero, Nat.zero_mul, sel, rest, keyIn, ↓reduceIte, ↓if_pos, ↓if_neg, reduceCtorEq, Bool.not_true, Bool.not_false, Bool.false_eq_true, Bool.true_eq_false, and_self, and_true, true_and, false_and, and_false, decide_true, decide_false, decide_eq_true, decide_eq_false, decide_eq_true_eq, decide_eq_false_iff_not, Bool.not_eq_true, Bool.not_eq_false, Bool.not_eq_eq_eq_not, Decidable.not_not, eA, e4]
    have hn := ih (pre ++ [b]) (by rw [hpre]; simp) (add s b) (add_lt hs hb) h
    rw [show (pre ++ [b]).length = pre.length + 1 by simp] at hn
    exact hn
theorem ref_calls (bs : List Nat) (hbs : ∀ b ∈ bs, b < 256) (hlen : bs.length ≤ 140737488351232) : PCalls Try.prog F_ref01_CRC [.fz 1 (avs bs) none] (.int .u32 (crcOf bs : Nat)) := by
  refine calls_ref01_CRC (walk0 60 trivial (fun A eA => ?_))
  simp only [c_ref01_CRC, wl_ref01_CRC_2, s_ref01_CRC_2, c_ref01_CRC_l2, wb_ref01_CRC_2, wb_ref01_CRC_1, c_ref01_CRC_k0, wl_ref01_CRC_0, s_ref01_CRC_0, c_ref01_CRC_l0, wb_ref01_CRC_0, c_ref01_CRC_k1, ↓advStep, ↓execK, ↓opK, ↓binK, ↓intK, ↓strK, evs, ev, getT, setT, put, List.replicate, List.cons_append, List.nil_append, List.length_cons, List.length_nil, ↓mapK, ↓frzK_sl, ↓frzK_agg, ↓frzK_tup, ↓frzK_ifc, ↓frzK_func, ↓frzK_int, ↓frzK_bool, ↓frzK_str, ↓frzK_nilp, ↓frzK_nils, ↓frzK_nilm, ↓frzK_nilf, ↓frzK_nili, ↓frzK_fz, ↓frzK_any, ↓frzK_ptr, ↓frzK_ro, ↓getB, setB, kill, killM, dropK, keysOf, capOf_nn, zeroC, bump, frzT, thaw, gets, putAll, ↓getsK, ↓getR, ↓retK, retv, find, cells, ↓nilpK, ↓nilsK, ↓nilfK, ↓niliK, ↓bndK, ↓cutK, ↓fillK, ↓exitK, List.append_nil, List.drop, List.take, Nat.reduceAdd, Nat.reduceSub, Nat.reduceMul, Nat.reduceLT, Nat.reduceLeDiff, Nat.zero_add, Nat.add_zero, Nat.mul_one, Int.reduceToNat, Nat.reduceEqDiff, Nat.succ_ne_self, Nat.le_refl, Nat.one_ne_zero, Nat.reduceBEq, Nat.lt_irrefl, List.length_append, Int.toNat_zero, Int.toNat_one, List.take_zero, List.drop_zero, Nat.zero_mul, sel, rest, keyIn, ↓reduceIte, ↓if_pos, ↓if_neg, reduceCtorEq, Bool.not_true, Bool.not_false, Bool.false_eq_true, Bool.true_eq_false, and_self, and_true, true_and, false_and, and_false, decide_true, decide_false, decide_eq_true, decide_eq_false, decide_eq_true_eq, decide_eq_false_iff_not, Bool.not_eq_true, Bool.not_eq_false, Bool.not_eq_eq_eq_not, Decidable.not_not, eA, avs_len]
  refine ref_loop bs hbs hlen (k := [.c c_ref01_CRC_k1]) trivial bs [] rfl 4294967295 (by decide) ?_
  refine walk0 60 trivial (fun A eA => ?_)
  have hf := fold_lt bs (s := 4294967295) (by decide) hbs
  have e2 : ibits .xor .u64 ((bs.foldl add 4294967295 : Nat) : Int) 4294967295 = ((crcOf bs : Nat) : Int) := ibits_xor .u64 rfl _ 4294967295 (Nat.lt_trans hf (by decide)) (by decide)
  have e3 : IntKind.u32.wrap ((crcOf bs : Nat) : Int) = ((crcOf bs : Nat) : Int) := wrap_nat .u32 rfl _ (Nat.xor_lt_two_pow hf (by decide))
  simp only [c_ref01_CRC, wl_ref01_CRC_2, s_ref01_CRC_2, c_ref01_CRC_l2, wb_ref01_CRC_2, wb_ref01_CRC_1, c_ref01_CRC_k0, wl_ref01_CRC_0, s_ref01_CRC_0, c_ref01_CRC_l0, wb_ref01_CRC_0, c_ref01_CRC_k1, ↓advStep, ↓execK, ↓opK, ↓binK, ↓intK, ↓strK, evs, ev, getT, setT, put, List.replicate, List.cons_append, List.nil_append, List.length_cons, List.length_nil, ↓mapK, ↓frzK_sl, ↓frzK_agg, ↓frzK_tup, ↓frzK_ifc, ↓frzK_func, ↓frzK_int, ↓frzK_bool, ↓frzK_str, ↓frzK_nilp, ↓frzK_nils, ↓frzK_nilm, ↓frzK_nilf, ↓frzK_nili, ↓frzK_fz, ↓frzK_any, ↓frzK_ptr, ↓frzK_ro, ↓getB, setB, kill, killM, dropK, keysOf, capOf_nn, zeroC, bump, frzT, thaw, gets, putAll, ↓getsK, ↓getR, ↓retK, retv, find, cells, ↓nilpK, ↓nilsK, ↓nilfK, ↓niliK, ↓bndK, ↓cutK, ↓fillK, ↓exitK, List.append_nil, List.drop, List.take, Nat.reduceAdd, Nat.reduceSub, Nat.reduceMul, Nat.reduceLT, Nat.reduceLeDiff, Nat.zero_add, Nat.add_zero, Nat.mul_one, Int.reduceToNat, Nat.reduceEqDiff, Nat.succ_ne_self, Nat.le_refl, Nat.one_ne_zero, Nat.reduceBEq, Nat.lt_irrefl, List.length_append, Int.toNat_zero, Int.toNat_one, List.take_zero, List.drop_zero, Nat.zero_mul, sel, rest, keyIn, ↓reduceIte, ↓if_pos, ↓if_neg, reduceCtorEq, Bool.not_true, Bool.not_false, Bool.false_eq_true, Bool.true_eq_false, and_self, and_true, true_and, false_and, and_false, decide_true, decide_false, decide_eq_true, decide_eq_false, decide_eq_true_eq, decide_eq_false_iff_not, Bool.not_eq_true, Bool.not_eq_false, Bool.not_eq_eq_eq_not, Decidable.not_not, eA, e2, e3]
  exact doneG rfl
end Go.Proofs.Ytmokhopjnjecbaa
