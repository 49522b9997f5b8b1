/- The walk through the reference's rows of events. -/
import Derived.Test.YtmokhopjnjecbaaWEv5
namespace Go.Proofs.Ytmokhopjnjecbaa
open Go.Ev
set_option linter.unusedVariables false
set_option linter.unusedSimpArgs false
set_option maxRecDepth 100000
variable {R : List AV → Heap → Ctr → Prop} {k : List It} {H : Heap} {nx : Ctr} {φ : Nat}

theorem erow_inner (p : Nat) (hp : p < 128) (t1 t3 t10 t11 : AV) (g8 : Nat) (cs : List AV) (hk : flat k) (g5 : Nat) (nx : Ctr) : ∀ (b : E) (i Z : Nat), i + b.dep ≤ 8 → Z + b.top < 2 ^ 60 →
    (∀ x y : AV, RunsX Try.prog φ R k (e_ref04_ERow_2 t1 t3 (.int .i64 (p : Nat)) (.int .i64 ((Z + valE b p (64 / 2 ^ i) : Nat) : Int)) t10 t11) [(φ, 5, g5, some [x, y]), (φ, 8, g8, some cs)] nx) →
    RunsX Try.prog φ R (i_ref04_ERow_2 ++ k) (s_ref04_ERow_2 t1 t3 (.int .i64 (p : Nat)) (.ptr φ 5 g5 0) (.int .i64 ((Z + b.n : Nat) : Int)) (.int .i64 ((64 / 2 ^ i : Nat) : Int)) t10 t11) [(φ, 5, g5, some [.int .i64 b.t.n, .fz 2 (xtavs b.t.ps) none]), (φ, 8, g8, some cs)] nx := by
  intro b
  induction b with
  | lf o =>
    intro i Z hi hA h
    have h0 : (E.lf o).t.ps.length = 0 := rfl
    refine round (its := [.blk 2 wb_ref04_ERow_2]) 100 hk trivial (fun A eA => ?_)
    simp (disch := first | omega | (simp only [avs_len, List.length_cons, List.length_append, List.length_nil, List.length_take, List.length_drop, List.length_map]; omega)) only [c_ref04_ERow, wl_ref04_ERow_2, s_ref04_ERow_2, c_ref04_ERow_l2, wb_ref04_ERow_2, c_ref04_ERow_k0, wb_ref04_ERow_1, c_ref04_ERow_k1, wl_ref04_ERow_0, s_ref04_ERow_0, c_ref04_ERow_l0, wb_ref04_ERow_0, c_ref04_ERow_k2, ↓advStep, ↓execK, ↓opK, ↓binK, ↓intK, ↓strK, evs, ev, getT, setT, put, List.replicate, List.cons_append, List.nil_append, List.length_cons, List.length_nil, ↓mapK, ↓frzK_sl, ↓frzK_agg, ↓frzK_tup, ↓frzK_ifc, ↓frzK_func, ↓frzK_int, ↓frzK_bool, ↓frzK_str, ↓frzK_nilp, ↓frzK_nils, ↓frzK_nilm, ↓frzK_nilf, ↓frzK_nili, ↓frzK_fz, ↓frzK_any, ↓frzK_ptr, ↓frzK_ro, ↓getB, setB, kill, killM, dropK, keysOf, capOf_nn, zeroC, bump, frzT, thaw, gets, putAll, ↓getsK, ↓getR, ↓retK, retv, find, cells, ↓nilpK, ↓nilsK, ↓nilfK, ↓niliK, ↓bndK, ↓cutK, ↓fillK, ↓exitK, List.append_nil, List.drop, List.take, Nat.reduceAdd, Nat.reduceSub, Nat.reduceMul, Nat.reduceLT, Nat.reduceLeDiff, Nat.zero_add, Nat.add_zero, Nat.mul_one, Int.reduceToNat, Nat.reduceEqDiff, Nat.succ_ne_self, Nat.le_refl, Nat.one_ne_zero, Nat.reduceBEq, Nat.lt_irrefl, List.length_append, Int.toNat_zero, Int.toNat_one, List.take_zero, List.drop_zero, Nat.zero_mul, sel, rest, keyIn, ↓reduceIte, ↓if_pos, ↓if_neg, reduceCtorEq, Bool.not_true, Bool.not_false, Bool.false_eq_true, Bool.true_eq_false, and_self, and_true, true_and, false_and, and_false, decide_true, decide_false, decide_eq_true, decide_eq_false, decide_eq_true_eq, decide_eq_false_iff_not, Bool.not_eq_true, Bool.not_eq_false, Bool.not_eq_eq_eq_not, Decidable.not_not, eA, xtavs_len]
    exact h _ _
  | nd n l r ihl ihr =>
    intro i Z hi hA h
    have h0 : (E.nd n l r).t.ps = [l.t, r.t] := rfl
    have g0 : (xtavs [l.t, r.t])[0]? = some (xtv l.t) := by rw [xtavs_get]; rfl
    have g1 : (xtavs [l.t, r.t])[1]? = some (xtv r.t) := by rw [xtavs_get]; rfl
    simp only [E.dep] at hi
    simp only [E.top] at hA
    have htl := l.top_n
    have htr := r.top_n
    have hi6 : i ≤ 6 := by have : 1 ≤ l.dep := l.dep_pos
                           omega
    have hpow : 64 / 2 ^ i = 2 ^ (6 - i) := by
      match i, hi6 with
      | 0, _ => rfl
      | 1, _ => rfl
      | 2, _ => rfl
      | 3, _ => rfl
      | 4, _ => rfl
      | 5, _ => rfl
      | 6, _ => rfl
    have hpos : 0 < 2 ^ (6 - i) := Nat.pow_pos (by omega)
    have hle : 64 / 2 ^ i ≤ 64 := Nat.div_le_self _ _
    obtain ⟨q, hq⟩ : ∃ q, q = 64 / 2 ^ i := ⟨_, rfl⟩
    rw [← hpow] at hpos
    rw [← hq] at hpos hle h ⊢
    have hq2 : q / 2 = 64 / 2 ^ (i + 1) := by rw [hq, Nat.div_div_eq_div_mul, Nat.pow_succ]
    have hpq : p / q ≤ p := Nat.div_le_self _ _
    simp only [valE] at h
    have e1 : (p : Int).tdiv (q : Int) = ((p / q : Nat) : Int) := by rw [Int.tdiv_eq_ediv_of_nonneg (by omega)]; simp
    generalize p / q = m at h e1 hpq
    have e2 : IntKind.i64.wrap (m : Int) = (m : Int) := by rw [IntKind.wrap_i64]; omega
    have e3 : (m : Int).tmod 2 = ((m % 2 : Nat) : Int) := by rw [Int.tmod_eq_emod_of_nonneg (by omega)]; omega
    have e4 : (q : Int).tdiv 2 = ((q / 2 : Nat) : Int) := by rw [Int.tdiv_eq_ediv_of_nonneg (by omega)]; omega
    have e5 : IntKind.i64.wrap ((q / 2 : Nat) : Int) = ((q / 2 : Nat) : Int) := by rw [IntKind.wrap_i64]; omega
    have hnn : (E.nd n l r).n = n := rfl
    refine round (its := [.blk 2 wb_ref04_ERow_2]) 100 hk trivial (fun A eA => ?_)
    by_cases hz : m % 2 = 0
    · rw [if_pos hz, hq2] at h
      have e6 : IntKind.i64.wrap (((Z + n : Nat) : Int) + l.t.n) = ((Z + n + l.n : Nat) : Int) := by rw [IntKind.wrap_i64, l.t_n]; omega
      simp (disch := first | omega | (simp only [avs_len, List.length_cons, List.length_append, List.length_nil, List.length_take, List.length_drop, List.length_map]; omega)) only [c_ref04_ERow, wl_ref04_ERow_2, s_ref04_ERow_2, c_ref04_ERow_l2, wb_ref04_ERow_2, c_ref04_ERow_k0, wb_ref04_ERow_1, c_ref04_ERow_k1, wl_ref04_ERow_0, s_ref04_ERow_0, c_ref04_ERow_l0, wb_ref04_ERow_0, c_ref04_ERow_k2, ↓advStep, ↓execK, ↓opK, ↓binK, ↓intK, ↓strK, evs, ev, getT, setT, put, List.replicate, List.cons_append, List.nil_append, List.length_cons, List.length_nil, ↓mapK, ↓frzK_sl, ↓frzK_agg, ↓frzK_tup, ↓frzK_ifc, ↓frzK_func, ↓frzK_int, ↓frzK_bool, ↓frzK_str, ↓frzK_nilp, ↓frzK_nils, ↓frzK_nilm, ↓frzK_nilf, ↓frzK_nili, ↓frzK_fz, ↓frzK_any, ↓frzK_ptr, ↓frzK_ro, ↓getB, setB, kill, killM, dropK, keysOf, capOf_nn, zeroC, bump, frzT, thaw, gets, putAll, ↓getsK, ↓getR, ↓retK, retv, find, cells, ↓nilpK, ↓nilsK, ↓nilfK, ↓niliK, ↓bndK, ↓cutK, ↓fillK, ↓exitK, List.append_nil, List.drop, List.take, Nat.reduceAdd, Nat.reduceSub, Nat.reduceMul, Nat.reduceLT, Nat.reduceLeDiff, Nat.zero_add, Nat.add_zero, Nat.mul_one, Int.reduceToNat, Nat.reduceEqDiff, Nat.succ_ne_self, Nat.le_refl, Nat.one_ne_zero, Nat.reduceBEq, Nat.lt_irrefl, List.length_append, Int.toNat_zero, Int.toNat_one, List.take_zero, List.drop_zero, Nat.zero_mul, sel, rest, keyIn, ↓reduceIte, ↓if_pos, ↓if_neg, reduceCtorEq, Bool.not_true, Bool.not_false, Bool.false_eq_true, Bool.true_eq_false, and_self, and_true, true_and, false_and, and_false, decide_true, decide_false, decide_eq_true, decide_eq_false, decide_eq_true_eq, decide_eq_false_iff_not, Bool.not_eq_true, Bool.not_eq_false, Bool.not_eq_eq_eq_not, Decidable.not_not, eA, xtavs_len, h0, hnn, e1, e2, e3, hz, e4, e5, e6, Int.toNat_natCast, g0, scal1, List.all_cons, List.all_nil, Bool.and_self]
      rw [hq2]
      exact ihl (i + 1) (Z + n) (by omega) (by omega) (fun x y => by have := h x y; rwa [← Nat.add_assoc] at this)
    · rw [if_neg hz, hq2] at h
      have hz1 : m % 2 = 1 := by omega
      have e6 : IntKind.i64.wrap (((Z + n : Nat) : Int) + r.t.n) = ((Z + n + r.n : Nat) : Int) := by rw [IntKind.wrap_i64, r.t_n]; omega
      simp (disch := first | omega | (simp only [avs_len, List.length_cons, List.length_append, List.length_nil, List.length_take, List.length_drop, List.length_map]; omega)) only [c_ref04_ERow, wl_ref04_ERow_2, s_ref04_ERow_2, c_ref04_ERow_l2, wb_ref04_ERow_2, c_ref04_ERow_k0, wb_ref04_ERow_1, c_ref04_ERow_k1, wl_ref04_ERow_0, s_ref04_ERow_0, c_ref04_ERow_l0, wb_ref04_ERow_0, c_ref04_ERow_k2, ↓advStep, ↓execK, ↓opK, ↓binK, ↓intK, ↓strK, evs, ev, getT, setT, put, List.replicate, List.cons_append, List.nil_append, List.length_cons, List.length_nil, ↓mapK, ↓frzK_sl, ↓frzK_agg, ↓frzK_tup, ↓frzK_ifc, ↓frzK_func, ↓frzK_int, ↓frzK_bool, ↓frzK_str, ↓frzK_nilp, ↓frzK_nils, ↓frzK_nilm, ↓frzK_nilf, ↓frzK_nili, ↓frzK_fz, ↓frzK_any, ↓frzK_ptr, ↓frzK_ro, ↓getB, setB, kill, killM, dropK, keysOf, capOf_nn, zeroC, bump, frzT, thaw, gets, putAll, ↓getsK, ↓getR, ↓retK, retv, find, cells, ↓nilpK, ↓nilsK, ↓nilfK, ↓niliK, ↓bndK, ↓cutK, ↓fillK, ↓exitK, List.append_nil, List.drop, List.take, Nat.reduceAdd, Nat.reduceSub, Nat.reduceMul, Nat.reduceLT, Nat.reduceLeDiff, Nat.zero_add, Nat.add_zero, Nat.mul_one, Int.reduceToNat, Nat.reduceEqDiff, Nat.succ_ne_self, Nat.le_refl, Nat.one_ne_zero, Nat.reduceBEq, Nat.lt_irrefl, List.length_append, Int.toNat_zero, Int.toNat_one, List.take_zero, List.drop_zero, Nat.zero_mul, sel, rest, keyIn, ↓reduceIte, ↓if_pos, ↓if_neg, reduceCtorEq, Bool.not_true, Bool.not_false, Bool.false_eq_true, Bool.true_eq_false, and_self, and_true, true_and, false_and, and_false, decide_true, decide_false, decide_eq_true, decide_eq_false, decide_eq_true_eq, decide_eq_false_iff_not, Bool.not_eq_true, Bool.not_eq_false, Bool.not_eq_eq_eq_not, Decidable.not_not, eA, xtavs_len, h0, hnn, e1, e2, e3, hz1, e4, e5, e6, Int.toNat_natCast, g1, scal1, List.all_cons, List.all_nil, Bool.and_self]
      rw [hq2]
      exact ihr (i + 1) (Z + n) (by omega) (by omega) (fun x y => by have := h x y; rwa [← Nat.add_assoc] at this)
theorem erow_loop (e : E) (hd : e.dep ≤ 8) (ht : e.top < 2 ^ 60) : ∀ (n i : Nat), i + n = 128 → ∀ cs0 : List AV, cs0 = partR (ivs (rowE 7 e)) (.int .i64 0) i → ∀ nx : Ctr,
    RunsX Try.prog 0 (Gives [.t 2] (.fz 1 (ivs (rowE 7 e)) none)) (i_ref04_ERow_0 ++ [.c c_ref04_ERow_k2]) (s_ref04_ERow_0 (.ro [.int .i64 e.t.n, .fz 2 (xtavs e.t.ps) none]) (.sl 0 8 0 1 0 128) (.int .i64 128) (.int .i64 (i : Nat))) [(0, 8, 0, some cs0)] nx := by
  have hL : (ivs (rowE 7 e)).length = 128 := by rw [ivs_len, rowE_len]
  intro n
  induction n with
  | zero =>
    intro i hi cs0 hcs0 nx
    obtain rfl : i = 128 := by omega
    have e0 : cs0 = ivs (rowE 7 e) := by rw [hcs0]; have := partR_all (ivs (rowE 7 e)) (.int .i64 0); rwa [hL] at this
    subst e0
    refine round (its := [.blk 0 wb_ref04_ERow_0]) (k0 := [.c c_ref04_ERow_k2]) 100 trivial trivial (fun A eA => ?_)
    simp (disch := first | omega | (simp only [avs_len, List.length_cons, List.length_append, List.length_nil, List.length_take, List.length_drop, List.length_map]; omega)) only [c_ref04_ERow, wl_ref04_ERow_2, s_ref04_ERow_2, c_ref04_ERow_l2, wb_ref04_ERow_2, c_ref04_ERow_k0, wb_ref04_ERow_1, c_ref04_ERow_k1, wl_ref04_ERow_0, s_ref04_ERow_0, c_ref04_ERow_l0, wb_ref04_ERow_0, c_ref04_ERow_k2, ↓advStep, ↓execK, ↓opK, ↓binK, ↓intK, ↓strK, evs, ev, getT, setT, put, List.cons_append, List.nil_append, List.length_cons, List.length_nil, ↓mapK, ↓frzK_sl, ↓frzK_agg, ↓frzK_tup, ↓frzK_ifc, ↓frzK_func, ↓frzK_int, ↓frzK_bool, ↓frzK_str, ↓frzK_nilp, ↓frzK_nils, ↓frzK_nilm, ↓frzK_nilf, ↓frzK_nili, ↓frzK_fz, ↓frzK_any, ↓frzK_ptr, ↓frzK_ro, ↓getB, setB, kill, killM, dropK, keysOf, capOf_nn, zeroC, bump, frzT, thaw, gets, putAll, ↓getsK, ↓getR, ↓retK, retv, find, cells, ↓nilpK, ↓nilsK, ↓nilfK, ↓niliK, ↓bndK, ↓cutK, ↓fillK, ↓exitK, List.append_nil, List.drop, List.take, Nat.reduceAdd, Nat.reduceSub, Nat.reduceMul, Nat.reduceLT, Nat.reduceLeDiff, Nat.zero_add, Nat.add_zero, Nat.mul_one, Int.reduceToNat, Nat.reduceEqDiff, Nat.succ_ne_self, Nat.le_refl, Nat.one_ne_zero, Nat.reduceBEq, Nat.lt_irrefl, List.length_append, Int.toNat_zero, Int.toNat_one, List.take_zero, List.drop_zero, Nat.zero_mul, sel, rest, keyIn, ↓reduceIte, ↓if_pos, ↓if_neg, reduceCtorEq, Bool.not_true, Bool.not_false, Bool.false_eq_true, Bool.true_eq_false, and_self, and_true, true_and, false_and, and_false, decide_true, decide_false, decide_eq_true, decide_eq_false, decide_eq_true_eq, decide_eq_false_iff_not, Bool.not_eq_true, Bool.not_eq_false, Bool.not_eq_eq_eq_not, Decidable.not_not, eA]
    refine walk0 (its := [.c c_ref04_ERow_k2]) 100 trivial (fun A eA => ?_)
    simp (disch := first | omega | (simp only [avs_len, List.length_cons, List.length_append, List.length_nil, List.length_take, List.length_drop, List.length_map]; omega)) only [c_ref04_ERow, wl_ref04_ERow_2, s_ref04_ERow_2, c_ref04_ERow_l2, wb_ref04_ERow_2, c_ref04_ERow_k0, wb_ref04_ERow_1, c_ref04_ERow_k1, wl_ref04_ERow_0, s_ref04_ERow_0, c_ref04_ERow_l0, wb_ref04_ERow_0, c_ref04_ERow_k2, ↓advStep, ↓execK, ↓opK, ↓binK, ↓intK, ↓strK, evs, ev, getT, setT, put, List.cons_append, List.nil_append, List.length_cons, List.length_nil, ↓mapK, ↓frzK_sl, ↓frzK_agg, ↓frzK_tup, ↓frzK_ifc, ↓frzK_func, ↓frzK_int, ↓frzK_bool, ↓frzK_str, ↓frzK_nilp, ↓frzK_nils, ↓frzK_nilm, ↓frzK_nilf, ↓frzK_nili, ↓frzK_fz, ↓frzK_any, ↓frzK_ptr, ↓frzK_ro, ↓getB, setB, kill, killM, dropK, keysOf, capOf_nn, zeroC, bump, frzT, thaw, gets, putAll, ↓getsK, ↓getR, ↓retK, retv, find, cells, ↓nilpK, ↓nilsK, ↓nilfK, ↓niliK, ↓bndK, ↓cutK, ↓fillK, ↓exitK, List.append_nil, List.drop, List.take, Nat.reduceAdd, Nat.reduceSub, Nat.reduceMul, Nat.reduceLT, Nat.reduceLeDiff, Nat.zero_add, Nat.add_zero, Nat.mul_one, Int.reduceToNat, Nat.reduceEqDiff, Nat.succ_ne_self, Nat.le_refl, Nat.one_ne_zero, Nat.reduceBEq, Nat.lt_irrefl, List.length_append, Int.toNat_zero, Int.toNat_one, List.take_zero, List.drop_zero, Nat.zero_mul, sel, rest, keyIn, ↓reduceIte, ↓if_pos, ↓if_neg, reduceCtorEq, Bool.not_true, Bool.not_false, Bool.false_eq_true, Bool.true_eq_false, and_self, and_true, true_and, false_and, and_false, decide_true, decide_false, decide_eq_true, decide_eq_false, decide_eq_true_eq, decide_eq_false_iff_not, Bool.not_eq_true, Bool.not_eq_false, Bool.not_eq_eq_eq_not, Decidable.not_not, eA]
    refine doneG ?_
    have ht : List.take 128 (ivs (rowE 7 e)) = ivs (rowE 7 e) := List.take_of_length_le (by omega)
    simp (disch := first | omega | (simp only [avs_len, List.length_cons, List.length_append, List.length_nil, List.length_take, List.length_drop, List.length_map]; omega)) only [↓advStep, ↓execK, ↓opK, ↓binK, ↓intK, ↓strK, evs, ev, getT, setT, put, List.cons_append, List.nil_append, List.length_cons, List.length_nil, ↓mapK, ↓frzK_sl, ↓frzK_agg, ↓frzK_tup, ↓frzK_ifc, ↓frzK_func, ↓frzK_int, ↓frzK_bool, ↓frzK_str, ↓frzK_nilp, ↓frzK_nils, ↓frzK_nilm, ↓frzK_nilf, ↓frzK_nili, ↓frzK_fz, ↓frzK_any, ↓frzK_ptr, ↓frzK_ro, ↓getB, setB, kill, killM, dropK, keysOf, capOf_nn, zeroC, bump, frzT, thaw, gets, putAll, ↓getsK, ↓getR, ↓retK, retv, find, cells, ↓nilpK, ↓nilsK, ↓nilfK, ↓niliK, ↓bndK, ↓cutK, ↓fillK, ↓exitK, List.append_nil, List.drop, List.take, Nat.reduceAdd, Nat.reduceSub, Nat.reduceMul, Nat.reduceLT, Nat.reduceLeDiff, Nat.zero_add, Nat.add_zero, Nat.mul_one, Int.reduceToNat, Nat.reduceEqDiff, Nat.succ_ne_self, Nat.le_refl, Nat.one_ne_zero, Nat.reduceBEq, Nat.lt_irrefl, List.length_append, Int.toNat_zero, Int.toNat_one, List.take_zero, List.drop_zero, Nat.zero_mul, sel, rest, keyIn, ↓reduceIte, ↓if_pos, ↓if_neg, reduceCtorEq, Bool.not_true, Bool.not_false, Bool.false_eq_true, Bool.true_eq_false, and_self, and_true, true_and, false_and, and_false, decide_true, decide_false, decide_eq_true, decide_eq_false, decide_eq_true_eq, decide_eq_false_iff_not, Bool.not_eq_true, Bool.not_eq_false, Bool.not_eq_eq_eq_not, Decidable.not_not, ht, hL, ↓frz_ivs, chunk]
  | succ n ih =>
    intro i hi cs0 hcs0 nx
    have hat := rowE_at 7 e i (by omega)
    rw [show (2 : Nat) ^ 7 = 128 from rfl, Nat.mod_eq_of_lt (by omega)] at hat
    have hat2 : (ivs (rowE 7 e))[i]? = some (.int .i64 ((valE e i 64 : Nat) : Int)) := by rw [List.getElem?_map, hat]; rfl
    have hput := partR_put (ivs (rowE 7 e)) (.int .i64 0) _ i hat2
    have hlen := partR_len (ivs (rowE 7 e)) (.int .i64 0) i (by omega)
    rw [← hcs0] at hput hlen
    have w1 : IntKind.i64.wrap ((i : Int) + 1) = ((i + 1 : Nat) : Int) := by rw [IntKind.wrap_i64]; omega
    have hih := ih (i + 1) (by omega) _ hput
    have htn := e.t_n
    refine round (its := [.blk 0 wb_ref04_ERow_0]) (k0 := [.c c_ref04_ERow_k2]) 100 trivial trivial (fun A eA => ?_)
    simp (disch := first | omega | (simp only [avs_len, List.length_cons, List.length_append, List.length_nil, List.length_take, List.length_drop, List.length_map]; omega)) only [c_ref04_ERow, wl_ref04_ERow_2, s_ref04_ERow_2, c_ref04_ERow_l2, wb_ref04_ERow_2, c_ref04_ERow_k0, wb_ref04_ERow_1, c_ref04_ERow_k1, wl_ref04_ERow_0, s_ref04_ERow_0, c_ref04_ERow_l0, wb_ref04_ERow_0, c_ref04_ERow_k2, ↓advStep, ↓execK, ↓opK, ↓binK, ↓intK, ↓strK, evs, ev, getT, setT, put, List.cons_append, List.nil_append, List.length_cons, List.length_nil, ↓mapK, ↓frzK_sl, ↓frzK_agg, ↓frzK_tup, ↓frzK_ifc, ↓frzK_func, ↓frzK_int, ↓frzK_bool, ↓frzK_str, ↓frzK_nilp, ↓frzK_nils, ↓frzK_nilm, ↓frzK_nilf, ↓frzK_nili, ↓frzK_fz, ↓frzK_any, ↓frzK_ptr, ↓frzK_ro, ↓getB, setB, kill, killM, dropK, keysOf, capOf_nn, zeroC, bump, frzT, thaw, gets, putAll, ↓getsK, ↓getR, ↓retK, retv, find, cells, ↓nilpK, ↓nilsK, ↓nilfK, ↓niliK, ↓bndK, ↓cutK, ↓fillK, ↓exitK, List.append_nil, List.drop, List.take, Nat.reduceAdd, Nat.reduceSub, Nat.reduceMul, Nat.reduceLT, Nat.reduceLeDiff, Nat.zero_add, Nat.add_zero, Nat.mul_one, Int.reduceToNat, Nat.reduceEqDiff, Nat.succ_ne_self, Nat.le_refl, Nat.one_ne_zero, Nat.reduceBEq, Nat.lt_irrefl, List.length_append, Int.toNat_zero, Int.toNat_one, List.take_zero, List.drop_zero, Nat.zero_mul, sel, rest, keyIn, ↓reduceIte, ↓if_pos, ↓if_neg, reduceCtorEq, Bool.not_true, Bool.not_false, Bool.false_eq_true, Bool.true_eq_false, and_self, and_true, true_and, false_and, and_false, decide_true, decide_false, decide_eq_true, decide_eq_false, decide_eq_true_eq, decide_eq_false_iff_not, Bool.not_eq_true, Bool.not_eq_false, Bool.not_eq_eq_eq_not, Decidable.not_not, eA, scal1, List.all_cons, List.all_nil, Bool.and_self]
    have hin := fun hh => erow_inner (φ := 0) (R := Gives [.t 2] (.fz 1 (ivs (rowE 7 e)) none)) i (by omega) (.ro [.int .i64 e.t.n, .fz 2 (xtavs e.t.ps) none]) (.sl 0 8 0 1 0 128) (.int .i64 128) (.int .i64 (i : Nat)) 0 cs0 (k := [.c c_ref04_ERow_k0, .blk 1 wb_ref04_ERow_1, .c c_ref04_ERow_k1, .lp wl_ref04_ERow_0 c_ref04_ERow_l0, .blk 0 wb_ref04_ERow_0, .c c_ref04_ERow_k2]) trivial (nx 5) (bump nx 5) e 0 0 (by omega) (by omega) hh
    simp only [Nat.zero_add, ← e.t_n] at hin
    refine hin (fun x y => ?_)
    refine walk 100 (its := [.c c_ref04_ERow_k0, .blk 1 wb_ref04_ERow_1, .c c_ref04_ERow_k1, .lp wl_ref04_ERow_0 c_ref04_ERow_l0, .blk 0 wb_ref04_ERow_0]) (k0 := [.c c_ref04_ERow_k2]) trivial trivial (fun A eA => ?_)
    have hcs : cs0.length = 128 := by omega
    simp (disch := first | omega | (simp only [avs_len, List.length_cons, List.length_append, List.length_nil, List.length_take, List.length_drop, List.length_map]; omega)) only [c_ref04_ERow, wl_ref04_ERow_2, s_ref04_ERow_2, c_ref04_ERow_l2, wb_ref04_ERow_2, c_ref04_ERow_k0, wb_ref04_ERow_1, c_ref04_ERow_k1, wl_ref04_ERow_0, s_ref04_ERow_0, c_ref04_ERow_l0, wb_ref04_ERow_0, c_ref04_ERow_k2, ↓advStep, ↓execK, ↓opK, ↓binK, ↓intK, ↓strK, evs, ev, getT, setT, put, List.cons_append, List.nil_append, List.length_cons, List.length_nil, ↓mapK, ↓frzK_sl, ↓frzK_agg, ↓frzK_tup, ↓frzK_ifc, ↓frzK_func, ↓frzK_int, ↓frzK_bool, ↓frzK_str, ↓frzK_nilp, ↓frzK_nils, ↓frzK_nilm, ↓frzK_nilf, ↓frzK_nili, ↓frzK_fz, ↓frzK_any, ↓frzK_ptr, ↓frzK_ro, ↓getB, setB, kill, killM, dropK, keysOf, capOf_nn, zeroC, bump, frzT, thaw, gets, putAll, ↓getsK, ↓getR, ↓retK, retv, find, cells, ↓nilpK, ↓nilsK, ↓nilfK, ↓niliK, ↓bndK, ↓cutK, ↓fillK, ↓exitK, List.append_nil, List.drop, List.take, Nat.reduceAdd, Nat.reduceSub, Nat.reduceMul, Nat.reduceLT, Nat.reduceLeDiff, Nat.zero_add, Nat.add_zero, Nat.mul_one, Int.reduceToNat, Nat.reduceEqDiff, Nat.succ_ne_self, Nat.le_refl, Nat.one_ne_zero, Nat.reduceBEq, Nat.lt_irrefl, List.length_append, Int.toNat_zero, Int.toNat_one, List.take_zero, List.drop_zero, Nat.zero_mul, sel, rest, keyIn, ↓reduceIte, ↓if_pos, ↓if_neg, reduceCtorEq, Bool.not_true, Bool.not_false, Bool.false_eq_true, Bool.true_eq_false, and_self, and_true, true_and, false_and, and_false, decide_true, decide_false, decide_eq_true, decide_eq_false, decide_eq_true_eq, decide_eq_false_iff_not, Bool.not_eq_true, Bool.not_eq_false, Bool.not_eq_eq_eq_not, Decidable.not_not, eA, scal1, List.all_cons, List.all_nil, Bool.and_self, Int.toNat_natCast, w1, hcs, Nat.pow_zero, Nat.div_one]
    exact hih _
theorem ERow_calls (e : E) (hd : e.dep ≤ 8) (ht : e.top < 2 ^ 60) : PCalls Try.prog F_ref04_ERow [xtv e.t] (.fz 1 (ivs (rowE 7 e)) none) := by
  have hp0 : List.replicate 128 (AV.int .i64 0) = partR (ivs (rowE 7 e)) (.int .i64 0) 0 := by
    show _ = List.take 0 _ ++ List.replicate (_ - 0) _
    rw [ivs_len, rowE_len]; rfl
  refine calls_ref04_ERow ?_
  simp only [List.replicate, List.length_cons, List.length_nil, Nat.reduceAdd, Nat.reduceSub, List.cons_append, List.nil_append]
  refine walk0 100 trivial (fun A eA => ?_)
  simp (disch := first | omega | (simp only [avs_len, List.length_cons, List.length_append, List.length_nil, List.length_take, List.length_drop, List.length_map]; omega)) only [c_ref04_ERow, wl_ref04_ERow_2, s_ref04_ERow_2, c_ref04_ERow_l2, wb_ref04_ERow_2, c_ref04_ERow_k0, wb_ref04_ERow_1, c_ref04_ERow_k1, wl_ref04_ERow_0, s_ref04_ERow_0, c_ref04_ERow_l0, wb_ref04_ERow_0, c_ref04_ERow_k2, ↓advStep, ↓execK, ↓opK, ↓binK, ↓intK, ↓strK, evs, ev, getT, setT, put, List.cons_append, List.nil_append, List.length_cons, List.length_nil, ↓mapK, ↓frzK_sl, ↓frzK_agg, ↓frzK_tup, ↓frzK_ifc, ↓frzK_func, ↓frzK_int, ↓frzK_bool, ↓frzK_str, ↓frzK_nilp, ↓frzK_nils, ↓frzK_nilm, ↓frzK_nilf, ↓frzK_nili, ↓frzK_fz, ↓frzK_any, ↓frzK_ptr, ↓frzK_ro, ↓getB, setB, kill, killM, dropK, keysOf, capOf_nn, zeroC, bump, frzT, thaw, gets, putAll, ↓getsK, ↓getR, ↓retK, retv, find, cells, ↓nilpK, ↓nilsK, ↓nilfK, ↓niliK, ↓bndK, ↓cutK, ↓fillK, ↓exitK, List.append_nil, List.drop, List.take, Nat.reduceAdd, Nat.reduceSub, Nat.reduceMul, Nat.reduceLT, Nat.reduceLeDiff, Nat.zero_add, Nat.add_zero, Nat.mul_one, Int.reduceToNat, Nat.reduceEqDiff, Nat.succ_ne_self, Nat.le_refl, Nat.one_ne_zero, Nat.reduceBEq, Nat.lt_irrefl, List.length_append, Int.toNat_zero, Int.toNat_one, List.take_zero, List.drop_zero, Nat.zero_mul, sel, rest, keyIn, ↓reduceIte, ↓if_pos, ↓if_neg, reduceCtorEq, Bool.not_true, Bool.not_false, Bool.false_eq_true, Bool.true_eq_false, and_self, and_true, true_and, false_and, and_false, decide_true, decide_false, decide_eq_true, decide_eq_false, decide_eq_true_eq, decide_eq_false_iff_not, Bool.not_eq_true, Bool.not_eq_false, Bool.not_eq_eq_eq_not, Decidable.not_not, eA, scal1, List.all_cons, List.all_nil, Bool.and_self]
  exact erow_loop e hd ht 128 0 rfl _ hp0 (bump zeroC 8)
end Go.Proofs.Ytmokhopjnjecbaa
