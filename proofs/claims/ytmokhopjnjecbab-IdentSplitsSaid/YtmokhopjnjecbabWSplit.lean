/- Identities split: plain law and walk. -/
import Derived.Test.YtmokhopjnjecbabCdSplit
import Derived.Test.YtmokhopjnjecbabPJoin
namespace Go.Ev
/-- Nothing? -/
def B.isN : B → Bool
  | .lf o => !o
  | .nd _ _ => false
end Go.Ev
namespace Go.Proofs.Ytmokhopjnjecbab
open Go.Ev
set_option linter.unusedVariables false
set_option linter.unusedSimpArgs false
set_option maxRecDepth 100000
variable {R : List AV → Heap → Ctr → Prop} {k : List It} {H : Heap} {nx : Ctr} {φ : Nat}

def splitB : B → B × B
  | .lf _ => (.nd (.lf true) (.lf false), .nd (.lf false) (.lf true))
  | .nd l r => if l.isN = true then (.nd (.lf false) (splitB r).1, .nd (.lf false) (splitB r).2)
    else if r.isN = true then (.nd (splitB l).1 (.lf false), .nd (splitB l).2 (.lf false)) else (.nd l (.lf false), .nd (.lf false) r)
theorem B.isN_eq {b : B} (h : b.isN = true) : b = .lf false := by
  cases b with
  | lf o => simp [B.isN] at h; rw [h]
  | nd l r => simp [B.isN] at h
theorem B.isN_t (b : B) : (decide (b.t.ps.length = 0) && !b.t.one) = b.isN := by cases b <;> simp [B.t, Tree.ps, Tree.one, B.isN]
theorem B.isN_teq (b : B) : teq b.t (.mk false []) = b.isN := by
  rw [Bool.eq_iff_iff, teq_true]
  cases b with
  | lf o => simp [B.t, B.isN]
  | nd l r => simp [B.t, B.isN]
theorem splitB_nd (b : B) : ∃ l1 r1 l2 r2, splitB b = (.nd l1 r1, .nd l2 r2) := by
  cases b with
  | lf o => exact ⟨_, _, _, _, rfl⟩
  | nd l r =>
    simp only [splitB]
    split
    · exact ⟨_, _, _, _, rfl⟩
    · split <;> exact ⟨_, _, _, _, rfl⟩
theorem splitB_isN (b : B) : (splitB b).1.isN = false ∧ (splitB b).2.isN = false := by
  obtain ⟨l1, r1, l2, r2, e⟩ := splitB_nd b
  rw [e]; exact ⟨rfl, rfl⟩
theorem nodeB_l {a : B} (h : a.isN = false) : nodeB (.lf false) a = .nd (.lf false) a := by
  cases a with
  | lf o => simp [B.isN] at h; subst h; rfl
  | nd l r => rfl
theorem nodeB_r {a : B} (h : a.isN = false) : nodeB a (.lf false) = .nd a (.lf false) := by
  cases a with
  | lf o => simp [B.isN] at h; subst h; rfl
  | nd l r => rfl
theorem nodeB_ne {l r : B} (h : lfEq l.t r.t = false) : nodeB l r = .nd l r := by
  cases l with
  | nd a b => rfl
  | lf a =>
    cases r with
    | nd c d => rfl
    | lf b =>
      by_cases e : a = b
      · simp [lfEq, B.t, Tree.ps, Tree.one, e] at h
      · simp [nodeB, e]
theorem short_nd {l r : B} (hl : l.short = true) (hr : r.short = true) (h : lfEq l.t r.t = false) : (B.nd l r).short = true := by simp only [B.short, hl, hr, h]; rfl
theorem lfEq_l {a : B} (h : a.isN = false) : lfEq (B.lf false).t a.t = false := by
  cases a with
  | lf o => simp [B.isN] at h; subst h; simp [lfEq, B.t, Tree.ps, Tree.one]
  | nd l r => simp [lfEq, B.t, Tree.ps]
theorem lfEq_r {a : B} (h : a.isN = false) : lfEq a.t (B.lf false).t = false := by
  cases a with
  | lf o => simp [B.isN] at h; subst h; simp [lfEq, B.t, Tree.ps, Tree.one]
  | nd l r => simp [lfEq, B.t, Tree.ps]
theorem splitB_short : ∀ b : B, b.short = true → (splitB b).1.short = true ∧ (splitB b).2.short = true
  | .lf o, _ => by simp [splitB, B.short, lfEq, B.t, Tree.ps, Tree.one]
  | .nd l r, h => by
    simp only [B.short, Bool.and_eq_true] at h
    simp only [splitB]
    have nl := splitB_isN l
    have nr := splitB_isN r
    split
    · have := splitB_short r h.1.2
      exact ⟨short_nd rfl this.1 (lfEq_l nr.1), short_nd rfl this.2 (lfEq_l nr.2)⟩
    · rename_i hl
      rw [Bool.not_eq_true] at hl
      split
      · have := splitB_short l h.1.1
        exact ⟨short_nd this.1 rfl (lfEq_r nl.1), short_nd this.2 rfl (lfEq_r nl.2)⟩
      · rename_i hr
        rw [Bool.not_eq_true] at hr
        exact ⟨short_nd h.1.1 rfl (lfEq_r hl), short_nd rfl h.1.2 (lfEq_l hr)⟩
theorem apartB_r (a : B) : apartB a (.lf false) = true := by
  cases a with
  | lf o => cases o <;> rfl
  | nd l r => rfl
theorem apartB_l (a : B) : apartB (.lf false) a = true := by cases a <;> rfl
theorem splitB_apart : ∀ b : B, apartB (splitB b).1 (splitB b).2 = true
  | .lf o => by simp [splitB, apartB]
  | .nd l r => by
    simp only [splitB]
    split
    · simp only [apartB, splitB_apart r, Bool.and_self]
    · split
      · simp only [apartB, splitB_apart l, Bool.and_self]
      · simp only [apartB, apartB_r, apartB_l, Bool.and_self]
theorem joinB_r {a : B} (h : a.isN = false) : joinB a (.lf false) = a := by
  cases a with
  | lf o => simp [B.isN] at h; subst h; rfl
  | nd l r => rfl
theorem splitB_join : ∀ b : B, b.short = true → b.isN = false → joinB (splitB b).2 (splitB b).1 = b
  | .lf o, _, h => by simp [B.isN] at h; subst h; rfl
  | .nd l r, h, _ => by
    have h' := h
    simp only [B.short, Bool.and_eq_true, Bool.not_eq_true'] at h'
    simp only [splitB]
    split
    · rename_i hl
      have hl := B.isN_eq hl
      subst hl
      have hr : r.isN = false := by
        cases hq : r.isN with
        | false => rfl
        | true => rw [B.isN_eq hq] at h'; simp [lfEq, B.t, Tree.ps, Tree.one] at h'
      simp only [joinB, splitB_join r h'.1.2 hr]
      exact nodeB_l hr
    · rename_i hl
      rw [Bool.not_eq_true] at hl
      split
      · rename_i hr
        have hr := B.isN_eq hr
        subst hr
        simp only [joinB, splitB_join l h'.1.1 hl]
        exact nodeB_r hl
      · rename_i hr
        rw [Bool.not_eq_true] at hr
        simp only [joinB, joinB_r hr]
        exact nodeB_ne h'.2
theorem b_size' : ∀ b : B, b.t.size = b.nodes
  | .lf o => by simp [B.t, Tree.size, sizes, B.nodes]
  | .nd l r => by simp only [B.t, Tree.size, sizes, B.nodes, b_size' l, b_size' r]; omega
theorem splitB_nodes : ∀ b : B, (splitB b).1.nodes ≤ b.nodes + 2 ∧ (splitB b).2.nodes ≤ b.nodes + 2
  | .lf o => by simp [splitB, B.nodes]
  | .nd l r => by
    have h1 := splitB_nodes l
    have h2 := splitB_nodes r
    have p1 := l.nodes_pos
    have p2 := r.nodes_pos
    simp only [splitB]
    split
    · simp only [B.nodes]; omega
    · split
      · simp only [B.nodes]; omega
      · simp only [B.nodes]; omega
theorem nothing_b (b : B) : PCalls Try.prog F_ident_Nothing [tv b.t] (.bool b.isN) := by rw [← B.isN_t b]; exact nothing_calls b.t
theorem leaf_lfc (o : Bool) : PCalls Try.prog F_ident_leaf [tv (B.lf o).t] (.bool true) := leaf_calls (B.lf o).t
theorem leaf_ndc (l r : B) : PCalls Try.prog F_ident_leaf [tv (B.nd l r).t] (.bool false) := by
  have := leaf_calls (B.nd l r).t
  rwa [show decide ((B.nd l r).t.ps.length = 0) = false by simp [B.t, Tree.ps]] at this
theorem node_none_l {x : B} {r : AV} (h : PCalls Try.prog F_ident_node [tv (B.lf false).t, tv x.t] r) : PCalls Try.prog F_ident_node [.agg [.bool false, .nils], tv x.t] r := PCalls.arg [] (wk_leaf false) h
theorem node_none_r {x : B} {r : AV} (h : PCalls Try.prog F_ident_node [tv x.t, tv (B.lf false).t] r) : PCalls Try.prog F_ident_node [tv x.t, .agg [.bool false, .nils]] r := PCalls.arg [tv x.t] (wk_leaf false) h
set_option maxHeartbeats 1600000 in
theorem split_calls : ∀ b : B, PCalls Try.prog F_ident_split [tv b.t] (.tup [tv (splitB b).1.t, tv (splitB b).2.t]) := by
  intro b
  induction b with
  | lf o =>
    have c1 := node_none_r (node_calls (.lf true) (.lf false))
    have c2 := node_none_l (node_calls (.lf false) (.lf true))
    have cl := leaf_lfc o
    refine calls_ident_split (walk0 100 trivial (fun A eA => ?_))
    simp (disch := first | omega | (simp only [avs_len, List.length_cons, List.length_append, List.length_nil, List.length_take, List.length_drop, List.length_map]; omega)) only [c_ident_split, ↓advStep, ↓execK, ↓opK, ↓binK, ↓intK, ↓strK, evs, ev, getT, setT, put, List.replicate, List.cons_append, List.nil_append, List.length_cons, List.length_nil, ↓mapK, ↓frzK_sl, ↓frzK_agg, ↓frzK_tup, ↓frzK_ifc, ↓frzK_func, ↓frzK_int, ↓frzK_bool, ↓frzK_str, ↓frzK_nilp, ↓frzK_nils, ↓frzK_nilm, ↓frzK_nilf, ↓frzK_nili, ↓frzK_fz, ↓frzK_any, ↓frzK_ptr, ↓frzK_ro, ↓getB, setB, kill, killM, dropK, keysOf, capOf_nn, zeroC, bump, frzT, thaw, gets, putAll, ↓getsK, ↓getR, ↓retK, retv, find, cells, ↓nilpK, ↓nilsK, ↓nilfK, ↓niliK, ↓bndK, ↓cutK, ↓fillK, ↓exitK, List.append_nil, List.drop, List.take, Nat.reduceAdd, Nat.reduceSub, Nat.reduceMul, Nat.reduceLT, Nat.reduceLeDiff, Nat.zero_add, Nat.add_zero, Nat.mul_one, Int.reduceToNat, Nat.reduceEqDiff, Nat.succ_ne_self, Nat.le_refl, Nat.one_ne_zero, Nat.reduceBEq, Nat.lt_irrefl, List.length_append, Int.toNat_zero, Int.toNat_one, List.take_zero, List.drop_zero, Nat.zero_mul, sel, rest, keyIn, ↓reduceIte, ↓if_pos, ↓if_neg, reduceCtorEq, Bool.not_true, Bool.not_false, Bool.false_eq_true, Bool.true_eq_false, and_self, and_true, true_and, false_and, and_false, decide_true, decide_false, decide_eq_true, decide_eq_false, decide_eq_true_eq, decide_eq_false_iff_not, Bool.not_eq_true, Bool.not_eq_false, Bool.not_eq_eq_eq_not, Decidable.not_not, eA, scal1, List.all_cons, List.all_nil, Bool.and_self]
    repeat ((first | refine call0 100 trivial trivial (by first | exact cl | exact All_calls | exact c1 | exact c2) (by first | exact .inl rfl | exact .inr rfl) (fun A eA => ?_) | refine call1 100 trivial trivial (by first | exact cl | exact All_calls | exact c1 | exact c2) (fun A eA => ?_)); simp (disch := first | omega | (simp only [avs_len, List.length_cons, List.length_append, List.length_nil, List.length_take, List.length_drop, List.length_map]; omega)) only [c_ident_split, ↓advStep, ↓execK, ↓opK, ↓binK, ↓intK, ↓strK, evs, ev, getT, setT, put, List.replicate, List.cons_append, List.nil_append, List.length_cons, List.length_nil, ↓mapK, ↓frzK_sl, ↓frzK_agg, ↓frzK_tup, ↓frzK_ifc, ↓frzK_func, ↓frzK_int, ↓frzK_bool, ↓frzK_str, ↓frzK_nilp, ↓frzK_nils, ↓frzK_nilm, ↓frzK_nilf, ↓frzK_nili, ↓frzK_fz, ↓frzK_any, ↓frzK_ptr, ↓frzK_ro, ↓getB, setB, kill, killM, dropK, keysOf, capOf_nn, zeroC, bump, frzT, thaw, gets, putAll, ↓getsK, ↓getR, ↓retK, retv, find, cells, ↓nilpK, ↓nilsK, ↓nilfK, ↓niliK, ↓bndK, ↓cutK, ↓fillK, ↓exitK, List.append_nil, List.drop, List.take, Nat.reduceAdd, Nat.reduceSub, Nat.reduceMul, Nat.reduceLT, Nat.reduceLeDiff, Nat.zero_add, Nat.add_zero, Nat.mul_one, Int.reduceToNat, Nat.reduceEqDiff, Nat.succ_ne_self, Nat.le_refl, Nat.one_ne_zero, Nat.reduceBEq, Nat.lt_irrefl, List.length_append, Int.toNat_zero, Int.toNat_one, List.take_zero, List.drop_zero, Nat.zero_mul, sel, rest, keyIn, ↓reduceIte, ↓if_pos, ↓if_neg, reduceCtorEq, Bool.not_true, Bool.not_false, Bool.false_eq_true, Bool.true_eq_false, and_self, and_true, true_and, false_and, and_false, decide_true, decide_false, decide_eq_true, decide_eq_false, decide_eq_true_eq, decide_eq_false_iff_not, Bool.not_eq_true, Bool.not_eq_false, Bool.not_eq_eq_eq_not, Decidable.not_not, eA, scal1, List.all_cons, List.all_nil, Bool.and_self])
    exact doneG rfl
  | nd l r ihl ihr =>
    have h0 : (B.nd l r).t.ps = [l.t, r.t] := rfl
    have g0 : (tavs [l.t, r.t])[0]? = some (tv l.t) := by rw [tavs_get]; rfl
    have g1 : (tavs [l.t, r.t])[1]? = some (tv r.t) := by rw [tavs_get]; rfl
    have cl := leaf_ndc l r
    have nl := nothing_b l
    have nr := nothing_b r
    simp only [splitB]
    cases hl : l.isN with
    | true =>
      rw [hl] at nl
      have c1 := node_none_l (node_calls (.lf false) (splitB r).1)
      have c2 := node_none_l (node_calls (.lf false) (splitB r).2)
      rw [nodeB_l (splitB_isN r).1] at c1
      rw [nodeB_l (splitB_isN r).2] at c2
      refine calls_ident_split (walk0 100 trivial (fun A eA => ?_))
      simp (disch := first | omega | (simp only [avs_len, List.length_cons, List.length_append, List.length_nil, List.length_take, List.length_drop, List.length_map]; omega)) only [c_ident_split, ↓advStep, ↓execK, ↓opK, ↓binK, ↓intK, ↓strK, evs, ev, getT, setT, put, List.replicate, List.cons_append, List.nil_append, List.length_cons, List.length_nil, ↓mapK, ↓frzK_sl, ↓frzK_agg, ↓frzK_tup, ↓frzK_ifc, ↓frzK_func, ↓frzK_int, ↓frzK_bool, ↓frzK_str, ↓frzK_nilp, ↓frzK_nils, ↓frzK_nilm, ↓frzK_nilf, ↓frzK_nili, ↓frzK_fz, ↓frzK_any, ↓frzK_ptr, ↓frzK_ro, ↓getB, setB, kill, killM, dropK, keysOf, capOf_nn, zeroC, bump, frzT, thaw, gets, putAll, ↓getsK, ↓getR, ↓retK, retv, find, cells, ↓nilpK, ↓nilsK, ↓nilfK, ↓niliK, ↓bndK, ↓cutK, ↓fillK, ↓exitK, List.append_nil, List.drop, List.take, Nat.reduceAdd, Nat.reduceSub, Nat.reduceMul, Nat.reduceLT, Nat.reduceLeDiff, Nat.zero_add, Nat.add_zero, Nat.mul_one, Int.reduceToNat, Nat.reduceEqDiff, Nat.succ_ne_self, Nat.le_refl, Nat.one_ne_zero, Nat.reduceBEq, Nat.lt_irrefl, List.length_append, Int.toNat_zero, Int.toNat_one, List.take_zero, List.drop_zero, Nat.zero_mul, sel, rest, keyIn, ↓reduceIte, ↓if_pos, ↓if_neg, reduceCtorEq, Bool.not_true, Bool.not_false, Bool.false_eq_true, Bool.true_eq_false, and_self, and_true, true_and, false_and, and_false, decide_true, decide_false, decide_eq_true, decide_eq_false, decide_eq_true_eq, decide_eq_false_iff_not, Bool.not_eq_true, Bool.not_eq_false, Bool.not_eq_eq_eq_not, Decidable.not_not, eA, scal1, List.all_cons, List.all_nil, Bool.and_self]
      repeat ((first | refine call0 100 trivial trivial (by first | exact cl | exact nl | exact nr | exact ihr | exact c1 | exact c2) (by first | exact .inl rfl | exact .inr rfl) (fun A eA => ?_) | refine call1 100 trivial trivial (by first | exact cl | exact nl | exact nr | exact ihr | exact c1 | exact c2) (fun A eA => ?_)); simp (disch := first | omega | (simp only [avs_len, List.length_cons, List.length_append, List.length_nil, List.length_take, List.length_drop, List.length_map]; omega)) only [c_ident_split, ↓advStep, ↓execK, ↓opK, ↓binK, ↓intK, ↓strK, evs, ev, getT, setT, put, List.replicate, List.cons_append, List.nil_append, List.length_cons, List.length_nil, ↓mapK, ↓frzK_sl, ↓frzK_agg, ↓frzK_tup, ↓frzK_ifc, ↓frzK_func, ↓frzK_int, ↓frzK_bool, ↓frzK_str, ↓frzK_nilp, ↓frzK_nils, ↓frzK_nilm, ↓frzK_nilf, ↓frzK_nili, ↓frzK_fz, ↓frzK_any, ↓frzK_ptr, ↓frzK_ro, ↓getB, setB, kill, killM, dropK, keysOf, capOf_nn, zeroC, bump, frzT, thaw, gets, putAll, ↓getsK, ↓getR, ↓retK, retv, find, cells, ↓nilpK, ↓nilsK, ↓nilfK, ↓niliK, ↓bndK, ↓cutK, ↓fillK, ↓exitK, List.append_nil, List.drop, List.take, Nat.reduceAdd, Nat.reduceSub, Nat.reduceMul, Nat.reduceLT, Nat.reduceLeDiff, Nat.zero_add, Nat.add_zero, Nat.mul_one, Int.reduceToNat, Nat.reduceEqDiff, Nat.succ_ne_self, Nat.le_refl, Nat.one_ne_zero, Nat.reduceBEq, Nat.lt_irrefl, List.length_append, Int.toNat_zero, Int.toNat_one, List.take_zero, List.drop_zero, Nat.zero_mul, sel, rest, keyIn, ↓reduceIte, ↓if_pos, ↓if_neg, reduceCtorEq, Bool.not_true, Bool.not_false, Bool.false_eq_true, Bool.true_eq_false, and_self, and_true, true_and, false_and, and_false, decide_true, decide_false, decide_eq_true, decide_eq_false, decide_eq_true_eq, decide_eq_false_iff_not, Bool.not_eq_true, Bool.not_eq_false, Bool.not_eq_eq_eq_not, Decidable.not_not, eA, scal1, List.all_cons, List.all_nil, Bool.and_self, h0, g0, g1])
      exact doneG rfl
    | false =>
      rw [hl] at nl
      cases hr : r.isN with
      | true =>
        rw [hr] at nr
        have c1 := node_none_r (node_calls (splitB l).1 (.lf false))
        have c2 := node_none_r (node_calls (splitB l).2 (.lf false))
        rw [nodeB_r (splitB_isN l).1] at c1
        rw [nodeB_r (splitB_isN l).2] at c2
        refine calls_ident_split (walk0 100 trivial (fun A eA => ?_))
        simp (disch := first | omega | (simp only [avs_len, List.length_cons, List.length_append, List.length_nil, List.length_take, List.length_drop, List.length_map]; omega)) only [c_ident_split, ↓advStep, ↓execK, ↓opK, ↓binK, ↓intK, ↓strK, evs, ev, getT, setT, put, List.replicate, List.cons_append, List.nil_append, List.length_cons, List.length_nil, ↓mapK, ↓frzK_sl, ↓frzK_agg, ↓frzK_tup, ↓frzK_ifc, ↓frzK_func, ↓frzK_int, ↓frzK_bool, ↓frzK_str, ↓frzK_nilp, ↓frzK_nils, ↓frzK_nilm, ↓frzK_nilf, ↓frzK_nili, ↓frzK_fz, ↓frzK_any, ↓frzK_ptr, ↓frzK_ro, ↓getB, setB, kill, killM, dropK, keysOf, capOf_nn, zeroC, bump, frzT, thaw, gets, putAll, ↓getsK, ↓getR, ↓retK, retv, find, cells, ↓nilpK, ↓nilsK, ↓nilfK, ↓niliK, ↓bndK, ↓cutK, ↓fillK, ↓exitK, List.append_nil, List.drop, List.take, Nat.reduceAdd, Nat.reduceSub, Nat.reduceMul, Nat.reduceLT, Nat.reduceLeDiff, Nat.zero_add, Nat.add_zero, Nat.mul_one, Int.reduceToNat, Nat.reduceEqDiff, Nat.succ_ne_self, Nat.le_refl, Nat.one_ne_zero, Nat.reduceBEq, Nat.lt_irrefl, List.length_append, Int.toNat_zero, Int.toNat_one, List.take_zero, List.drop_zero, Nat.zero_mul, sel, rest, keyIn, ↓reduceIte, ↓if_pos, ↓if_neg, reduceCtorEq, Bool.not_true, Bool.not_false, Bool.false_eq_true, Bool.true_eq_false, and_self, and_true, true_and, false_and, and_false, decide_true, decide_false, decide_eq_true, decide_eq_false, decide_eq_true_eq, decide_eq_false_iff_not, Bool.not_eq_true, Bool.not_eq_false, Bool.not_eq_eq_eq_not, Decidable.not_not, eA, scal1, List.all_cons, List.all_nil, Bool.and_self]
        repeat ((first | refine call0 100 trivial trivial (by first | exact cl | exact nl | exact nr | exact ihl | exact c1 | exact c2) (by first | exact .inl rfl | exact .inr rfl) (fun A eA => ?_) | refine call1 100 trivial trivial (by first | exact cl | exact nl | exact nr | exact ihl | exact c1 | exact c2) (fun A eA => ?_)); simp (disch := first | omega | (simp only [avs_len, List.length_cons, List.length_append, List.length_nil, List.length_take, List.length_drop, List.length_map]; omega)) only [c_ident_split, ↓advStep, ↓execK, ↓opK, ↓binK, ↓intK, ↓strK, evs, ev, getT, setT, put, List.replicate, List.cons_append, List.nil_append, List.length_cons, List.length_nil, ↓mapK, ↓frzK_sl, ↓frzK_agg, ↓frzK_tup, ↓frzK_ifc, ↓frzK_func, ↓frzK_int, ↓frzK_bool, ↓frzK_str, ↓frzK_nilp, ↓frzK_nils, ↓frzK_nilm, ↓frzK_nilf, ↓frzK_nili, ↓frzK_fz, ↓frzK_any, ↓frzK_ptr, ↓frzK_ro, ↓getB, setB, kill, killM, dropK, keysOf, capOf_nn, zeroC, bump, frzT, thaw, gets, putAll, ↓getsK, ↓getR, ↓retK, retv, find, cells, ↓nilpK, ↓nilsK, ↓nilfK, ↓niliK, ↓bndK, ↓cutK, ↓fillK, ↓exitK, List.append_nil, List.drop, List.take, Nat.reduceAdd, Nat.reduceSub, Nat.reduceMul, Nat.reduceLT, Nat.reduceLeDiff, Nat.zero_add, Nat.add_zero, Nat.mul_one, Int.reduceToNat, Nat.reduceEqDiff, Nat.succ_ne_self, Nat.le_refl, Nat.one_ne_zero, Nat.reduceBEq, Nat.lt_irrefl, List.length_append, Int.toNat_zero, Int.toNat_one, List.take_zero, List.drop_zero, Nat.zero_mul, sel, rest, keyIn, ↓reduceIte, ↓if_pos, ↓if_neg, reduceCtorEq, Bool.not_true, Bool.not_false, Bool.false_eq_true, Bool.true_eq_false, and_self, and_true, true_and, false_and, and_false, decide_true, decide_false, decide_eq_true, decide_eq_false, decide_eq_true_eq, decide_eq_false_iff_not, Bool.not_eq_true, Bool.not_eq_false, Bool.not_eq_eq_eq_not, Decidable.not_not, eA, scal1, List.all_cons, List.all_nil, Bool.and_self, h0, g0, g1])
        exact doneG rfl
      | false =>
        rw [hr] at nr
        have c1 := node_none_r (node_calls l (.lf false))
        have c2 := node_none_l (node_calls (.lf false) r)
        rw [nodeB_r hl] at c1
        rw [nodeB_l hr] at c2
        refine calls_ident_split (walk0 100 trivial (fun A eA => ?_))
        simp (disch := first | omega | (simp only [avs_len, List.length_cons, List.length_append, List.length_nil, List.length_take, List.length_drop, List.length_map]; omega)) only [c_ident_split, ↓advStep, ↓execK, ↓opK, ↓binK, ↓intK, ↓strK, evs, ev, getT, setT, put, List.replicate, List.cons_append, List.nil_append, List.length_cons, List.length_nil, ↓mapK, ↓frzK_sl, ↓frzK_agg, ↓frzK_tup, ↓frzK_ifc, ↓frzK_func, ↓frzK_int, ↓frzK_bool, ↓frzK_str, ↓frzK_nilp, ↓frzK_nils, ↓frzK_nilm, ↓frzK_nilf, ↓frzK_nili, ↓frzK_fz, ↓frzK_any, ↓frzK_ptr, ↓frzK_ro, ↓getB, setB, kill, killM, dropK, keysOf, capOf_nn, zeroC, bump, frzT, thaw, gets, putAll, ↓getsK, ↓getR, ↓retK, retv, find, cells, ↓nilpK, ↓nilsK, ↓nilfK, ↓niliK, ↓bndK, ↓cutK, ↓fillK, ↓exitK, List.append_nil, List.drop, List.take, Nat.reduceAdd, Nat.reduceSub, Nat.reduceMul, Nat.reduceLT, Nat.reduceLeDiff, Nat.zero_add, Nat.add_zero, Nat.mul_one, Int.reduceToNat, Nat.reduceEqDiff, Nat.succ_ne_self, Nat.le_refl, Nat.one_ne_zero, Nat.reduceBEq, Nat.lt_irrefl, List.length_append, Int.toNat_zero, Int.toNat_one, List.take_zero, List.drop_zero, Nat.zero_mul, sel, rest, keyIn, ↓reduceIte, ↓if_pos, ↓if_neg, reduceCtorEq, Bool.not_true, Bool.not_false, Bool.false_eq_true, Bool.true_eq_false, and_self, and_true, true_and, false_and, and_false, decide_true, decide_false, decide_eq_true, decide_eq_false, decide_eq_true_eq, decide_eq_false_iff_not, Bool.not_eq_true, Bool.not_eq_false, Bool.not_eq_eq_eq_not, Decidable.not_not, eA, scal1, List.all_cons, List.all_nil, Bool.and_self]
        repeat ((first | refine call0 100 trivial trivial (by first | exact cl | exact nl | exact nr | exact c1 | exact c2) (by first | exact .inl rfl | exact .inr rfl) (fun A eA => ?_) | refine call1 100 trivial trivial (by first | exact cl | exact nl | exact nr | exact c1 | exact c2) (fun A eA => ?_)); simp (disch := first | omega | (simp only [avs_len, List.length_cons, List.length_append, List.length_nil, List.length_take, List.length_drop, List.length_map]; omega)) only [c_ident_split, ↓advStep, ↓execK, ↓opK, ↓binK, ↓intK, ↓strK, evs, ev, getT, setT, put, List.replicate, List.cons_append, List.nil_append, List.length_cons, List.length_nil, ↓mapK, ↓frzK_sl, ↓frzK_agg, ↓frzK_tup, ↓frzK_ifc, ↓frzK_func, ↓frzK_int, ↓frzK_bool, ↓frzK_str, ↓frzK_nilp, ↓frzK_nils, ↓frzK_nilm, ↓frzK_nilf, ↓frzK_nili, ↓frzK_fz, ↓frzK_any, ↓frzK_ptr, ↓frzK_ro, ↓getB, setB, kill, killM, dropK, keysOf, capOf_nn, zeroC, bump, frzT, thaw, gets, putAll, ↓getsK, ↓getR, ↓retK, retv, find, cells, ↓nilpK, ↓nilsK, ↓nilfK, ↓niliK, ↓bndK, ↓cutK, ↓fillK, ↓exitK, List.append_nil, List.drop, List.take, Nat.reduceAdd, Nat.reduceSub, Nat.reduceMul, Nat.reduceLT, Nat.reduceLeDiff, Nat.zero_add, Nat.add_zero, Nat.mul_one, Int.reduceToNat, Nat.reduceEqDiff, Nat.succ_ne_self, Nat.le_refl, Nat.one_ne_zero, Nat.reduceBEq, Nat.lt_irrefl, List.length_append, Int.toNat_zero, Int.toNat_one, List.take_zero, List.drop_zero, Nat.zero_mul, sel, rest, keyIn, ↓reduceIte, ↓if_pos, ↓if_neg, reduceCtorEq, Bool.not_true, Bool.not_false, Bool.false_eq_true, Bool.true_eq_false, and_self, and_true, true_and, false_and, and_false, decide_true, decide_false, decide_eq_true, decide_eq_false, decide_eq_true_eq, decide_eq_false_iff_not, Bool.not_eq_true, Bool.not_eq_false, Bool.not_eq_eq_eq_not, Decidable.not_not, eA, scal1, List.all_cons, List.all_nil, Bool.and_self, h0, g0, g1])
        exact doneG rfl
end Go.Proofs.Ytmokhopjnjecbab
