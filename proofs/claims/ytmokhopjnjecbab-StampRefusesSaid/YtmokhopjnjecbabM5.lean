/- The walk through node, apart, join, Apart, Join. -/
import Derived.Test.YtmokhopjnjecbabM4
import Derived.Test.YtmokhopjnjecbabRows
import Derived.Eval
import Derived.KernelRfl
-- short
namespace Go.Proofs.Ytmokhopjnjecbab
open Go.Ev
set_option linter.unusedVariables false
set_option linter.unusedSimpArgs false
set_option maxRecDepth 100000
variable {R : List AV → Heap → Ctr → Prop} {k : List It} {H : Heap} {nx : Ctr} {φ : Nat}

def nodeB (l r : B) : B := match l, r with
  | .lf a, .lf b => if a = b then .lf a else .nd (.lf a) (.lf b)
  | l, r => .nd l r
theorem wk_two (l r : Tree) : Wk1 (.agg [.bool false, .fz 2 [tv l, tv r] (some 2)]) (tv (.mk false [l, r])) := wk_tree (by simp only [tavs, tav_tv]; exact Wk1.cap 2 _ _)
theorem node_calls (l r : B) : PCalls Try.prog F_ident_node [tv l.t, tv r.t] (tv (nodeB l r).t) := by
  refine calls_ident_node (walk0 100 trivial (fun A eA => ?_))
  simp (disch := first | omega | (simp only [avs_len, List.length_cons, List.length_append, List.length_nil, List.length_take, List.length_drop, List.length_map]; omega) | (simp only [cells, scal1, allSz, List.length_cons, List.length_nil, List.length_append, List.length_map, List.all_cons, List.all_nil, avs_len, beq_self_eq_true, Bool.and_self, and_self, or_true, true_or, reduceCtorEq, *]; done) | fail) only [c_ident_node, go_sem, Nat.reduceAdd, Nat.reduceSub, Nat.reduceMul, Nat.reduceLT, Nat.reduceLeDiff, Int.reduceToNat, Nat.reduceEqDiff, Nat.reduceBEq, ↓reduceIte, reduceCtorEq, eA, scal1, tavs_len, List.all_cons, List.all_nil, Bool.and_self]
  refine call0 100 trivial trivial (leaf_calls l.t) (.inl rfl) (fun A eA => ?_)
  cases l with
  | nd l1 l2 =>
    simp (disch := first | omega | (simp only [avs_len, List.length_cons, List.length_append, List.length_nil, List.length_take, List.length_drop, List.length_map]; omega) | (simp only [cells, scal1, allSz, List.length_cons, List.length_nil, List.length_append, List.length_map, List.all_cons, List.all_nil, avs_len, beq_self_eq_true, Bool.and_self, and_self, or_true, true_or, reduceCtorEq, *]; done) | fail) only [c_ident_node, go_sem, Nat.reduceAdd, Nat.reduceSub, Nat.reduceMul, Nat.reduceLT, Nat.reduceLeDiff, Int.reduceToNat, Nat.reduceEqDiff, Nat.reduceBEq, ↓reduceIte, reduceCtorEq, eA, scal1, List.all_cons, List.all_nil, Bool.and_self, B.t, Tree.ps, Tree.one, allSz, cells, beq_self_eq_true]
    exact doneW rfl (wk_two (B.nd l1 l2).t r.t)
  | lf a =>
    simp (disch := first | omega | (simp only [avs_len, List.length_cons, List.length_append, List.length_nil, List.length_take, List.length_drop, List.length_map]; omega) | (simp only [cells, scal1, allSz, List.length_cons, List.length_nil, List.length_append, List.length_map, List.all_cons, List.all_nil, avs_len, beq_self_eq_true, Bool.and_self, and_self, or_true, true_or, reduceCtorEq, *]; done) | fail) only [c_ident_node, go_sem, Nat.reduceAdd, Nat.reduceSub, Nat.reduceMul, Nat.reduceLT, Nat.reduceLeDiff, Int.reduceToNat, Nat.reduceEqDiff, Nat.reduceBEq, ↓reduceIte, reduceCtorEq, eA, scal1, List.all_cons, List.all_nil, Bool.and_self, B.t, Tree.ps, Tree.one, allSz, cells, beq_self_eq_true]
    refine call0 100 trivial trivial (leaf_calls r.t) (.inl rfl) (fun A eA => ?_)
    cases r with
    | nd r1 r2 =>
      simp (disch := first | omega | (simp only [avs_len, List.length_cons, List.length_append, List.length_nil, List.length_take, List.length_drop, List.length_map]; omega) | (simp only [cells, scal1, allSz, List.length_cons, List.length_nil, List.length_append, List.length_map, List.all_cons, List.all_nil, avs_len, beq_self_eq_true, Bool.and_self, and_self, or_true, true_or, reduceCtorEq, *]; done) | fail) only [c_ident_node, go_sem, Nat.reduceAdd, Nat.reduceSub, Nat.reduceMul, Nat.reduceLT, Nat.reduceLeDiff, Int.reduceToNat, Nat.reduceEqDiff, Nat.reduceBEq, ↓reduceIte, reduceCtorEq, eA, scal1, List.all_cons, List.all_nil, Bool.and_self, B.t, Tree.ps, Tree.one, allSz, cells, beq_self_eq_true]
      exact doneW rfl (wk_two (B.lf a).t (B.nd r1 r2).t)
    | lf b =>
      cases a <;> cases b
      all_goals
        simp (disch := first | omega | (simp only [avs_len, List.length_cons, List.length_append, List.length_nil, List.length_take, List.length_drop, List.length_map]; omega) | (simp only [cells, scal1, allSz, List.length_cons, List.length_nil, List.length_append, List.length_map, List.all_cons, List.all_nil, avs_len, beq_self_eq_true, Bool.and_self, and_self, or_true, true_or, reduceCtorEq, *]; done) | fail) only [c_ident_node, go_sem, Nat.reduceAdd, Nat.reduceSub, Nat.reduceMul, Nat.reduceLT, Nat.reduceLeDiff, Int.reduceToNat, Nat.reduceEqDiff, Nat.reduceBEq, ↓reduceIte, reduceCtorEq, eA, scal1, List.all_cons, List.all_nil, Bool.and_self, B.t, Tree.ps, Tree.one, allSz, cells, beq_self_eq_true]
        first
        | exact doneW rfl (wk_leaf _)
        | exact doneW rfl (wk_two (B.lf false).t (B.lf true).t)
        | exact doneW rfl (wk_two (B.lf true).t (B.lf false).t)
def apartB : B → B → Bool
  | .lf false, _ => true
  | .lf true, .lf false => true
  | .nd _ _, .lf false => true
  | .lf true, _ => false
  | .nd _ _, .lf true => false
  | .nd l r, .nd l' r' => apartB l l' && apartB r r'
theorem apart_calls : ∀ (a b : B), PCalls Try.prog F_ident_apart [tv a.t, tv b.t] (.bool (apartB a b)) := by
  intro a
  induction a with
  | lf o =>
    intro b
    refine calls_ident_apart (walk0 100 trivial (fun A eA => ?_))
    simp (disch := first | omega | (simp only [avs_len, List.length_cons, List.length_append, List.length_nil, List.length_take, List.length_drop, List.length_map]; omega) | (simp only [cells, scal1, allSz, List.length_cons, List.length_nil, List.length_append, List.length_map, List.all_cons, List.all_nil, avs_len, beq_self_eq_true, Bool.and_self, and_self, or_true, true_or, reduceCtorEq, *]; done) | fail) only [c_ident_apart, go_sem, Nat.reduceAdd, Nat.reduceSub, Nat.reduceMul, Nat.reduceLT, Nat.reduceLeDiff, Int.reduceToNat, Nat.reduceEqDiff, Nat.reduceBEq, ↓reduceIte, reduceCtorEq, eA, scal1, tavs_len, List.all_cons, List.all_nil, Bool.and_self]
    refine call0 100 trivial trivial (nothing_calls (B.lf o).t) (.inl rfl) (fun A eA => ?_)
    cases o with
    | false =>
      simp (disch := first | omega | (simp only [avs_len, List.length_cons, List.length_append, List.length_nil, List.length_take, List.length_drop, List.length_map]; omega) | (simp only [cells, scal1, allSz, List.length_cons, List.length_nil, List.length_append, List.length_map, List.all_cons, List.all_nil, avs_len, beq_self_eq_true, Bool.and_self, and_self, or_true, true_or, reduceCtorEq, *]; done) | fail) only [c_ident_apart, go_sem, Nat.reduceAdd, Nat.reduceSub, Nat.reduceMul, Nat.reduceLT, Nat.reduceLeDiff, Int.reduceToNat, Nat.reduceEqDiff, Nat.reduceBEq, ↓reduceIte, reduceCtorEq, eA, B.t, Tree.ps, Tree.one, Bool.and_true]
      exact doneG (by cases b <;> rfl)
    | true =>
      simp (disch := first | omega | (simp only [avs_len, List.length_cons, List.length_append, List.length_nil, List.length_take, List.length_drop, List.length_map]; omega) | (simp only [cells, scal1, allSz, List.length_cons, List.length_nil, List.length_append, List.length_map, List.all_cons, List.all_nil, avs_len, beq_self_eq_true, Bool.and_self, and_self, or_true, true_or, reduceCtorEq, *]; done) | fail) only [c_ident_apart, go_sem, Nat.reduceAdd, Nat.reduceSub, Nat.reduceMul, Nat.reduceLT, Nat.reduceLeDiff, Int.reduceToNat, Nat.reduceEqDiff, Nat.reduceBEq, ↓reduceIte, reduceCtorEq, eA, B.t, Tree.ps, Tree.one, Bool.and_false]
      refine call0 100 trivial trivial (nothing_calls b.t) (.inl rfl) (fun A eA => ?_)
      cases b with
      | lf o2 =>
        cases o2 with
        | false =>
          simp (disch := first | omega | (simp only [avs_len, List.length_cons, List.length_append, List.length_nil, List.length_take, List.length_drop, List.length_map]; omega) | (simp only [cells, scal1, allSz, List.length_cons, List.length_nil, List.length_append, List.length_map, List.all_cons, List.all_nil, avs_len, beq_self_eq_true, Bool.and_self, and_self, or_true, true_or, reduceCtorEq, *]; done) | fail) only [c_ident_apart, go_sem, Nat.reduceAdd, Nat.reduceSub, Nat.reduceMul, Nat.reduceLT, Nat.reduceLeDiff, Int.reduceToNat, Nat.reduceEqDiff, Nat.reduceBEq, ↓reduceIte, reduceCtorEq, eA, B.t, Tree.ps, Tree.one, Bool.and_true]
          exact doneG rfl
        | true =>
          simp (disch := first | omega | (simp only [avs_len, List.length_cons, List.length_append, List.length_nil, List.length_take, List.length_drop, List.length_map]; omega) | (simp only [cells, scal1, allSz, List.length_cons, List.length_nil, List.length_append, List.length_map, List.all_cons, List.all_nil, avs_len, beq_self_eq_true, Bool.and_self, and_self, or_true, true_or, reduceCtorEq, *]; done) | fail) only [c_ident_apart, go_sem, Nat.reduceAdd, Nat.reduceSub, Nat.reduceMul, Nat.reduceLT, Nat.reduceLeDiff, Int.reduceToNat, Nat.reduceEqDiff, Nat.reduceBEq, ↓reduceIte, reduceCtorEq, eA, B.t, Tree.ps, Tree.one, Bool.and_false]
          refine call0 100 trivial trivial (leaf_calls (B.lf true).t) (.inl rfl) (fun A eA => ?_)
          simp (disch := first | omega | (simp only [avs_len, List.length_cons, List.length_append, List.length_nil, List.length_take, List.length_drop, List.length_map]; omega) | (simp only [cells, scal1, allSz, List.length_cons, List.length_nil, List.length_append, List.length_map, List.all_cons, List.all_nil, avs_len, beq_self_eq_true, Bool.and_self, and_self, or_true, true_or, reduceCtorEq, *]; done) | fail) only [c_ident_apart, go_sem, Nat.reduceAdd, Nat.reduceSub, Nat.reduceMul, Nat.reduceLT, Nat.reduceLeDiff, Int.reduceToNat, Nat.reduceEqDiff, Nat.reduceBEq, ↓reduceIte, reduceCtorEq, eA, B.t, Tree.ps, Tree.one, Bool.and_false]
          exact doneG rfl
      | nd l2 r2 =>
        simp (disch := first | omega | (simp only [avs_len, List.length_cons, List.length_append, List.length_nil, List.length_take, List.length_drop, List.length_map]; omega) | (simp only [cells, scal1, allSz, List.length_cons, List.length_nil, List.length_append, List.length_map, List.all_cons, List.all_nil, avs_len, beq_self_eq_true, Bool.and_self, and_self, or_true, true_or, reduceCtorEq, *]; done) | fail) only [c_ident_apart, go_sem, Nat.reduceAdd, Nat.reduceSub, Nat.reduceMul, Nat.reduceLT, Nat.reduceLeDiff, Int.reduceToNat, Nat.reduceEqDiff, Nat.reduceBEq, ↓reduceIte, reduceCtorEq, eA, B.t, Tree.ps, Tree.one, Bool.false_and]
        refine call0 100 trivial trivial (leaf_calls (B.lf true).t) (.inl rfl) (fun A eA => ?_)
        simp (disch := first | omega | (simp only [avs_len, List.length_cons, List.length_append, List.length_nil, List.length_take, List.length_drop, List.length_map]; omega) | (simp only [cells, scal1, allSz, List.length_cons, List.length_nil, List.length_append, List.length_map, List.all_cons, List.all_nil, avs_len, beq_self_eq_true, Bool.and_self, and_self, or_true, true_or, reduceCtorEq, *]; done) | fail) only [c_ident_apart, go_sem, Nat.reduceAdd, Nat.reduceSub, Nat.reduceMul, Nat.reduceLT, Nat.reduceLeDiff, Int.reduceToNat, Nat.reduceEqDiff, Nat.reduceBEq, ↓reduceIte, reduceCtorEq, eA, B.t, Tree.ps, Tree.one, Bool.and_false]
        exact doneG rfl
  | nd l r ihl ihr =>
    intro b
    refine calls_ident_apart (walk0 100 trivial (fun A eA => ?_))
    simp (disch := first | omega | (simp only [avs_len, List.length_cons, List.length_append, List.length_nil, List.length_take, List.length_drop, List.length_map]; omega) | (simp only [cells, scal1, allSz, List.length_cons, List.length_nil, List.length_append, List.length_map, List.all_cons, List.all_nil, avs_len, beq_self_eq_true, Bool.and_self, and_self, or_true, true_or, reduceCtorEq, *]; done) | fail) only [c_ident_apart, go_sem, Nat.reduceAdd, Nat.reduceSub, Nat.reduceMul, Nat.reduceLT, Nat.reduceLeDiff, Int.reduceToNat, Nat.reduceEqDiff, Nat.reduceBEq, ↓reduceIte, reduceCtorEq, eA, scal1, tavs_len, List.all_cons, List.all_nil, Bool.and_self]
    refine call0 100 trivial trivial (nothing_calls (B.nd l r).t) (.inl rfl) (fun A eA => ?_)
    simp (disch := first | omega | (simp only [avs_len, List.length_cons, List.length_append, List.length_nil, List.length_take, List.length_drop, List.length_map]; omega) | (simp only [cells, scal1, allSz, List.length_cons, List.length_nil, List.length_append, List.length_map, List.all_cons, List.all_nil, avs_len, beq_self_eq_true, Bool.and_self, and_self, or_true, true_or, reduceCtorEq, *]; done) | fail) only [c_ident_apart, go_sem, Nat.reduceAdd, Nat.reduceSub, Nat.reduceMul, Nat.reduceLT, Nat.reduceLeDiff, Int.reduceToNat, Nat.reduceEqDiff, Nat.reduceBEq, ↓reduceIte, reduceCtorEq, eA, B.t, Tree.ps, Tree.one, Bool.false_and]
    refine call0 100 trivial trivial (nothing_calls b.t) (.inl rfl) (fun A eA => ?_)
    cases b with
    | lf o2 =>
      cases o2 with
      | false =>
        simp (disch := first | omega | (simp only [avs_len, List.length_cons, List.length_append, List.length_nil, List.length_take, List.length_drop, List.length_map]; omega) | (simp only [cells, scal1, allSz, List.length_cons, List.length_nil, List.length_append, List.length_map, List.all_cons, List.all_nil, avs_len, beq_self_eq_true, Bool.and_self, and_self, or_true, true_or, reduceCtorEq, *]; done) | fail) only [c_ident_apart, go_sem, Nat.reduceAdd, Nat.reduceSub, Nat.reduceMul, Nat.reduceLT, Nat.reduceLeDiff, Int.reduceToNat, Nat.reduceEqDiff, Nat.reduceBEq, ↓reduceIte, reduceCtorEq, eA, B.t, Tree.ps, Tree.one, Bool.and_true]
        exact doneG rfl
      | true =>
        simp (disch := first | omega | (simp only [avs_len, List.length_cons, List.length_append, List.length_nil, List.length_take, List.length_drop, List.length_map]; omega) | (simp only [cells, scal1, allSz, List.length_cons, List.length_nil, List.length_append, List.length_map, List.all_cons, List.all_nil, avs_len, beq_self_eq_true, Bool.and_self, and_self, or_true, true_or, reduceCtorEq, *]; done) | fail) only [c_ident_apart, go_sem, Nat.reduceAdd, Nat.reduceSub, Nat.reduceMul, Nat.reduceLT, Nat.reduceLeDiff, Int.reduceToNat, Nat.reduceEqDiff, Nat.reduceBEq, ↓reduceIte, reduceCtorEq, eA, B.t, Tree.ps, Tree.one, Bool.and_false]
        refine call0 100 trivial trivial (leaf_calls (B.nd l r).t) (.inl rfl) (fun A eA => ?_)
        simp (disch := first | omega | (simp only [avs_len, List.length_cons, List.length_append, List.length_nil, List.length_take, List.length_drop, List.length_map]; omega) | (simp only [cells, scal1, allSz, List.length_cons, List.length_nil, List.length_append, List.length_map, List.all_cons, List.all_nil, avs_len, beq_self_eq_true, Bool.and_self, and_self, or_true, true_or, reduceCtorEq, *]; done) | fail) only [c_ident_apart, go_sem, Nat.reduceAdd, Nat.reduceSub, Nat.reduceMul, Nat.reduceLT, Nat.reduceLeDiff, Int.reduceToNat, Nat.reduceEqDiff, Nat.reduceBEq, ↓reduceIte, reduceCtorEq, eA, B.t, Tree.ps, Tree.one, Bool.and_false]
        refine call0 100 trivial trivial (leaf_calls (B.lf true).t) (.inl rfl) (fun A eA => ?_)
        simp (disch := first | omega | (simp only [avs_len, List.length_cons, List.length_append, List.length_nil, List.length_take, List.length_drop, List.length_map]; omega) | (simp only [cells, scal1, allSz, List.length_cons, List.length_nil, List.length_append, List.length_map, List.all_cons, List.all_nil, avs_len, beq_self_eq_true, Bool.and_self, and_self, or_true, true_or, reduceCtorEq, *]; done) | fail) only [c_ident_apart, go_sem, Nat.reduceAdd, Nat.reduceSub, Nat.reduceMul, Nat.reduceLT, Nat.reduceLeDiff, Int.reduceToNat, Nat.reduceEqDiff, Nat.reduceBEq, ↓reduceIte, reduceCtorEq, eA, B.t, Tree.ps, Tree.one, Bool.and_false]
        exact doneG rfl
    | nd l2 r2 =>
      have g0 : ∀ x y : Tree, (tavs [x, y])[0]? = some (tv x) := by intro x y; rw [tavs_get]; rfl
      have g1 : ∀ x y : Tree, (tavs [x, y])[1]? = some (tv y) := by intro x y; rw [tavs_get]; rfl
      simp (disch := first | omega | (simp only [avs_len, List.length_cons, List.length_append, List.length_nil, List.length_take, List.length_drop, List.length_map]; omega) | (simp only [cells, scal1, allSz, List.length_cons, List.length_nil, List.length_append, List.length_map, List.all_cons, List.all_nil, avs_len, beq_self_eq_true, Bool.and_self, and_self, or_true, true_or, reduceCtorEq, *]; done) | fail) only [c_ident_apart, go_sem, Nat.reduceAdd, Nat.reduceSub, Nat.reduceMul, Nat.reduceLT, Nat.reduceLeDiff, Int.reduceToNat, Nat.reduceEqDiff, Nat.reduceBEq, ↓reduceIte, reduceCtorEq, eA, B.t, Tree.ps, Tree.one, Bool.false_and]
      refine call0 100 trivial trivial (leaf_calls (B.nd l r).t) (.inl rfl) (fun A eA => ?_)
      simp (disch := first | omega | (simp only [avs_len, List.length_cons, List.length_append, List.length_nil, List.length_take, List.length_drop, List.length_map]; omega) | (simp only [cells, scal1, allSz, List.length_cons, List.length_nil, List.length_append, List.length_map, List.all_cons, List.all_nil, avs_len, beq_self_eq_true, Bool.and_self, and_self, or_true, true_or, reduceCtorEq, *]; done) | fail) only [c_ident_apart, go_sem, Nat.reduceAdd, Nat.reduceSub, Nat.reduceMul, Nat.reduceLT, Nat.reduceLeDiff, Int.reduceToNat, Nat.reduceEqDiff, Nat.reduceBEq, ↓reduceIte, reduceCtorEq, eA, B.t, Tree.ps, Tree.one, Bool.and_false]
      refine call0 100 trivial trivial (leaf_calls (B.nd l2 r2).t) (.inl rfl) (fun A eA => ?_)
      simp (disch := first | omega | (simp only [avs_len, List.length_cons, List.length_append, List.length_nil, List.length_take, List.length_drop, List.length_map]; omega) | (simp only [cells, scal1, allSz, List.length_cons, List.length_nil, List.length_append, List.length_map, List.all_cons, List.all_nil, avs_len, beq_self_eq_true, Bool.and_self, and_self, or_true, true_or, reduceCtorEq, *]; done) | fail) only [c_ident_apart, go_sem, Nat.reduceAdd, Nat.reduceSub, Nat.reduceMul, Nat.reduceLT, Nat.reduceLeDiff, Int.reduceToNat, Nat.reduceEqDiff, Nat.reduceBEq, ↓reduceIte, reduceCtorEq, eA, B.t, Tree.ps, Tree.one, Bool.and_false, g0, g1, cells, scal1, List.all_cons, List.all_nil, Bool.and_self]
      refine call0 100 trivial trivial (ihl l2) (.inl rfl) (fun A eA => ?_)
      simp only [apartB]
      cases apartB l l2 with
      | false =>
        simp (disch := first | omega | (simp only [avs_len, List.length_cons, List.length_append, List.length_nil, List.length_take, List.length_drop, List.length_map]; omega) | (simp only [cells, scal1, allSz, List.length_cons, List.length_nil, List.length_append, List.length_map, List.all_cons, List.all_nil, avs_len, beq_self_eq_true, Bool.and_self, and_self, or_true, true_or, reduceCtorEq, *]; done) | fail) only [c_ident_apart, go_sem, Nat.reduceAdd, Nat.reduceSub, Nat.reduceMul, Nat.reduceLT, Nat.reduceLeDiff, Int.reduceToNat, Nat.reduceEqDiff, Nat.reduceBEq, ↓reduceIte, reduceCtorEq, eA, B.t, Tree.ps, Tree.one, Bool.and_false, g0, g1, cells, scal1, List.all_cons, List.all_nil, Bool.and_self, Bool.false_and]
        exact doneG rfl
      | true =>
        simp (disch := first | omega | (simp only [avs_len, List.length_cons, List.length_append, List.length_nil, List.length_take, List.length_drop, List.length_map]; omega) | (simp only [cells, scal1, allSz, List.length_cons, List.length_nil, List.length_append, List.length_map, List.all_cons, List.all_nil, avs_len, beq_self_eq_true, Bool.and_self, and_self, or_true, true_or, reduceCtorEq, *]; done) | fail) only [c_ident_apart, go_sem, Nat.reduceAdd, Nat.reduceSub, Nat.reduceMul, Nat.reduceLT, Nat.reduceLeDiff, Int.reduceToNat, Nat.reduceEqDiff, Nat.reduceBEq, ↓reduceIte, reduceCtorEq, eA, B.t, Tree.ps, Tree.one, Bool.and_false, g0, g1, cells, scal1, List.all_cons, List.all_nil, Bool.and_self, Bool.true_and]
        refine call0 100 trivial trivial (ihr r2) (.inl rfl) (fun A eA => ?_)
        simp (disch := first | omega | (simp only [avs_len, List.length_cons, List.length_append, List.length_nil, List.length_take, List.length_drop, List.length_map]; omega) | (simp only [cells, scal1, allSz, List.length_cons, List.length_nil, List.length_append, List.length_map, List.all_cons, List.all_nil, avs_len, beq_self_eq_true, Bool.and_self, and_self, or_true, true_or, reduceCtorEq, *]; done) | fail) only [c_ident_apart, go_sem, Nat.reduceAdd, Nat.reduceSub, Nat.reduceMul, Nat.reduceLT, Nat.reduceLeDiff, Int.reduceToNat, Nat.reduceEqDiff, Nat.reduceBEq, ↓reduceIte, reduceCtorEq, eA]
        exact doneG rfl
/-- Both, where they are apart. -/
def joinB : B → B → B
  | .lf false, b => b
  | .lf true, _ => .lf true
  | .nd l r, .lf _ => .nd l r
  | .nd l r, .nd l' r' => nodeB (joinB l l') (joinB r r')
theorem join_calls : ∀ (a b : B), apartB a b = true → PCalls Try.prog F_ident_join [tv a.t, tv b.t] (tv (joinB a b).t) := by
  intro a
  induction a with
  | lf o =>
    intro b hab
    refine calls_ident_join (walk0 100 trivial (fun A eA => ?_))
    simp (disch := first | omega | (simp only [avs_len, List.length_cons, List.length_append, List.length_nil, List.length_take, List.length_drop, List.length_map]; omega) | (simp only [cells, scal1, allSz, List.length_cons, List.length_nil, List.length_append, List.length_map, List.all_cons, List.all_nil, avs_len, beq_self_eq_true, Bool.and_self, and_self, or_true, true_or, reduceCtorEq, *]; done) | fail) only [c_ident_join, go_sem, Nat.reduceAdd, Nat.reduceSub, Nat.reduceMul, Nat.reduceLT, Nat.reduceLeDiff, Int.reduceToNat, Nat.reduceEqDiff, Nat.reduceBEq, ↓reduceIte, reduceCtorEq, eA, scal1, tavs_len, List.all_cons, List.all_nil, Bool.and_self]
    refine call0 100 trivial trivial (nothing_calls (B.lf o).t) (.inl rfl) (fun A eA => ?_)
    cases o with
    | false =>
      simp (disch := first | omega | (simp only [avs_len, List.length_cons, List.length_append, List.length_nil, List.length_take, List.length_drop, List.length_map]; omega) | (simp only [cells, scal1, allSz, List.length_cons, List.length_nil, List.length_append, List.length_map, List.all_cons, List.all_nil, avs_len, beq_self_eq_true, Bool.and_self, and_self, or_true, true_or, reduceCtorEq, *]; done) | fail) only [c_ident_join, go_sem, Nat.reduceAdd, Nat.reduceSub, Nat.reduceMul, Nat.reduceLT, Nat.reduceLeDiff, Int.reduceToNat, Nat.reduceEqDiff, Nat.reduceBEq, ↓reduceIte, reduceCtorEq, eA, Bool.and_true, List.all_cons, List.all_nil, Bool.and_self, scal1, beq_self_eq_true, show ((B.lf false).t.ps.length = 0) = True by simp [B.t, Tree.ps], show (B.lf false).t.one = false from rfl]
      exact doneG rfl
    | true =>
      simp (disch := first | omega | (simp only [avs_len, List.length_cons, List.length_append, List.length_nil, List.length_take, List.length_drop, List.length_map]; omega) | (simp only [cells, scal1, allSz, List.length_cons, List.length_nil, List.length_append, List.length_map, List.all_cons, List.all_nil, avs_len, beq_self_eq_true, Bool.and_self, and_self, or_true, true_or, reduceCtorEq, *]; done) | fail) only [c_ident_join, go_sem, Nat.reduceAdd, Nat.reduceSub, Nat.reduceMul, Nat.reduceLT, Nat.reduceLeDiff, Int.reduceToNat, Nat.reduceEqDiff, Nat.reduceBEq, ↓reduceIte, reduceCtorEq, eA, B.t, Tree.ps, Tree.one, Bool.and_false]
      refine call0 100 trivial trivial (nothing_calls b.t) (.inl rfl) (fun A eA => ?_)
      cases b with
      | nd l2 r2 => simp [apartB] at hab
      | lf o2 =>
        cases o2 with
        | true => simp [apartB] at hab
        | false =>
          simp (disch := first | omega | (simp only [avs_len, List.length_cons, List.length_append, List.length_nil, List.length_take, List.length_drop, List.length_map]; omega) | (simp only [cells, scal1, allSz, List.length_cons, List.length_nil, List.length_append, List.length_map, List.all_cons, List.all_nil, avs_len, beq_self_eq_true, Bool.and_self, and_self, or_true, true_or, reduceCtorEq, *]; done) | fail) only [c_ident_join, go_sem, Nat.reduceAdd, Nat.reduceSub, Nat.reduceMul, Nat.reduceLT, Nat.reduceLeDiff, Int.reduceToNat, Nat.reduceEqDiff, Nat.reduceBEq, ↓reduceIte, reduceCtorEq, eA, B.t, Tree.ps, Tree.one, Bool.and_true, List.all_cons, List.all_nil, Bool.and_self, scal1]
          exact doneG rfl
  | nd l r ihl ihr =>
    intro b hab
    refine calls_ident_join (walk0 100 trivial (fun A eA => ?_))
    simp (disch := first | omega | (simp only [avs_len, List.length_cons, List.length_append, List.length_nil, List.length_take, List.length_drop, List.length_map]; omega) | (simp only [cells, scal1, allSz, List.length_cons, List.length_nil, List.length_append, List.length_map, List.all_cons, List.all_nil, avs_len, beq_self_eq_true, Bool.and_self, and_self, or_true, true_or, reduceCtorEq, *]; done) | fail) only [c_ident_join, go_sem, Nat.reduceAdd, Nat.reduceSub, Nat.reduceMul, Nat.reduceLT, Nat.reduceLeDiff, Int.reduceToNat, Nat.reduceEqDiff, Nat.reduceBEq, ↓reduceIte, reduceCtorEq, eA, scal1, tavs_len, List.all_cons, List.all_nil, Bool.and_self]
    refine call0 100 trivial trivial (nothing_calls (B.nd l r).t) (.inl rfl) (fun A eA => ?_)
    simp (disch := first | omega | (simp only [avs_len, List.length_cons, List.length_append, List.length_nil, List.length_take, List.length_drop, List.length_map]; omega) | (simp only [cells, scal1, allSz, List.length_cons, List.length_nil, List.length_append, List.length_map, List.all_cons, List.all_nil, avs_len, beq_self_eq_true, Bool.and_self, and_self, or_true, true_or, reduceCtorEq, *]; done) | fail) only [c_ident_join, go_sem, Nat.reduceAdd, Nat.reduceSub, Nat.reduceMul, Nat.reduceLT, Nat.reduceLeDiff, Int.reduceToNat, Nat.reduceEqDiff, Nat.reduceBEq, ↓reduceIte, reduceCtorEq, eA, B.t, Tree.ps, Tree.one, Bool.false_and]
    refine call0 100 trivial trivial (nothing_calls b.t) (.inl rfl) (fun A eA => ?_)
    cases b with
    | lf o2 =>
      cases o2 with
      | true => simp [apartB] at hab
      | false =>
        simp (disch := first | omega | (simp only [avs_len, List.length_cons, List.length_append, List.length_nil, List.length_take, List.length_drop, List.length_map]; omega) | (simp only [cells, scal1, allSz, List.length_cons, List.length_nil, List.length_append, List.length_map, List.all_cons, List.all_nil, avs_len, beq_self_eq_true, Bool.and_self, and_self, or_true, true_or, reduceCtorEq, *]; done) | fail) only [c_ident_join, go_sem, Nat.reduceAdd, Nat.reduceSub, Nat.reduceMul, Nat.reduceLT, Nat.reduceLeDiff, Int.reduceToNat, Nat.reduceEqDiff, Nat.reduceBEq, ↓reduceIte, reduceCtorEq, eA, B.t, Tree.ps, Tree.one, Bool.and_true, List.all_cons, List.all_nil, Bool.and_self, scal1]
        exact doneG rfl
    | nd l2 r2 =>
      have g0 : ∀ x y : Tree, (tavs [x, y])[0]? = some (tv x) := by intro x y; rw [tavs_get]; rfl
      have g1 : ∀ x y : Tree, (tavs [x, y])[1]? = some (tv y) := by intro x y; rw [tavs_get]; rfl
      simp only [apartB, Bool.and_eq_true] at hab
      simp (disch := first | omega | (simp only [avs_len, List.length_cons, List.length_append, List.length_nil, List.length_take, List.length_drop, List.length_map]; omega) | (simp only [cells, scal1, allSz, List.length_cons, List.length_nil, List.length_append, List.length_map, List.all_cons, List.all_nil, avs_len, beq_self_eq_true, Bool.and_self, and_self, or_true, true_or, reduceCtorEq, *]; done) | fail) only [c_ident_join, go_sem, Nat.reduceAdd, Nat.reduceSub, Nat.reduceMul, Nat.reduceLT, Nat.reduceLeDiff, Int.reduceToNat, Nat.reduceEqDiff, Nat.reduceBEq, ↓reduceIte, reduceCtorEq, eA, B.t, Tree.ps, Tree.one, Bool.false_and, g0, g1, cells, scal1, List.all_cons, List.all_nil, Bool.and_self]
      refine call0 100 trivial trivial (ihl l2 hab.1) (.inl rfl) (fun A eA => ?_)
      simp (disch := first | omega | (simp only [avs_len, List.length_cons, List.length_append, List.length_nil, List.length_take, List.length_drop, List.length_map]; omega) | (simp only [cells, scal1, allSz, List.length_cons, List.length_nil, List.length_append, List.length_map, List.all_cons, List.all_nil, avs_len, beq_self_eq_true, Bool.and_self, and_self, or_true, true_or, reduceCtorEq, *]; done) | fail) only [c_ident_join, go_sem, Nat.reduceAdd, Nat.reduceSub, Nat.reduceMul, Nat.reduceLT, Nat.reduceLeDiff, Int.reduceToNat, Nat.reduceEqDiff, Nat.reduceBEq, ↓reduceIte, reduceCtorEq, eA, g0, g1, cells, scal1, List.all_cons, List.all_nil, Bool.and_self]
      refine call0 100 trivial trivial (ihr r2 hab.2) (.inl rfl) (fun A eA => ?_)
      simp (disch := first | omega | (simp only [avs_len, List.length_cons, List.length_append, List.length_nil, List.length_take, List.length_drop, List.length_map]; omega) | (simp only [cells, scal1, allSz, List.length_cons, List.length_nil, List.length_append, List.length_map, List.all_cons, List.all_nil, avs_len, beq_self_eq_true, Bool.and_self, and_self, or_true, true_or, reduceCtorEq, *]; done) | fail) only [c_ident_join, go_sem, Nat.reduceAdd, Nat.reduceSub, Nat.reduceMul, Nat.reduceLT, Nat.reduceLeDiff, Int.reduceToNat, Nat.reduceEqDiff, Nat.reduceBEq, ↓reduceIte, reduceCtorEq, eA]
      refine call0 100 trivial trivial (node_calls (joinB l l2) (joinB r r2)) (.inl rfl) (fun A eA => ?_)
      simp (disch := first | omega | (simp only [avs_len, List.length_cons, List.length_append, List.length_nil, List.length_take, List.length_drop, List.length_map]; omega) | (simp only [cells, scal1, allSz, List.length_cons, List.length_nil, List.length_append, List.length_map, List.all_cons, List.all_nil, avs_len, beq_self_eq_true, Bool.and_self, and_self, or_true, true_or, reduceCtorEq, *]; done) | fail) only [c_ident_join, go_sem, Nat.reduceAdd, Nat.reduceSub, Nat.reduceMul, Nat.reduceLT, Nat.reduceLeDiff, Int.reduceToNat, Nat.reduceEqDiff, Nat.reduceBEq, ↓reduceIte, reduceCtorEq, eA, scal1, List.all_cons, List.all_nil, Bool.and_self]
      exact doneG rfl
noncomputable def apartT (a b : Tree) : Bool := @dite _ (Rt a ∧ Rt b) (Classical.propDecidable _) (fun h => apartB h.1.choose h.2.choose) (fun _ => false)
theorem Apart_calls (a b : Tree) : PCalls Try.prog F_ident_Apart [tv a, tv b] (.bool (apartT a b)) := by
  refine calls_ident_Apart (walk0 100 trivial (fun A eA => ?_))
  simp (disch := first | omega | (simp only [avs_len, List.length_cons, List.length_append, List.length_nil, List.length_take, List.length_drop, List.length_map]; omega) | (simp only [cells, scal1, allSz, List.length_cons, List.length_nil, List.length_append, List.length_map, List.all_cons, List.all_nil, avs_len, beq_self_eq_true, Bool.and_self, and_self, or_true, true_or, reduceCtorEq, *]; done) | fail) only [c_ident_Apart, go_sem, Nat.reduceAdd, Nat.reduceSub, Nat.reduceMul, Nat.reduceLT, Nat.reduceLeDiff, Int.reduceToNat, Nat.reduceEqDiff, Nat.reduceBEq, ↓reduceIte, reduceCtorEq, eA, scal1]
  refine call0 100 trivial trivial (right_calls a) (.inl rfl) (fun A eA => ?_)
  have hno : ¬ (Rt a ∧ Rt b) → apartT a b = false := fun h => by simp only [apartT]; rw [dif_neg h]
  cases ha : rtb a with
  | false =>
    simp (disch := first | omega | (simp only [avs_len, List.length_cons, List.length_append, List.length_nil, List.length_take, List.length_drop, List.length_map]; omega) | (simp only [cells, scal1, allSz, List.length_cons, List.length_nil, List.length_append, List.length_map, List.all_cons, List.all_nil, avs_len, beq_self_eq_true, Bool.and_self, and_self, or_true, true_or, reduceCtorEq, *]; done) | fail) only [c_ident_Apart, go_sem, Nat.reduceAdd, Nat.reduceSub, Nat.reduceMul, Nat.reduceLT, Nat.reduceLeDiff, Int.reduceToNat, Nat.reduceEqDiff, Nat.reduceBEq, ↓reduceIte, reduceCtorEq, eA, scal1]
    rw [hno (fun h => by rw [rtb_true.2 h.1] at ha; cases ha)]
    exact doneG rfl
  | true =>
    simp (disch := first | omega | (simp only [avs_len, List.length_cons, List.length_append, List.length_nil, List.length_take, List.length_drop, List.length_map]; omega) | (simp only [cells, scal1, allSz, List.length_cons, List.length_nil, List.length_append, List.length_map, List.all_cons, List.all_nil, avs_len, beq_self_eq_true, Bool.and_self, and_self, or_true, true_or, reduceCtorEq, *]; done) | fail) only [c_ident_Apart, go_sem, Nat.reduceAdd, Nat.reduceSub, Nat.reduceMul, Nat.reduceLT, Nat.reduceLeDiff, Int.reduceToNat, Nat.reduceEqDiff, Nat.reduceBEq, ↓reduceIte, reduceCtorEq, eA, scal1]
    refine call0 100 trivial trivial (right_calls b) (.inl rfl) (fun A eA => ?_)
    cases hb : rtb b with
    | false =>
      simp (disch := first | omega | (simp only [avs_len, List.length_cons, List.length_append, List.length_nil, List.length_take, List.length_drop, List.length_map]; omega) | (simp only [cells, scal1, allSz, List.length_cons, List.length_nil, List.length_append, List.length_map, List.all_cons, List.all_nil, avs_len, beq_self_eq_true, Bool.and_self, and_self, or_true, true_or, reduceCtorEq, *]; done) | fail) only [c_ident_Apart, go_sem, Nat.reduceAdd, Nat.reduceSub, Nat.reduceMul, Nat.reduceLT, Nat.reduceLeDiff, Int.reduceToNat, Nat.reduceEqDiff, Nat.reduceBEq, ↓reduceIte, reduceCtorEq, eA, scal1]
      rw [hno (fun h => by rw [rtb_true.2 h.2] at hb; cases hb)]
      exact doneG rfl
    | true =>
      have h : Rt a ∧ Rt b := ⟨rtb_true.1 ha, rtb_true.1 hb⟩
      have e : apartT a b = apartB h.1.choose h.2.choose := by simp only [apartT]; rw [dif_pos h]
      have c := apart_calls h.1.choose h.2.choose
      rw [← h.1.choose_spec.1, ← h.2.choose_spec.1, ← e] at c
      simp (disch := first | omega | (simp only [avs_len, List.length_cons, List.length_append, List.length_nil, List.length_take, List.length_drop, List.length_map]; omega) | (simp only [cells, scal1, allSz, List.length_cons, List.length_nil, List.length_append, List.length_map, List.all_cons, List.all_nil, avs_len, beq_self_eq_true, Bool.and_self, and_self, or_true, true_or, reduceCtorEq, *]; done) | fail) only [c_ident_Apart, go_sem, Nat.reduceAdd, Nat.reduceSub, Nat.reduceMul, Nat.reduceLT, Nat.reduceLeDiff, Int.reduceToNat, Nat.reduceEqDiff, Nat.reduceBEq, ↓reduceIte, reduceCtorEq, eA, scal1]
      refine call0 100 trivial trivial c (.inl rfl) (fun A eA => ?_)
      simp (disch := first | omega | (simp only [avs_len, List.length_cons, List.length_append, List.length_nil, List.length_take, List.length_drop, List.length_map]; omega) | (simp only [cells, scal1, allSz, List.length_cons, List.length_nil, List.length_append, List.length_map, List.all_cons, List.all_nil, avs_len, beq_self_eq_true, Bool.and_self, and_self, or_true, true_or, reduceCtorEq, *]; done) | fail) only [c_ident_Apart, go_sem, Nat.reduceAdd, Nat.reduceSub, Nat.reduceMul, Nat.reduceLT, Nat.reduceLeDiff, Int.reduceToNat, Nat.reduceEqDiff, Nat.reduceBEq, ↓reduceIte, reduceCtorEq, eA, scal1]
      exact doneG rfl
/-- What Join answers. -/
noncomputable def joinT (a b : Tree) : Tree := @dite _ (Rt a ∧ Rt b) (Classical.propDecidable _) (fun h => (joinB h.1.choose h.2.choose).t) (fun _ => .mk false [])
noncomputable def joinR (a b : Tree) : Tree × Nat := if apartT a b then (if rtb (joinT a b) then (joinT a b, 0) else (.mk false [], 9)) else (.mk false [], 1)
theorem wk_pair (n : Nat) : Wk1 (.tup [.agg [.bool false, .nils], .int .i64 (n : Nat)]) (.tup [tv (.mk false []), .int .i64 (n : Nat)]) := by
  refine Wk1.tup rfl (fun j x y hx hy => ?_)
  rcases j with _ | _ | j
  · simp at hx hy; subst hx hy; exact wk_leaf false
  · simp at hx hy; subst hx hy; exact Wk1.refl _
  · simp at hx
theorem right_size {t : Tree} (h : Rt t) : t.size < 2 ^ 32 ∧ flatTo 8 t := by
  obtain ⟨b, rfl, h1, h2, h3⟩ := h
  refine ⟨?_, (flat_dep 8 b).2 h1⟩
  have : ∀ b : B, b.t.size = b.nodes := by
    intro b
    induction b with
    | lf o => simp [B.t, Tree.size, sizes, B.nodes]
    | nd l r ihl ihr => simp only [B.t, Tree.size, sizes, B.nodes, ihl, ihr]; omega
  rw [this]; omega
theorem Join_calls (a b : Tree) : PCalls Try.prog F_ident_Join [tv a, tv b] (.tup [tv (joinR a b).1, .int .i64 ((joinR a b).2 : Nat)]) := by
  refine calls_ident_Join (walk0 100 trivial (fun A eA => ?_))
  simp (disch := first | omega | (simp only [avs_len, List.length_cons, List.length_append, List.length_nil, List.length_take, List.length_drop, List.length_map]; omega) | (simp only [cells, scal1, allSz, List.length_cons, List.length_nil, List.length_append, List.length_map, List.all_cons, List.all_nil, avs_len, beq_self_eq_true, Bool.and_self, and_self, or_true, true_or, reduceCtorEq, *]; done) | fail) only [c_ident_Join, go_sem, Nat.reduceAdd, Nat.reduceSub, Nat.reduceMul, Nat.reduceLT, Nat.reduceLeDiff, Int.reduceToNat, Nat.reduceEqDiff, Nat.reduceBEq, ↓reduceIte, reduceCtorEq, eA, scal1, List.all_cons, List.all_nil, Bool.and_self]
  refine call0 100 trivial trivial (Apart_calls a b) (.inl rfl) (fun A eA => ?_)
  cases hap : apartT a b with
  | false =>
    rw [show joinR a b = (.mk false [], 1) by simp [joinR, hap]]
    simp (disch := first | omega | (simp only [avs_len, List.length_cons, List.length_append, List.length_nil, List.length_take, List.length_drop, List.length_map]; omega) | (simp only [cells, scal1, allSz, List.length_cons, List.length_nil, List.length_append, List.length_map, List.all_cons, List.all_nil, avs_len, beq_self_eq_true, Bool.and_self, and_self, or_true, true_or, reduceCtorEq, *]; done) | fail) only [c_ident_Join, go_sem, Nat.reduceAdd, Nat.reduceSub, Nat.reduceMul, Nat.reduceLT, Nat.reduceLeDiff, Int.reduceToNat, Nat.reduceEqDiff, Nat.reduceBEq, ↓reduceIte, reduceCtorEq, eA, scal1, List.all_cons, List.all_nil, Bool.and_self]
    exact doneW rfl (wk_pair 1)
  | true =>
    have h : Rt a ∧ Rt b := Classical.byContradiction (fun h => by simp only [apartT] at hap; rw [dif_neg h] at hap; cases hap)
    have e : apartT a b = apartB h.1.choose h.2.choose := by simp only [apartT]; rw [dif_pos h]
    have e2 : joinT a b = (joinB h.1.choose h.2.choose).t := by simp only [joinT]; rw [dif_pos h]
    have c := join_calls h.1.choose h.2.choose (by rw [← e]; exact hap)
    rw [← h.1.choose_spec.1, ← h.2.choose_spec.1, ← e2] at c
    simp (disch := first | omega | (simp only [avs_len, List.length_cons, List.length_append, List.length_nil, List.length_take, List.length_drop, List.length_map]; omega) | (simp only [cells, scal1, allSz, List.length_cons, List.length_nil, List.length_append, List.length_map, List.all_cons, List.all_nil, avs_len, beq_self_eq_true, Bool.and_self, and_self, or_true, true_or, reduceCtorEq, *]; done) | fail) only [c_ident_Join, go_sem, Nat.reduceAdd, Nat.reduceSub, Nat.reduceMul, Nat.reduceLT, Nat.reduceLeDiff, Int.reduceToNat, Nat.reduceEqDiff, Nat.reduceBEq, ↓reduceIte, reduceCtorEq, eA, scal1, List.all_cons, List.all_nil, Bool.and_self]
    refine call0 100 trivial trivial c (.inl rfl) (fun A eA => ?_)
    simp (disch := first | omega | (simp only [avs_len, List.length_cons, List.length_append, List.length_nil, List.length_take, List.length_drop, List.length_map]; omega) | (simp only [cells, scal1, allSz, List.length_cons, List.length_nil, List.length_append, List.length_map, List.all_cons, List.all_nil, avs_len, beq_self_eq_true, Bool.and_self, and_self, or_true, true_or, reduceCtorEq, *]; done) | fail) only [c_ident_Join, go_sem, Nat.reduceAdd, Nat.reduceSub, Nat.reduceMul, Nat.reduceLT, Nat.reduceLeDiff, Int.reduceToNat, Nat.reduceEqDiff, Nat.reduceBEq, ↓reduceIte, reduceCtorEq, eA, scal1, List.all_cons, List.all_nil, Bool.and_self]
    refine call0 100 trivial trivial (right_calls (joinT a b)) (.inl rfl) (fun A eA => ?_)
    cases hr : rtb (joinT a b) with
    | false =>
      rw [show joinR a b = (.mk false [], 9) by simp [joinR, hap, hr]]
      simp (disch := first | omega | (simp only [avs_len, List.length_cons, List.length_append, List.length_nil, List.length_take, List.length_drop, List.length_map]; omega) | (simp only [cells, scal1, allSz, List.length_cons, List.length_nil, List.length_append, List.length_map, List.all_cons, List.all_nil, avs_len, beq_self_eq_true, Bool.and_self, and_self, or_true, true_or, reduceCtorEq, *]; done) | fail) only [c_ident_Join, go_sem, Nat.reduceAdd, Nat.reduceSub, Nat.reduceMul, Nat.reduceLT, Nat.reduceLeDiff, Int.reduceToNat, Nat.reduceEqDiff, Nat.reduceBEq, ↓reduceIte, reduceCtorEq, eA, scal1, List.all_cons, List.all_nil, Bool.and_self]
      exact doneW rfl (wk_pair 9)
    | true =>
      have hz := right_size (rtb_true.1 hr)
      have cc := Clone_calls (joinT a b) hz.1
      rw [(cloneT_deep (joinT a b)).1 ((deep_le 8 _).2 hz.2)] at cc
      rw [show joinR a b = (joinT a b, 0) by simp [joinR, hap, hr]]
      simp (disch := first | omega | (simp only [avs_len, List.length_cons, List.length_append, List.length_nil, List.length_take, List.length_drop, List.length_map]; omega) | (simp only [cells, scal1, allSz, List.length_cons, List.length_nil, List.length_append, List.length_map, List.all_cons, List.all_nil, avs_len, beq_self_eq_true, Bool.and_self, and_self, or_true, true_or, reduceCtorEq, *]; done) | fail) only [c_ident_Join, go_sem, Nat.reduceAdd, Nat.reduceSub, Nat.reduceMul, Nat.reduceLT, Nat.reduceLeDiff, Int.reduceToNat, Nat.reduceEqDiff, Nat.reduceBEq, ↓reduceIte, reduceCtorEq, eA, scal1, List.all_cons, List.all_nil, Bool.and_self]
      refine call0 100 trivial trivial cc (.inl rfl) (fun A eA => ?_)
      simp (disch := first | omega | (simp only [avs_len, List.length_cons, List.length_append, List.length_nil, List.length_take, List.length_drop, List.length_map]; omega) | (simp only [cells, scal1, allSz, List.length_cons, List.length_nil, List.length_append, List.length_map, List.all_cons, List.all_nil, avs_len, beq_self_eq_true, Bool.and_self, and_self, or_true, true_or, reduceCtorEq, *]; done) | fail) only [c_ident_Join, go_sem, Nat.reduceAdd, Nat.reduceSub, Nat.reduceMul, Nat.reduceLT, Nat.reduceLeDiff, Int.reduceToNat, Nat.reduceEqDiff, Nat.reduceBEq, ↓reduceIte, reduceCtorEq, eA, scal1, List.all_cons, List.all_nil, Bool.and_self]
      exact doneG rfl
end Go.Proofs.Ytmokhopjnjecbab
/- Rows of places, and the shortest tree of a row: plain. -/
namespace Go.Proofs.Ytmokhopjnjecbab
open Go.Ev
set_option linter.unusedVariables false
set_option linter.unnecessarySimpa false

def rowsF : Nat → B → List Bool
  | d, .lf o => List.replicate (2 ^ d) o
  | 0, .nd l r => [false]
  | d + 1, .nd l r => rowsF d l ++ rowsF d r
theorem rowsF_len : ∀ (d : Nat) (b : B), (rowsF d b).length = 2 ^ d
  | d, .lf o => by cases d <;> simp [rowsF]
  | 0, .nd l r => by simp [rowsF]
  | d + 1, .nd l r => by simp only [rowsF, List.length_append, rowsF_len, Nat.pow_succ]; omega
/-- Short, and all places alike: a leaf. -/
theorem short_const : ∀ (d : Nat) (b : B), b.short = true → b.dep ≤ d + 1 → ∀ o, (∀ x ∈ rowsF d b, x = o) → b = .lf o
  | d, .lf o', _, _, o, h => by
    have : o' ∈ rowsF d (.lf o') := by
      have hp : 0 < 2 ^ d := Nat.pow_pos (by omega)
      cases d <;> simp [rowsF]
    rw [h o' this]
  | 0, .nd l r, _, hd, o, h => by
    have : 1 ≤ l.dep := by cases l <;> simp [B.dep]
    simp only [B.dep] at hd; omega
  | d + 1, .nd l r, hs, hd, o, h => by
    simp only [B.short, Bool.and_eq_true] at hs
    simp only [B.dep] at hd
    simp only [rowsF, List.mem_append] at h
    have hl := short_const d l hs.1.1 (by omega) o (fun x hx => h x (.inl hx))
    have hr := short_const d r hs.1.2 (by omega) o (fun x hx => h x (.inr hx))
    subst hl hr
    simp [lfEq, B.t, Tree.ps, Tree.one] at hs
def treeF : Nat → List Bool → B
  | 0, row => .lf (row.headD false)
  | d + 1, row => if row.all (· == row.headD false) then .lf (row.headD false) else .nd (treeF d (row.take (2 ^ d))) (treeF d (row.drop (2 ^ d)))
theorem treeF_rows : ∀ (d : Nat) (b : B), b.short = true → b.dep ≤ d + 1 → treeF d (rowsF d b) = b
  | 0, .lf o, _, _ => by simp [treeF, rowsF]
  | 0, .nd l r, _, hd => by
    have : 1 ≤ l.dep := by cases l <;> simp [B.dep]
    simp only [B.dep] at hd; omega
  | d + 1, .lf o, _, _ => by
    have hh : (rowsF (d + 1) (.lf o)).headD false = o := by
      have hp : 2 ^ (d + 1) ≠ 0 := by have : 0 < 2 ^ (d + 1) := Nat.pow_pos (by omega)
                                      omega
      obtain ⟨m, hm⟩ := Nat.exists_eq_succ_of_ne_zero hp
      simp only [rowsF, hm, List.replicate_succ, List.headD_cons]
    simp only [treeF, hh]
    rw [if_pos]
    simp [rowsF]
  | d + 1, .nd l r, hs, hd => by
    have hs' := hs
    simp only [B.short, Bool.and_eq_true] at hs'
    have hd' := hd
    simp only [B.dep] at hd'
    have hn : ¬ (rowsF (d + 1) (.nd l r)).all (· == (rowsF (d + 1) (.nd l r)).headD false) = true := by
      intro h
      have := short_const (d + 1) (.nd l r) hs hd ((rowsF (d + 1) (.nd l r)).headD false) (fun x hx => by simpa using List.all_eq_true.1 h x hx)
      cases this
    simp only [treeF]
    rw [if_neg hn]
    have e1 : (rowsF (d + 1) (.nd l r)).take (2 ^ d) = rowsF d l := by
      simp only [rowsF]; rw [List.take_append_of_le_length (by rw [rowsF_len]; omega), List.take_of_length_le (by rw [rowsF_len]; omega)]
    have e2 : (rowsF (d + 1) (.nd l r)).drop (2 ^ d) = rowsF d r := by
      simp only [rowsF]; rw [List.drop_append, rowsF_len, Nat.sub_self, List.drop_zero, List.drop_of_length_le (by rw [rowsF_len]; omega), List.nil_append]
    rw [e1, e2, treeF_rows d l hs'.1.1 (by omega), treeF_rows d r hs'.1.2 (by omega)]
theorem nodeB_short {l r : B} (hl : l.short = true) (hr : r.short = true) : (nodeB l r).short = true := by
  cases l with
  | nd a b => simp [nodeB, B.short, lfEq, B.t, Tree.ps] at *; exact ⟨hl, hr⟩
  | lf a =>
    cases r with
    | nd c d => simp [nodeB, B.short, lfEq, B.t, Tree.ps] at *; exact hr
    | lf b =>
      by_cases h : a = b
      · simp [nodeB, h, B.short]
      · simp [nodeB, h, B.short, lfEq, B.t, Tree.ps, Tree.one]
theorem joinB_short : ∀ {a b : B}, a.short = true → b.short = true → (joinB a b).short = true
  | .lf false, b, _, h => by simpa [joinB] using h
  | .lf true, b, _, _ => by simp [joinB, B.short]
  | .nd l r, .lf o, h, _ => by simpa [joinB] using h
  | .nd l r, .nd l' r', h, h' => by
    simp only [B.short, Bool.and_eq_true] at h h'
    simp only [joinB]
    exact nodeB_short (joinB_short h.1.1 h'.1.1) (joinB_short h.1.2 h'.1.2)
theorem rows_node (d : Nat) (l r : B) : rowsF (d + 1) (nodeB l r) = rowsF d l ++ rowsF d r := by
  cases l with
  | nd a b => simp [nodeB, rowsF]
  | lf a =>
    cases r with
    | nd a b => simp [nodeB, rowsF]
    | lf b =>
      by_cases h : a = b
      · subst h
        simp only [nodeB, if_pos, rowsF]
        rw [List.replicate_append_replicate]
        congr 1
        rw [Nat.pow_succ]; omega
      · simp only [nodeB, if_neg h, rowsF]
theorem or_false_l : ∀ (n : Nat) (l : List Bool), l.length = n → List.zipWith (· || ·) (List.replicate n false) l = l
  | 0, [], _ => rfl
  | 0, _ :: _, h => by simp at h
  | n + 1, [], h => by simp at h
  | n + 1, x :: l, h => by simp only [List.replicate_succ, List.zipWith_cons_cons, Bool.false_or, or_false_l n l (by simpa using h)]
theorem or_false_r : ∀ (n : Nat) (l : List Bool), l.length = n → List.zipWith (· || ·) l (List.replicate n false) = l
  | 0, [], _ => rfl
  | 0, _ :: _, h => by simp at h
  | n + 1, [], h => by simp at h
  | n + 1, x :: l, h => by simp only [List.replicate_succ, List.zipWith_cons_cons, Bool.or_false, or_false_r n l (by simpa using h)]
theorem rows_join : ∀ (d : Nat) (a b : B), apartB a b = true → a.dep ≤ d + 1 → b.dep ≤ d + 1 → rowsF d (joinB a b) = List.zipWith (· || ·) (rowsF d a) (rowsF d b)
  | d, .lf false, b, _, _, _ => by
    have := or_false_l (2 ^ d) (rowsF d b) (rowsF_len d b)
    cases d <;> simpa [joinB, rowsF] using this.symm
  | d, .lf true, .lf false, _, _, _ => by
    cases d <;> simp [joinB, rowsF]
  | d, .lf true, .lf true, h, _, _ => by simp [apartB] at h
  | d, .lf true, .nd l r, h, _, _ => by simp [apartB] at h
  | d, .nd l r, .lf true, h, _, _ => by simp [apartB] at h
  | d, .nd l r, .lf false, h, _, _ => by
    have := or_false_r (2 ^ d) (rowsF d (.nd l r)) (rowsF_len d _)
    have e : rowsF d (.lf false) = List.replicate (2 ^ d) false := by cases d <;> rfl
    rw [e]; exact this.symm
  | 0, .nd l r, .nd l' r', _, h, _ => by
    have : 1 ≤ l.dep := by cases l <;> simp [B.dep]
    simp only [B.dep] at h; omega
  | d + 1, .nd l r, .nd l' r', h, h1, h2 => by
    simp only [apartB, Bool.and_eq_true] at h
    simp only [B.dep] at h1 h2
    simp only [joinB, rows_node, rowsF]
    rw [rows_join d l l' h.1 (by omega) (by omega), rows_join d r r' h.2 (by omega) (by omega), List.zipWith_append (by rw [rowsF_len, rowsF_len])]
theorem nodeB_dep (l r : B) : (nodeB l r).dep ≤ max l.dep r.dep + 1 := by
  cases l with
  | nd a b => simp [nodeB, B.dep]
  | lf a =>
    cases r with
    | nd c d => simp [nodeB, B.dep]
    | lf b => by_cases h : a = b <;> simp [nodeB, h, B.dep]
theorem joinB_dep : ∀ (a b : B), (joinB a b).dep ≤ max a.dep b.dep
  | .lf false, b => by simp only [joinB]; omega
  | .lf true, b => by simp only [joinB]; omega
  | .nd l r, .lf o => by simp only [joinB]; omega
  | .nd l r, .nd l' r' => by
    simp only [joinB, B.dep]
    have := nodeB_dep (joinB l l') (joinB r r')
    have := joinB_dep l l'
    have := joinB_dep r r'
    omega
/-- The shortest tree of both rows is what join makes. -/
theorem tree_join (a b : B) (ha : a.short = true) (hb : b.short = true) (da : a.dep ≤ 8) (db : b.dep ≤ 8) (h : apartB a b = true) : treeF 7 (List.zipWith (· || ·) (rowsF 7 a) (rowsF 7 b)) = joinB a b := by
  rw [← rows_join 7 a b h (by omega) (by omega)]
  exact treeF_rows 7 _ (joinB_short ha hb) (by have := joinB_dep a b; omega)
/-- A place that both have? -/
def anyBoth (xs ys : List Bool) : Bool := (List.zipWith (· && ·) xs ys).any id
theorem any_false_l : ∀ (n : Nat) (l : List Bool), anyBoth (List.replicate n false) l = false
  | 0, l => by simp [anyBoth]
  | n + 1, [] => by simp [anyBoth]
  | n + 1, x :: l => by have := any_false_l n l; simp [anyBoth, List.replicate_succ] at this ⊢; exact this
theorem any_false_r : ∀ (n : Nat) (l : List Bool), anyBoth l (List.replicate n false) = false
  | 0, l => by simp [anyBoth]
  | n + 1, [] => by simp [anyBoth]
  | n + 1, x :: l => by have := any_false_r n l; simp [anyBoth, List.replicate_succ] at this ⊢; exact this
theorem any_true_l : ∀ (n : Nat) (l : List Bool), l.length = n → anyBoth (List.replicate n true) l = l.any id
  | 0, [], _ => rfl
  | 0, _ :: _, h => by simp at h
  | n + 1, [], h => by simp at h
  | n + 1, x :: l, h => by have := any_true_l n l (by simpa using h); simp only [anyBoth, List.replicate_succ, List.zipWith_cons_cons, List.any_cons, Bool.true_and] at this ⊢; rw [this]
theorem any_true_r : ∀ (n : Nat) (l : List Bool), l.length = n → anyBoth l (List.replicate n true) = l.any id
  | 0, [], _ => rfl
  | 0, _ :: _, h => by simp at h
  | n + 1, [], h => by simp at h
  | n + 1, x :: l, h => by have := any_true_r n l (by simpa using h); simp only [anyBoth, List.replicate_succ, List.zipWith_cons_cons, List.any_cons, Bool.and_true] at this ⊢; rw [this]
theorem nd_any {d : Nat} {l r : B} (hs : (B.nd l r).short = true) (hd : (B.nd l r).dep ≤ d + 1) : (rowsF d (.nd l r)).any id = true := by
  cases h : (rowsF d (.nd l r)).any id with
  | true => rfl
  | false =>
    have := short_const d (.nd l r) hs hd false (fun x hx => by simpa using List.any_eq_false.1 h x hx)
    cases this
theorem rowsF_lf (d : Nat) (o : Bool) : rowsF d (.lf o) = List.replicate (2 ^ d) o := by cases d <;> rfl
theorem apart_rows : ∀ (d : Nat) (a b : B), a.short = true → b.short = true → a.dep ≤ d + 1 → b.dep ≤ d + 1 → apartB a b = !anyBoth (rowsF d a) (rowsF d b)
  | d, .lf false, b, _, _, _, _ => by rw [rowsF_lf, any_false_l]; cases b <;> rfl
  | d, .lf true, .lf false, _, _, _, _ => by rw [rowsF_lf, rowsF_lf, any_false_r]; rfl
  | d, .lf true, .lf true, _, _, _, _ => by
    rw [rowsF_lf, any_true_l _ _ (by simp)]
    have hp : 2 ^ d ≠ 0 := by have : 0 < 2 ^ d := Nat.pow_pos (by omega)
                              omega
    obtain ⟨m, hm⟩ := Nat.exists_eq_succ_of_ne_zero hp
    simp [hm, List.replicate_succ, apartB]
  | d, .lf true, .nd l r, _, hs, _, hd => by
    rw [rowsF_lf, any_true_l _ _ (rowsF_len d _), nd_any hs hd]; rfl
  | d, .nd l r, .lf true, hs, _, hd, _ => by
    rw [rowsF_lf, any_true_r _ _ (rowsF_len d _), nd_any hs hd]; rfl
  | d, .nd l r, .lf false, _, _, _, _ => by rw [rowsF_lf, any_false_r]; rfl
  | 0, .nd l r, .nd l' r', _, _, h, _ => by
    have : 1 ≤ l.dep := by cases l <;> simp [B.dep]
    simp only [B.dep] at h; omega
  | d + 1, .nd l r, .nd l' r', h, h', h1, h2 => by
    simp only [B.short, Bool.and_eq_true] at h h'
    simp only [B.dep] at h1 h2
    simp only [apartB, rowsF]
    rw [apart_rows d l l' h.1.1 h'.1.1 (by omega) (by omega), apart_rows d r r' h.1.2 h'.1.2 (by omega) (by omega)]
    simp only [anyBoth]
    rw [List.zipWith_append (by rw [rowsF_len, rowsF_len]), List.any_append, Bool.not_or]
end Go.Proofs.Ytmokhopjnjecbab
/- Identities split: plain law and walk. -/
-- short
namespace Go.Ev
/-- Nothing? -/
def B.isN : B → Bool
  | .lf o => !o
  | .nd _ _ => false
end Go.Ev
namespace Go.Proofs.Ytmokhopjnjecbab
open Go.Ev
set_option linter.unusedVariables false
set_option linter.unusedSimpArgs false
set_option maxRecDepth 100000
variable {R : List AV → Heap → Ctr → Prop} {k : List It} {H : Heap} {nx : Ctr} {φ : Nat}

def splitB : B → B × B
  | .lf _ => (.nd (.lf true) (.lf false), .nd (.lf false) (.lf true))
  | .nd l r => if l.isN = true then (.nd (.lf false) (splitB r).1, .nd (.lf false) (splitB r).2)
    else if r.isN = true then (.nd (splitB l).1 (.lf false), .nd (splitB l).2 (.lf false)) else (.nd l (.lf false), .nd (.lf false) r)
theorem B.isN_eq {b : B} (h : b.isN = true) : b = .lf false := by
  cases b with
  | lf o => simp [B.isN] at h; rw [h]
  | nd l r => simp [B.isN] at h
theorem B.isN_t (b : B) : (decide (b.t.ps.length = 0) && !b.t.one) = b.isN := by cases b <;> simp [B.t, Tree.ps, Tree.one, B.isN]
theorem B.isN_teq (b : B) : teq b.t (.mk false []) = b.isN := by
  rw [Bool.eq_iff_iff, teq_true]
  cases b with
  | lf o => simp [B.t, B.isN]
  | nd l r => simp [B.t, B.isN]
theorem splitB_nd (b : B) : ∃ l1 r1 l2 r2, splitB b = (.nd l1 r1, .nd l2 r2) := by
  cases b with
  | lf o => exact ⟨_, _, _, _, rfl⟩
  | nd l r =>
    simp only [splitB]
    split
    · exact ⟨_, _, _, _, rfl⟩
    · split <;> exact ⟨_, _, _, _, rfl⟩
theorem splitB_isN (b : B) : (splitB b).1.isN = false ∧ (splitB b).2.isN = false := by
  obtain ⟨l1, r1, l2, r2, e⟩ := splitB_nd b
  rw [e]; exact ⟨rfl, rfl⟩
theorem nodeB_l {a : B} (h : a.isN = false) : nodeB (.lf false) a = .nd (.lf false) a := by
  cases a with
  | lf o => simp [B.isN] at h; subst h; rfl
  | nd l r => rfl
theorem nodeB_r {a : B} (h : a.isN = false) : nodeB a (.lf false) = .nd a (.lf false) := by
  cases a with
  | lf o => simp [B.isN] at h; subst h; rfl
  | nd l r => rfl
theorem nodeB_ne {l r : B} (h : lfEq l.t r.t = false) : nodeB l r = .nd l r := by
  cases l with
  | nd a b => rfl
  | lf a =>
    cases r with
    | nd c d => rfl
    | lf b =>
      by_cases e : a = b
      · simp [lfEq, B.t, Tree.ps, Tree.one, e] at h
      · simp [nodeB, e]
theorem short_nd {l r : B} (hl : l.short = true) (hr : r.short = true) (h : lfEq l.t r.t = false) : (B.nd l r).short = true := by simp only [B.short, hl, hr, h]; rfl
theorem lfEq_l {a : B} (h : a.isN = false) : lfEq (B.lf false).t a.t = false := by
  cases a with
  | lf o => simp [B.isN] at h; subst h; simp [lfEq, B.t, Tree.ps, Tree.one]
  | nd l r => simp [lfEq, B.t, Tree.ps]
theorem lfEq_r {a : B} (h : a.isN = false) : lfEq a.t (B.lf false).t = false := by
  cases a with
  | lf o => simp [B.isN] at h; subst h; simp [lfEq, B.t, Tree.ps, Tree.one]
  | nd l r => simp [lfEq, B.t, Tree.ps]
theorem splitB_short : ∀ b : B, b.short = true → (splitB b).1.short = true ∧ (splitB b).2.short = true
  | .lf o, _ => by simp [splitB, B.short, lfEq, B.t, Tree.ps, Tree.one]
  | .nd l r, h => by
    simp only [B.short, Bool.and_eq_true] at h
    simp only [splitB]
    have nl := splitB_isN l
    have nr := splitB_isN r
    split
    · have := splitB_short r h.1.2
      exact ⟨short_nd rfl this.1 (lfEq_l nr.1), short_nd rfl this.2 (lfEq_l nr.2)⟩
    · rename_i hl
      rw [Bool.not_eq_true] at hl
      split
      · have := splitB_short l h.1.1
        exact ⟨short_nd this.1 rfl (lfEq_r nl.1), short_nd this.2 rfl (lfEq_r nl.2)⟩
      · rename_i hr
        rw [Bool.not_eq_true] at hr
        exact ⟨short_nd h.1.1 rfl (lfEq_r hl), short_nd rfl h.1.2 (lfEq_l hr)⟩
theorem apartB_r (a : B) : apartB a (.lf false) = true := by
  cases a with
  | lf o => cases o <;> rfl
  | nd l r => rfl
theorem apartB_l (a : B) : apartB (.lf false) a = true := by cases a <;> rfl
theorem splitB_apart : ∀ b : B, apartB (splitB b).1 (splitB b).2 = true
  | .lf o => by simp [splitB, apartB]
  | .nd l r => by
    simp only [splitB]
    split
    · simp only [apartB, splitB_apart r, Bool.and_self]
    · split
      · simp only [apartB, splitB_apart l, Bool.and_self]
      · simp only [apartB, apartB_r, apartB_l, Bool.and_self]
theorem joinB_r {a : B} (h : a.isN = false) : joinB a (.lf false) = a := by
  cases a with
  | lf o => simp [B.isN] at h; subst h; rfl
  | nd l r => rfl
theorem splitB_join : ∀ b : B, b.short = true → b.isN = false → joinB (splitB b).2 (splitB b).1 = b
  | .lf o, _, h => by simp [B.isN] at h; subst h; rfl
  | .nd l r, h, _ => by
    have h' := h
    simp only [B.short, Bool.and_eq_true, Bool.not_eq_true'] at h'
    simp only [splitB]
    split
    · rename_i hl
      have hl := B.isN_eq hl
      subst hl
      have hr : r.isN = false := by
        cases hq : r.isN with
        | false => rfl
        | true => rw [B.isN_eq hq] at h'; simp [lfEq, B.t, Tree.ps, Tree.one] at h'
      simp only [joinB, splitB_join r h'.1.2 hr]
      exact nodeB_l hr
    · rename_i hl
      rw [Bool.not_eq_true] at hl
      split
      · rename_i hr
        have hr := B.isN_eq hr
        subst hr
        simp only [joinB, splitB_join l h'.1.1 hl]
        exact nodeB_r hl
      · rename_i hr
        rw [Bool.not_eq_true] at hr
        simp only [joinB, joinB_r hr]
        exact nodeB_ne h'.2
theorem b_size' : ∀ b : B, b.t.size = b.nodes
  | .lf o => by simp [B.t, Tree.size, sizes, B.nodes]
  | .nd l r => by simp only [B.t, Tree.size, sizes, B.nodes, b_size' l, b_size' r]; omega
theorem splitB_nodes : ∀ b : B, (splitB b).1.nodes ≤ b.nodes + 2 ∧ (splitB b).2.nodes ≤ b.nodes + 2
  | .lf o => by simp [splitB, B.nodes]
  | .nd l r => by
    have h1 := splitB_nodes l
    have h2 := splitB_nodes r
    have p1 := l.nodes_pos
    have p2 := r.nodes_pos
    simp only [splitB]
    split
    · simp only [B.nodes]; omega
    · split
      · simp only [B.nodes]; omega
      · simp only [B.nodes]; omega
theorem nothing_n (b : B) : PCalls Try.prog F_ident_Nothing [tv b.t] (.bool b.isN) := by rw [← B.isN_t b]; exact nothing_calls b.t
theorem leaf_lfc (o : Bool) : PCalls Try.prog F_ident_leaf [tv (B.lf o).t] (.bool true) := leaf_calls (B.lf o).t
theorem leaf_ndc (l r : B) : PCalls Try.prog F_ident_leaf [tv (B.nd l r).t] (.bool false) := by
  have := leaf_calls (B.nd l r).t
  rwa [show decide ((B.nd l r).t.ps.length = 0) = false by simp [B.t, Tree.ps]] at this
theorem node_none_l {x : B} {r : AV} (h : PCalls Try.prog F_ident_node [tv (B.lf false).t, tv x.t] r) : PCalls Try.prog F_ident_node [.agg [.bool false, .nils], tv x.t] r := PCalls.arg [] (wk_leaf false) h
theorem node_none_r {x : B} {r : AV} (h : PCalls Try.prog F_ident_node [tv x.t, tv (B.lf false).t] r) : PCalls Try.prog F_ident_node [tv x.t, .agg [.bool false, .nils]] r := PCalls.arg [tv x.t] (wk_leaf false) h
set_option maxHeartbeats 1600000 in
theorem split_calls : ∀ b : B, PCalls Try.prog F_ident_split [tv b.t] (.tup [tv (splitB b).1.t, tv (splitB b).2.t]) := by
  intro b
  induction b with
  | lf o =>
    have c1 := node_none_r (node_calls (.lf true) (.lf false))
    have c2 := node_none_l (node_calls (.lf false) (.lf true))
    have cl := leaf_lfc o
    refine calls_ident_split (walk0 100 trivial (fun A eA => ?_))
    simp (disch := first | omega | (simp only [avs_len, List.length_cons, List.length_append, List.length_nil, List.length_take, List.length_drop, List.length_map]; omega) | (simp only [cells, scal1, allSz, List.length_cons, List.length_nil, List.length_append, List.length_map, List.all_cons, List.all_nil, avs_len, beq_self_eq_true, Bool.and_self, and_self, or_true, true_or, reduceCtorEq, *]; done) | fail) only [c_ident_split, go_sem, Nat.reduceAdd, Nat.reduceSub, Nat.reduceMul, Nat.reduceLT, Nat.reduceLeDiff, Int.reduceToNat, Nat.reduceEqDiff, Nat.reduceBEq, ↓reduceIte, reduceCtorEq, eA, scal1, List.all_cons, List.all_nil, Bool.and_self]
    repeat ((first | refine call0 100 trivial trivial (by first | exact cl | exact All_calls | exact c1 | exact c2) (by first | exact .inl rfl | exact .inr rfl) (fun A eA => ?_) | refine call1 100 trivial trivial (by first | exact cl | exact All_calls | exact c1 | exact c2) (fun A eA => ?_)); simp (disch := first | omega | (simp only [avs_len, List.length_cons, List.length_append, List.length_nil, List.length_take, List.length_drop, List.length_map]; omega) | (simp only [cells, scal1, allSz, List.length_cons, List.length_nil, List.length_append, List.length_map, List.all_cons, List.all_nil, avs_len, beq_self_eq_true, Bool.and_self, and_self, or_true, true_or, reduceCtorEq, *]; done) | fail) only [c_ident_split, go_sem, Nat.reduceAdd, Nat.reduceSub, Nat.reduceMul, Nat.reduceLT, Nat.reduceLeDiff, Int.reduceToNat, Nat.reduceEqDiff, Nat.reduceBEq, ↓reduceIte, reduceCtorEq, eA, scal1, List.all_cons, List.all_nil, Bool.and_self])
    exact doneG rfl
  | nd l r ihl ihr =>
    have h0 : (B.nd l r).t.ps = [l.t, r.t] := rfl
    have g0 : (tavs [l.t, r.t])[0]? = some (tv l.t) := by rw [tavs_get]; rfl
    have g1 : (tavs [l.t, r.t])[1]? = some (tv r.t) := by rw [tavs_get]; rfl
    have cl := leaf_ndc l r
    have nl := nothing_n l
    have nr := nothing_n r
    simp only [splitB]
    cases hl : l.isN with
    | true =>
      rw [hl] at nl
      have c1 := node_none_l (node_calls (.lf false) (splitB r).1)
      have c2 := node_none_l (node_calls (.lf false) (splitB r).2)
      rw [nodeB_l (splitB_isN r).1] at c1
      rw [nodeB_l (splitB_isN r).2] at c2
      refine calls_ident_split (walk0 100 trivial (fun A eA => ?_))
      simp (disch := first | omega | (simp only [avs_len, List.length_cons, List.length_append, List.length_nil, List.length_take, List.length_drop, List.length_map]; omega) | (simp only [cells, scal1, allSz, List.length_cons, List.length_nil, List.length_append, List.length_map, List.all_cons, List.all_nil, avs_len, beq_self_eq_true, Bool.and_self, and_self, or_true, true_or, reduceCtorEq, *]; done) | fail) only [c_ident_split, go_sem, Nat.reduceAdd, Nat.reduceSub, Nat.reduceMul, Nat.reduceLT, Nat.reduceLeDiff, Int.reduceToNat, Nat.reduceEqDiff, Nat.reduceBEq, ↓reduceIte, reduceCtorEq, eA, scal1, List.all_cons, List.all_nil, Bool.and_self]
      repeat ((first | refine call0 100 trivial trivial (by first | exact cl | exact nl | exact nr | exact ihr | exact c1 | exact c2) (by first | exact .inl rfl | exact .inr rfl) (fun A eA => ?_) | refine call1 100 trivial trivial (by first | exact cl | exact nl | exact nr | exact ihr | exact c1 | exact c2) (fun A eA => ?_)); simp (disch := first | omega | (simp only [avs_len, List.length_cons, List.length_append, List.length_nil, List.length_take, List.length_drop, List.length_map]; omega) | (simp only [cells, scal1, allSz, List.length_cons, List.length_nil, List.length_append, List.length_map, List.all_cons, List.all_nil, avs_len, beq_self_eq_true, Bool.and_self, and_self, or_true, true_or, reduceCtorEq, *]; done) | fail) only [c_ident_split, go_sem, Nat.reduceAdd, Nat.reduceSub, Nat.reduceMul, Nat.reduceLT, Nat.reduceLeDiff, Int.reduceToNat, Nat.reduceEqDiff, Nat.reduceBEq, ↓reduceIte, reduceCtorEq, eA, scal1, List.all_cons, List.all_nil, Bool.and_self, h0, g0, g1])
      exact doneG rfl
    | false =>
      rw [hl] at nl
      cases hr : r.isN with
      | true =>
        rw [hr] at nr
        have c1 := node_none_r (node_calls (splitB l).1 (.lf false))
        have c2 := node_none_r (node_calls (splitB l).2 (.lf false))
        rw [nodeB_r (splitB_isN l).1] at c1
        rw [nodeB_r (splitB_isN l).2] at c2
        refine calls_ident_split (walk0 100 trivial (fun A eA => ?_))
        simp (disch := first | omega | (simp only [avs_len, List.length_cons, List.length_append, List.length_nil, List.length_take, List.length_drop, List.length_map]; omega) | (simp only [cells, scal1, allSz, List.length_cons, List.length_nil, List.length_append, List.length_map, List.all_cons, List.all_nil, avs_len, beq_self_eq_true, Bool.and_self, and_self, or_true, true_or, reduceCtorEq, *]; done) | fail) only [c_ident_split, go_sem, Nat.reduceAdd, Nat.reduceSub, Nat.reduceMul, Nat.reduceLT, Nat.reduceLeDiff, Int.reduceToNat, Nat.reduceEqDiff, Nat.reduceBEq, ↓reduceIte, reduceCtorEq, eA, scal1, List.all_cons, List.all_nil, Bool.and_self]
        repeat ((first | refine call0 100 trivial trivial (by first | exact cl | exact nl | exact nr | exact ihl | exact c1 | exact c2) (by first | exact .inl rfl | exact .inr rfl) (fun A eA => ?_) | refine call1 100 trivial trivial (by first | exact cl | exact nl | exact nr | exact ihl | exact c1 | exact c2) (fun A eA => ?_)); simp (disch := first | omega | (simp only [avs_len, List.length_cons, List.length_append, List.length_nil, List.length_take, List.length_drop, List.length_map]; omega) | (simp only [cells, scal1, allSz, List.length_cons, List.length_nil, List.length_append, List.length_map, List.all_cons, List.all_nil, avs_len, beq_self_eq_true, Bool.and_self, and_self, or_true, true_or, reduceCtorEq, *]; done) | fail) only [c_ident_split, go_sem, Nat.reduceAdd, Nat.reduceSub, Nat.reduceMul, Nat.reduceLT, Nat.reduceLeDiff, Int.reduceToNat, Nat.reduceEqDiff, Nat.reduceBEq, ↓reduceIte, reduceCtorEq, eA, scal1, List.all_cons, List.all_nil, Bool.and_self, h0, g0, g1])
        exact doneG rfl
      | false =>
        rw [hr] at nr
        have c1 := node_none_r (node_calls l (.lf false))
        have c2 := node_none_l (node_calls (.lf false) r)
        rw [nodeB_r hl] at c1
        rw [nodeB_l hr] at c2
        refine calls_ident_split (walk0 100 trivial (fun A eA => ?_))
        simp (disch := first | omega | (simp only [avs_len, List.length_cons, List.length_append, List.length_nil, List.length_take, List.length_drop, List.length_map]; omega) | (simp only [cells, scal1, allSz, List.length_cons, List.length_nil, List.length_append, List.length_map, List.all_cons, List.all_nil, avs_len, beq_self_eq_true, Bool.and_self, and_self, or_true, true_or, reduceCtorEq, *]; done) | fail) only [c_ident_split, go_sem, Nat.reduceAdd, Nat.reduceSub, Nat.reduceMul, Nat.reduceLT, Nat.reduceLeDiff, Int.reduceToNat, Nat.reduceEqDiff, Nat.reduceBEq, ↓reduceIte, reduceCtorEq, eA, scal1, List.all_cons, List.all_nil, Bool.and_self]
        repeat ((first | refine call0 100 trivial trivial (by first | exact cl | exact nl | exact nr | exact c1 | exact c2) (by first | exact .inl rfl | exact .inr rfl) (fun A eA => ?_) | refine call1 100 trivial trivial (by first | exact cl | exact nl | exact nr | exact c1 | exact c2) (fun A eA => ?_)); simp (disch := first | omega | (simp only [avs_len, List.length_cons, List.length_append, List.length_nil, List.length_take, List.length_drop, List.length_map]; omega) | (simp only [cells, scal1, allSz, List.length_cons, List.length_nil, List.length_append, List.length_map, List.all_cons, List.all_nil, avs_len, beq_self_eq_true, Bool.and_self, and_self, or_true, true_or, reduceCtorEq, *]; done) | fail) only [c_ident_split, go_sem, Nat.reduceAdd, Nat.reduceSub, Nat.reduceMul, Nat.reduceLT, Nat.reduceLeDiff, Int.reduceToNat, Nat.reduceEqDiff, Nat.reduceBEq, ↓reduceIte, reduceCtorEq, eA, scal1, List.all_cons, List.all_nil, Bool.and_self, h0, g0, g1])
        exact doneG rfl
end Go.Proofs.Ytmokhopjnjecbab
/- The walk through the reference's Split and Split; what the law answers. -/
-- short
namespace Go.Proofs.Ytmokhopjnjecbab
open Go.Ev
set_option linter.unusedVariables false
set_option linter.unusedSimpArgs false
set_option maxRecDepth 100000
variable {R : List AV → Heap → Ctr → Prop} {k : List It} {H : Heap} {nx : Ctr} {φ : Nat}

/-- Elements told less of, cell by cell. -/
theorem Wk1.elems {sz : Nat} {es es' : List AV} {c : Option Nat} (hl : es.length = es'.length) (h : ∀ (i : Nat) e e', es[i]? = some e → es'[i]? = some e' → (cells e).length = (cells e').length ∧ ∀ (j : Nat) x y, (cells e)[j]? = some x → (cells e')[j]? = some y → Wk1 x y) : Wk1 (.fz sz es c) (.fz sz es' none) := by
  intro L X nx w p v hr
  cases hr with
  | fz0 a b =>
    have : es' = [] := List.eq_nil_of_length_eq_zero (by simpa using hl.symm)
    subst this
    exact .fz0 (by simp) (fun e => ⟨(b e).1, rfl⟩)
  | @fz _ _ _ _ a c vv hne hle hcap hsz hc hr h1 ho =>
    have old : ∀ (i : Nat) e' (j : Nat) y, es'[i]? = some e' → (cells e')[j]? = some y → ∃ e x, es[i]? = some e ∧ (cells e)[j]? = some x ∧ Wk1 x y := by
      intro i e' j y he hy
      have hi := (List.getElem?_eq_some_iff.1 he).1
      have he0 : es[i]? = some es[i] := List.getElem?_eq_getElem (by omega)
      obtain ⟨h2, h3⟩ := h i _ _ he0 he
      have hj := (List.getElem?_eq_some_iff.1 hy).1
      have hx0 : (cells es[i])[j]? = some (cells es[i])[j] := List.getElem?_eq_getElem (by omega)
      exact ⟨_, _, he0, hx0, h3 _ _ _ hx0 hy⟩
    rw [hl]
    refine .fz vv (fun e => hne (List.eq_nil_of_length_eq_zero (by rw [hl, e]; rfl))) (by omega) (by simp) (fun i e' he => ?_) (fun i e' j y he hy => ?_) (fun i e' j y he hy => ?_) (fun i e' j y he hy => ?_) ho
    · have hi := (List.getElem?_eq_some_iff.1 he).1
      have he0 : es[i]? = some es[i] := List.getElem?_eq_getElem (by omega)
      rw [← (h i _ _ he0 he).1]; exact hsz _ _ he0
    · obtain ⟨e, x, h2, h3, _⟩ := old i e' j y he hy
      exact hc _ _ _ _ h2 h3
    · obtain ⟨e, x, h2, h3, h4⟩ := old i e' j y he hy
      exact h4 _ _ _ _ _ _ (hr _ _ _ _ h2 h3)
    · obtain ⟨e, x, h2, h3, _⟩ := old i e' j y he hy
      exact h1 _ _ _ _ h2 h3
/-- Cells that stand for a tree. -/
def isT (x : AV) (t : Tree) : Prop := ∃ p, x = .agg [.bool t.one, p] ∧ Wk1 p (.fz 2 (tavs t.ps) none)
theorem isT_tv (t : Tree) : isT (tv t) t := ⟨_, rfl, Wk1.refl _⟩
theorem isT_nil (o : Bool) : isT (.agg [.bool o, .nils]) (.mk o []) := ⟨_, rfl, by simp only [Tree.ps, tavs]; exact Wk1.nils 2⟩
theorem isT.wk {x : AV} {t : Tree} (h : isT x t) : Wk1 x (tv t) := by
  obtain ⟨p, rfl, hp⟩ := h
  refine Wk1.agg rfl (fun j a b ha hb => ?_)
  rcases j with _ | _ | j
  · simp at ha hb; subst ha hb; exact Wk1.refl _
  · simp at ha hb; subst ha hb; exact hp
  · simp at ha
theorem wk_nd {x y : AV} {l r : B} {c : Option Nat} (hx : isT x l.t) (hy : isT y r.t) : isT (.agg [.bool false, .fz 2 [x, y] c]) (B.nd l r).t := by
  refine ⟨_, rfl, ?_⟩
  show Wk1 _ (.fz 2 (tavs [l.t, r.t]) none)
  simp only [tavs, tav_tv]
  obtain ⟨p, rfl, hp⟩ := hx
  obtain ⟨q, rfl, hq⟩ := hy
  refine Wk1.elems rfl (fun i e e' he he' => ?_)
  rcases i with _ | _ | i
  · simp at he he'; subst he he'
    refine ⟨rfl, fun j x y hx hy => ?_⟩
    rcases j with _ | _ | j
    · simp [cells] at hx hy; subst hx hy; exact Wk1.refl _
    · simp [cells] at hx hy; subst hx hy; exact hp
    · simp [cells] at hx
  · simp at he he'; subst he he'
    refine ⟨rfl, fun j x y hx hy => ?_⟩
    rcases j with _ | _ | j
    · simp [cells] at hx hy; subst hx hy; exact Wk1.refl _
    · simp [cells] at hx hy; subst hx hy; exact hq
    · simp [cells] at hx
  · simp at he
theorem wk_tri {a b a' b' c : AV} (ha : Wk1 a a') (hb : Wk1 b b') : Wk1 (.tup [a, b, c]) (.tup [a', b', c]) := by
  refine Wk1.tup rfl (fun j x y hx hy => ?_)
  rcases j with _ | _ | _ | j
  · simp at hx hy; subst hx hy; exact ha
  · simp at hx hy; subst hx hy; exact hb
  · simp at hx hy; subst hx hy; exact Wk1.refl _
  · simp at hx
noncomputable def okB : B → Bool
  | .lf _ => true
  | .nd l r => rtb (splitB (.nd l r)).1.t && rtb (splitB (.nd l r)).2.t
set_option maxHeartbeats 3200000 in
theorem refSplit_calls : ∀ b : B, b.short = true → b.nodes < 2 ^ 50 → PCalls Try.prog F_ref04_Split [tv b.t] (.tup [tv (splitB b).1.t, tv (splitB b).2.t, .bool (okB b)]) := by
  intro b
  induction b with
  | lf o =>
    intro _ _
    refine calls_ref04_Split (walk0 100 trivial (fun A eA => ?_))
    simp (disch := first | omega | (simp only [avs_len, List.length_cons, List.length_append, List.length_nil, List.length_take, List.length_drop, List.length_map]; omega) | (simp only [cells, scal1, allSz, List.length_cons, List.length_nil, List.length_append, List.length_map, List.all_cons, List.all_nil, avs_len, beq_self_eq_true, Bool.and_self, and_self, or_true, true_or, reduceCtorEq, *]; done) | fail) only [c_ref04_Split, go_sem, Nat.reduceAdd, Nat.reduceSub, Nat.reduceMul, Nat.reduceLT, Nat.reduceLeDiff, Int.reduceToNat, Nat.reduceEqDiff, Nat.reduceBEq, ↓reduceIte, reduceCtorEq, eA, scal1, List.all_cons, List.all_nil, Bool.and_self, tavs_len, B.t, Tree.ps, allSz, cells, beq_self_eq_true]
    exact doneW rfl (wk_tri (wk_nd (l := .lf true) (r := .lf false) (isT_nil true) (isT_nil false)).wk (wk_nd (l := .lf false) (r := .lf true) (isT_nil false) (isT_nil true)).wk)
  | nd l r ihl ihr =>
    intro hs hn
    have hs' := hs
    simp only [B.short, Bool.and_eq_true, Bool.not_eq_true'] at hs'
    simp only [B.nodes] at hn
    have ihl := ihl hs'.1.1 (by omega)
    have ihr := ihr hs'.1.2 (by omega)
    have h0 : (B.nd l r).t.ps = [l.t, r.t] := rfl
    have g0 : (tavs [l.t, r.t])[0]? = some (tv l.t) := by rw [tavs_get]; rfl
    have g1 : (tavs [l.t, r.t])[1]? = some (tv r.t) := by rw [tavs_get]; rfl
    have sl := PCalls.arg [tv l.t] (post := []) (wk_leaf false) (refSame_calls l.t (by rw [b_size']; omega) (.mk false []))
    have sr := PCalls.arg [tv r.t] (post := []) (wk_leaf false) (refSame_calls r.t (by rw [b_size']; omega) (.mk false []))
    rw [B.isN_teq] at sl sr
    simp only [List.cons_append, List.nil_append] at sl sr
    have fin : ∀ (a c : B) (xa xc : AV), splitB (.nd l r) = (a, c) → isT xa a.t → isT xc c.t → a.nodes < 2 ^ 55 → c.nodes < 2 ^ 55 → PCalls Try.prog F_ref04_Right [xa] (.bool (rtb a.t)) ∧ PCalls Try.prog F_ref04_Right [xc] (.bool (rtb c.t)) := by
      intro a c xa xc e h1 h2 h3 h4
      exact ⟨PCalls.arg [] h1.wk (refRight_calls a.t (by rw [b_size']; omega)), PCalls.arg [] h2.wk (refRight_calls c.t (by rw [b_size']; omega))⟩
    have ok2 : ∀ a c, splitB (.nd l r) = (a, c) → okB (.nd l r) = (rtb a.t && rtb c.t) := by intro a c e; simp only [okB, e]
    have nl := splitB_nodes l
    have nr := splitB_nodes r
    cases hl : l.isN with
    | true =>
      have hr : r.isN = false := by
        cases hq : r.isN with
        | false => rfl
        | true => rw [B.isN_eq hl, B.isN_eq hq] at hs'; simp [lfEq, B.t, Tree.ps, Tree.one] at hs'
      rw [hl] at sl
      rw [hr] at sr
      have e : splitB (.nd l r) = (.nd (.lf false) (splitB r).1, .nd (.lf false) (splitB r).2) := by simp only [splitB, hl, if_true]
      have w1 := wk_nd (l := .lf false) (c := some 2) (isT_nil false) (isT_tv (splitB r).1.t)
      have w2 := wk_nd (l := .lf false) (c := some 2) (isT_nil false) (isT_tv (splitB r).2.t)
      obtain ⟨c1, c2⟩ := fin _ _ _ _ e w1 w2 (by simp only [B.nodes]; omega) (by simp only [B.nodes]; omega)
      rw [ok2 _ _ e, e]
      have ww := fun c => wk_tri (c := c) w1.wk w2.wk
      generalize rtb (B.nd (.lf false) (splitB r).2).t = q2 at c2 ⊢
      refine calls_ref04_Split (walk0 100 trivial (fun A eA => ?_))
      cases hq1 : rtb (B.nd (.lf false) (splitB r).1).t
      all_goals
        rw [hq1] at c1
        simp (disch := first | omega | (simp only [avs_len, List.length_cons, List.length_append, List.length_nil, List.length_take, List.length_drop, List.length_map]; omega) | (simp only [cells, scal1, allSz, List.length_cons, List.length_nil, List.length_append, List.length_map, List.all_cons, List.all_nil, avs_len, beq_self_eq_true, Bool.and_self, and_self, or_true, true_or, reduceCtorEq, *]; done) | fail) only [c_ref04_Split, go_sem, Nat.reduceAdd, Nat.reduceSub, Nat.reduceMul, Nat.reduceLT, Nat.reduceLeDiff, Int.reduceToNat, Nat.reduceEqDiff, Nat.reduceBEq, ↓reduceIte, reduceCtorEq, eA, scal1, List.all_cons, List.all_nil, Bool.and_self, tavs_len, h0, g0, g1, allSz, cells, beq_self_eq_true]
        repeat ((first | refine call0 100 trivial trivial (by first | exact sl | exact sr | exact ihr | exact c1 | exact c2) (by first | exact .inl rfl | exact .inr rfl) (fun A eA => ?_) | refine call1 100 trivial trivial (by first | exact sl | exact sr | exact ihr | exact c1 | exact c2) (fun A eA => ?_)); simp (disch := first | omega | (simp only [avs_len, List.length_cons, List.length_append, List.length_nil, List.length_take, List.length_drop, List.length_map]; omega) | (simp only [cells, scal1, allSz, List.length_cons, List.length_nil, List.length_append, List.length_map, List.all_cons, List.all_nil, avs_len, beq_self_eq_true, Bool.and_self, and_self, or_true, true_or, reduceCtorEq, *]; done) | fail) only [c_ref04_Split, go_sem, Nat.reduceAdd, Nat.reduceSub, Nat.reduceMul, Nat.reduceLT, Nat.reduceLeDiff, Int.reduceToNat, Nat.reduceEqDiff, Nat.reduceBEq, ↓reduceIte, reduceCtorEq, eA, scal1, List.all_cons, List.all_nil, Bool.and_self, allSz, cells, beq_self_eq_true, Bool.false_and, Bool.true_and])
        exact doneW rfl (ww _)
    | false =>
      rw [hl] at sl
      cases hr : r.isN with
      | true =>
        rw [hr] at sr
        have e : splitB (.nd l r) = (.nd (splitB l).1 (.lf false), .nd (splitB l).2 (.lf false)) := by simp only [splitB, hl, hr, if_true, Bool.false_eq_true, if_false]
        have w1 := wk_nd (r := .lf false) (c := some 2) (isT_tv (splitB l).1.t) (isT_nil false)
        have w2 := wk_nd (r := .lf false) (c := some 2) (isT_tv (splitB l).2.t) (isT_nil false)
        obtain ⟨c1, c2⟩ := fin _ _ _ _ e w1 w2 (by simp only [B.nodes]; omega) (by simp only [B.nodes]; omega)
        rw [ok2 _ _ e, e]
        have ww := fun c => wk_tri (c := c) w1.wk w2.wk
        generalize rtb (B.nd (splitB l).2 (.lf false)).t = q2 at c2 ⊢
        refine calls_ref04_Split (walk0 100 trivial (fun A eA => ?_))
        cases hq1 : rtb (B.nd (splitB l).1 (.lf false)).t
        all_goals
          rw [hq1] at c1
          simp (disch := first | omega | (simp only [avs_len, List.length_cons, List.length_append, List.length_nil, List.length_take, List.length_drop, List.length_map]; omega) | (simp only [cells, scal1, allSz, List.length_cons, List.length_nil, List.length_append, List.length_map, List.all_cons, List.all_nil, avs_len, beq_self_eq_true, Bool.and_self, and_self, or_true, true_or, reduceCtorEq, *]; done) | fail) only [c_ref04_Split, go_sem, Nat.reduceAdd, Nat.reduceSub, Nat.reduceMul, Nat.reduceLT, Nat.reduceLeDiff, Int.reduceToNat, Nat.reduceEqDiff, Nat.reduceBEq, ↓reduceIte, reduceCtorEq, eA, scal1, List.all_cons, List.all_nil, Bool.and_self, tavs_len, h0, g0, g1, allSz, cells, beq_self_eq_true]
          repeat ((first | refine call0 100 trivial trivial (by first | exact sl | exact sr | exact ihr | exact ihl | exact c1 | exact c2) (by first | exact .inl rfl | exact .inr rfl) (fun A eA => ?_) | refine call1 100 trivial trivial (by first | exact sl | exact sr | exact ihr | exact ihl | exact c1 | exact c2) (fun A eA => ?_)); simp (disch := first | omega | (simp only [avs_len, List.length_cons, List.length_append, List.length_nil, List.length_take, List.length_drop, List.length_map]; omega) | (simp only [cells, scal1, allSz, List.length_cons, List.length_nil, List.length_append, List.length_map, List.all_cons, List.all_nil, avs_len, beq_self_eq_true, Bool.and_self, and_self, or_true, true_or, reduceCtorEq, *]; done) | fail) only [c_ref04_Split, go_sem, Nat.reduceAdd, Nat.reduceSub, Nat.reduceMul, Nat.reduceLT, Nat.reduceLeDiff, Int.reduceToNat, Nat.reduceEqDiff, Nat.reduceBEq, ↓reduceIte, reduceCtorEq, eA, scal1, List.all_cons, List.all_nil, Bool.and_self, allSz, cells, beq_self_eq_true, Bool.false_and, Bool.true_and])
          exact doneW rfl (ww _)
      | false =>
        rw [hr] at sr
        have e : splitB (.nd l r) = (.nd l (.lf false), .nd (.lf false) r) := by simp only [splitB, hl, hr, Bool.false_eq_true, if_false]
        have w1 := wk_nd (r := .lf false) (c := some 2) (isT_tv l.t) (isT_nil false)
        have w2 := wk_nd (l := .lf false) (c := some 2) (isT_nil false) (isT_tv r.t)
        obtain ⟨c1, c2⟩ := fin _ _ _ _ e w1 w2 (by simp only [B.nodes]; omega) (by simp only [B.nodes]; omega)
        rw [ok2 _ _ e, e]
        have ww := fun c => wk_tri (c := c) w1.wk w2.wk
        generalize rtb (B.nd (.lf false) r).t = q2 at c2 ⊢
        refine calls_ref04_Split (walk0 100 trivial (fun A eA => ?_))
        cases hq1 : rtb (B.nd l (.lf false)).t
        all_goals
          rw [hq1] at c1
          simp (disch := first | omega | (simp only [avs_len, List.length_cons, List.length_append, List.length_nil, List.length_take, List.length_drop, List.length_map]; omega) | (simp only [cells, scal1, allSz, List.length_cons, List.length_nil, List.length_append, List.length_map, List.all_cons, List.all_nil, avs_len, beq_self_eq_true, Bool.and_self, and_self, or_true, true_or, reduceCtorEq, *]; done) | fail) only [c_ref04_Split, go_sem, Nat.reduceAdd, Nat.reduceSub, Nat.reduceMul, Nat.reduceLT, Nat.reduceLeDiff, Int.reduceToNat, Nat.reduceEqDiff, Nat.reduceBEq, ↓reduceIte, reduceCtorEq, eA, scal1, List.all_cons, List.all_nil, Bool.and_self, tavs_len, h0, g0, g1, allSz, cells, beq_self_eq_true]
          repeat ((first | refine call0 100 trivial trivial (by first | exact sl | exact sr | exact c1 | exact c2) (by first | exact .inl rfl | exact .inr rfl) (fun A eA => ?_) | refine call1 100 trivial trivial (by first | exact sl | exact sr | exact c1 | exact c2) (fun A eA => ?_)); simp (disch := first | omega | (simp only [avs_len, List.length_cons, List.length_append, List.length_nil, List.length_take, List.length_drop, List.length_map]; omega) | (simp only [cells, scal1, allSz, List.length_cons, List.length_nil, List.length_append, List.length_map, List.all_cons, List.all_nil, avs_len, beq_self_eq_true, Bool.and_self, and_self, or_true, true_or, reduceCtorEq, *]; done) | fail) only [c_ref04_Split, go_sem, Nat.reduceAdd, Nat.reduceSub, Nat.reduceMul, Nat.reduceLT, Nat.reduceLeDiff, Int.reduceToNat, Nat.reduceEqDiff, Nat.reduceBEq, ↓reduceIte, reduceCtorEq, eA, scal1, List.all_cons, List.all_nil, Bool.and_self, allSz, cells, beq_self_eq_true, Bool.false_and, Bool.true_and])
          exact doneW rfl (ww _)
end Go.Proofs.Ytmokhopjnjecbab
/- The walk through Split; what the law answers. -/
-- short
namespace Go.Proofs.Ytmokhopjnjecbab
open Go.Ev
set_option linter.unusedVariables false
set_option linter.unusedSimpArgs false
set_option maxRecDepth 100000
variable {R : List AV → Heap → Ctr → Prop} {k : List It} {H : Heap} {nx : Ctr} {φ : Nat}

theorem rtb_no {t : Tree} (h : ¬ Rt t) : rtb t = false := by rw [Bool.eq_false_iff, ne_eq, rtb_true]; exact h
theorem Clone_rt {t : Tree} (h : Rt t) : PCalls Try.prog F_ident_Clone [tv t] (tv t) := by
  have hz := right_size h
  have cc := Clone_calls t hz.1
  rwa [(cloneT_deep t).1 ((deep_le 8 _).2 hz.2)] at cc
theorem one_mk (o : Bool) (ps : List Tree) : (Tree.mk o ps).one = o := rfl
theorem ps_mk (o : Bool) (ps : List Tree) : (Tree.mk o ps).ps = ps := rfl
abbrev noneT : Tree := .mk false []
theorem Split_odd (t : Tree) (h : ¬ Rt t ∨ (decide (t.ps.length = 0) && !t.one) = true) : PCalls Try.prog F_ident_Split [tv t] (.tup [tv noneT, tv noneT, .int .i64 1]) := by
  have c1 := right_calls t
  have c2 := nothing_calls t
  refine calls_ident_Split (walk0 100 trivial (fun A eA => ?_))
  by_cases hr : Rt t
  · rw [rtb_true.2 hr] at c1
    rw [h.resolve_left (fun f => f hr)] at c2
    simp (disch := first | omega | (simp only [avs_len, List.length_cons, List.length_append, List.length_nil, List.length_take, List.length_drop, List.length_map]; omega) | (simp only [cells, scal1, allSz, List.length_cons, List.length_nil, List.length_append, List.length_map, List.all_cons, List.all_nil, avs_len, beq_self_eq_true, Bool.and_self, and_self, or_true, true_or, reduceCtorEq, *]; done) | fail) only [c_ident_Split, go_sem, Nat.reduceAdd, Nat.reduceSub, Nat.reduceMul, Nat.reduceLT, Nat.reduceLeDiff, Int.reduceToNat, Nat.reduceEqDiff, Nat.reduceBEq, ↓reduceIte, reduceCtorEq, eA, scal1, List.all_cons, List.all_nil, Bool.and_self]
    repeat ((first | refine call0 100 trivial trivial (by first | exact c1 | exact c2) (by first | exact .inl rfl | exact .inr rfl) (fun A eA => ?_) | refine call1 100 trivial trivial (by first | exact c1 | exact c2) (fun A eA => ?_)); simp (disch := first | omega | (simp only [avs_len, List.length_cons, List.length_append, List.length_nil, List.length_take, List.length_drop, List.length_map]; omega) | (simp only [cells, scal1, allSz, List.length_cons, List.length_nil, List.length_append, List.length_map, List.all_cons, List.all_nil, avs_len, beq_self_eq_true, Bool.and_self, and_self, or_true, true_or, reduceCtorEq, *]; done) | fail) only [c_ident_Split, go_sem, Nat.reduceAdd, Nat.reduceSub, Nat.reduceMul, Nat.reduceLT, Nat.reduceLeDiff, Int.reduceToNat, Nat.reduceEqDiff, Nat.reduceBEq, ↓reduceIte, reduceCtorEq, eA, scal1, List.all_cons, List.all_nil, Bool.and_self])
    exact doneW rfl (wk_tri (wk_leaf false) (wk_leaf false))
  · rw [rtb_no hr] at c1
    simp (disch := first | omega | (simp only [avs_len, List.length_cons, List.length_append, List.length_nil, List.length_take, List.length_drop, List.length_map]; omega) | (simp only [cells, scal1, allSz, List.length_cons, List.length_nil, List.length_append, List.length_map, List.all_cons, List.all_nil, avs_len, beq_self_eq_true, Bool.and_self, and_self, or_true, true_or, reduceCtorEq, *]; done) | fail) only [c_ident_Split, go_sem, Nat.reduceAdd, Nat.reduceSub, Nat.reduceMul, Nat.reduceLT, Nat.reduceLeDiff, Int.reduceToNat, Nat.reduceEqDiff, Nat.reduceBEq, ↓reduceIte, reduceCtorEq, eA, scal1, List.all_cons, List.all_nil, Bool.and_self]
    repeat ((first | refine call0 100 trivial trivial (by first | exact c1 | exact c2) (by first | exact .inl rfl | exact .inr rfl) (fun A eA => ?_) | refine call1 100 trivial trivial (by first | exact c1 | exact c2) (fun A eA => ?_)); simp (disch := first | omega | (simp only [avs_len, List.length_cons, List.length_append, List.length_nil, List.length_take, List.length_drop, List.length_map]; omega) | (simp only [cells, scal1, allSz, List.length_cons, List.length_nil, List.length_append, List.length_map, List.all_cons, List.all_nil, avs_len, beq_self_eq_true, Bool.and_self, and_self, or_true, true_or, reduceCtorEq, *]; done) | fail) only [c_ident_Split, go_sem, Nat.reduceAdd, Nat.reduceSub, Nat.reduceMul, Nat.reduceLT, Nat.reduceLeDiff, Int.reduceToNat, Nat.reduceEqDiff, Nat.reduceBEq, ↓reduceIte, reduceCtorEq, eA, scal1, List.all_cons, List.all_nil, Bool.and_self])
    exact doneW rfl (wk_tri (wk_leaf false) (wk_leaf false))
theorem Split_calls (b : B) (hr : Rt b.t) (hn : b.isN = false) {x y : Tree} {e : Nat}
    (h : (Rt (splitB b).1.t ∧ Rt (splitB b).2.t ∧ x = (splitB b).1.t ∧ y = (splitB b).2.t ∧ e = 0) ∨ (¬ (Rt (splitB b).1.t ∧ Rt (splitB b).2.t) ∧ x = noneT ∧ y = noneT ∧ e = 9)) : PCalls Try.prog F_ident_Split [tv b.t] (.tup [tv x, tv y, .int .i64 (e : Nat)]) := by
  have c1 := right_calls b.t
  rw [rtb_true.2 hr] at c1
  have c2 := nothing_n b
  rw [hn] at c2
  have c3 := split_calls b
  have c4 := right_calls (splitB b).1.t
  have c5 := right_calls (splitB b).2.t
  refine calls_ident_Split (walk0 100 trivial (fun A eA => ?_))
  rcases h with ⟨h1, h2, rfl, rfl, rfl⟩ | ⟨h1, rfl, rfl, rfl⟩
  · rw [rtb_true.2 h1] at c4
    rw [rtb_true.2 h2] at c5
    have c6 := Clone_rt h1
    have c7 := Clone_rt h2
    simp (disch := first | omega | (simp only [avs_len, List.length_cons, List.length_append, List.length_nil, List.length_take, List.length_drop, List.length_map]; omega) | (simp only [cells, scal1, allSz, List.length_cons, List.length_nil, List.length_append, List.length_map, List.all_cons, List.all_nil, avs_len, beq_self_eq_true, Bool.and_self, and_self, or_true, true_or, reduceCtorEq, *]; done) | fail) only [c_ident_Split, go_sem, Nat.reduceAdd, Nat.reduceSub, Nat.reduceMul, Nat.reduceLT, Nat.reduceLeDiff, Int.reduceToNat, Nat.reduceEqDiff, Nat.reduceBEq, ↓reduceIte, reduceCtorEq, eA, scal1, List.all_cons, List.all_nil, Bool.and_self]
    repeat ((first | refine call0 100 trivial trivial (by first | exact c1 | exact c2 | exact c3 | exact c4 | exact c5 | exact c6 | exact c7) (by first | exact .inl rfl | exact .inr rfl) (fun A eA => ?_) | refine call1 100 trivial trivial (by first | exact c1 | exact c2 | exact c3 | exact c4 | exact c5 | exact c6 | exact c7) (fun A eA => ?_)); simp (disch := first | omega | (simp only [avs_len, List.length_cons, List.length_append, List.length_nil, List.length_take, List.length_drop, List.length_map]; omega) | (simp only [cells, scal1, allSz, List.length_cons, List.length_nil, List.length_append, List.length_map, List.all_cons, List.all_nil, avs_len, beq_self_eq_true, Bool.and_self, and_self, or_true, true_or, reduceCtorEq, *]; done) | fail) only [c_ident_Split, go_sem, Nat.reduceAdd, Nat.reduceSub, Nat.reduceMul, Nat.reduceLT, Nat.reduceLeDiff, Int.reduceToNat, Nat.reduceEqDiff, Nat.reduceBEq, ↓reduceIte, reduceCtorEq, eA, scal1, List.all_cons, List.all_nil, Bool.and_self])
    exact doneG rfl
  · by_cases h2 : Rt (splitB b).1.t
    · rw [rtb_true.2 h2] at c4
      rw [rtb_no (fun h3 => h1 ⟨h2, h3⟩)] at c5
      simp (disch := first | omega | (simp only [avs_len, List.length_cons, List.length_append, List.length_nil, List.length_take, List.length_drop, List.length_map]; omega) | (simp only [cells, scal1, allSz, List.length_cons, List.length_nil, List.length_append, List.length_map, List.all_cons, List.all_nil, avs_len, beq_self_eq_true, Bool.and_self, and_self, or_true, true_or, reduceCtorEq, *]; done) | fail) only [c_ident_Split, go_sem, Nat.reduceAdd, Nat.reduceSub, Nat.reduceMul, Nat.reduceLT, Nat.reduceLeDiff, Int.reduceToNat, Nat.reduceEqDiff, Nat.reduceBEq, ↓reduceIte, reduceCtorEq, eA, scal1, List.all_cons, List.all_nil, Bool.and_self]
      repeat ((first | refine call0 100 trivial trivial (by first | exact c1 | exact c2 | exact c3 | exact c4 | exact c5) (by first | exact .inl rfl | exact .inr rfl) (fun A eA => ?_) | refine call1 100 trivial trivial (by first | exact c1 | exact c2 | exact c3 | exact c4 | exact c5) (fun A eA => ?_)); simp (disch := first | omega | (simp only [avs_len, List.length_cons, List.length_append, List.length_nil, List.length_take, List.length_drop, List.length_map]; omega) | (simp only [cells, scal1, allSz, List.length_cons, List.length_nil, List.length_append, List.length_map, List.all_cons, List.all_nil, avs_len, beq_self_eq_true, Bool.and_self, and_self, or_true, true_or, reduceCtorEq, *]; done) | fail) only [c_ident_Split, go_sem, Nat.reduceAdd, Nat.reduceSub, Nat.reduceMul, Nat.reduceLT, Nat.reduceLeDiff, Int.reduceToNat, Nat.reduceEqDiff, Nat.reduceBEq, ↓reduceIte, reduceCtorEq, eA, scal1, List.all_cons, List.all_nil, Bool.and_self])
      exact doneW rfl (wk_tri (wk_leaf false) (wk_leaf false))
    · rw [rtb_no h2] at c4
      simp (disch := first | omega | (simp only [avs_len, List.length_cons, List.length_append, List.length_nil, List.length_take, List.length_drop, List.length_map]; omega) | (simp only [cells, scal1, allSz, List.length_cons, List.length_nil, List.length_append, List.length_map, List.all_cons, List.all_nil, avs_len, beq_self_eq_true, Bool.and_self, and_self, or_true, true_or, reduceCtorEq, *]; done) | fail) only [c_ident_Split, go_sem, Nat.reduceAdd, Nat.reduceSub, Nat.reduceMul, Nat.reduceLT, Nat.reduceLeDiff, Int.reduceToNat, Nat.reduceEqDiff, Nat.reduceBEq, ↓reduceIte, reduceCtorEq, eA, scal1, List.all_cons, List.all_nil, Bool.and_self]
      repeat ((first | refine call0 100 trivial trivial (by first | exact c1 | exact c2 | exact c3 | exact c4 | exact c5) (by first | exact .inl rfl | exact .inr rfl) (fun A eA => ?_) | refine call1 100 trivial trivial (by first | exact c1 | exact c2 | exact c3 | exact c4 | exact c5) (fun A eA => ?_)); simp (disch := first | omega | (simp only [avs_len, List.length_cons, List.length_append, List.length_nil, List.length_take, List.length_drop, List.length_map]; omega) | (simp only [cells, scal1, allSz, List.length_cons, List.length_nil, List.length_append, List.length_map, List.all_cons, List.all_nil, avs_len, beq_self_eq_true, Bool.and_self, and_self, or_true, true_or, reduceCtorEq, *]; done) | fail) only [c_ident_Split, go_sem, Nat.reduceAdd, Nat.reduceSub, Nat.reduceMul, Nat.reduceLT, Nat.reduceLeDiff, Int.reduceToNat, Nat.reduceEqDiff, Nat.reduceBEq, ↓reduceIte, reduceCtorEq, eA, scal1, List.all_cons, List.all_nil, Bool.and_self])
      exact doneW rfl (wk_tri (wk_leaf false) (wk_leaf false))
end Go.Proofs.Ytmokhopjnjecbab
/- The functions' bodies, compiled; printed by a program of mine (gen.py); that they are is checked here. -/
namespace Go.Proofs.Ytmokhopjnjecbab
open Go.Ev
set_option maxRecDepth 100000

/-- pedlar/event.greatest: parameters [42], results [.t 2], calls event_leaf, event_greatest -/
def c_event_greatest : Cd := (.seq (.reg [⟨(some 1), none, .box, [.t 0]⟩, ⟨(some 2), none, .mv, [.c (.int .i64 0)]⟩]) (.seq (.seq (.reg [⟨(some 3), none, (.ldn 2), [.t 1]⟩, ⟨(some 4), none, (.call F_event_leaf 0), [.t 3]⟩]) (.cond (.t 4) (.seq (.reg [⟨(some 5), none, (.fa 0), [.t 1]⟩, ⟨(some 6), none, .ld1, [.t 5]⟩, ⟨(some 2), none, .mv, [.t 6]⟩]) .ret) .skip)) (.seq (.reg [⟨(some 7), none, (.fa 0), [.t 1]⟩, ⟨(some 8), none, .ld1, [.t 7]⟩, ⟨(some 9), none, (.fa 1), [.t 1]⟩, ⟨(some 10), none, .ld1, [.t 9]⟩, ⟨(some 11), none, (.ixS 2), [.t 10, .c (.int .i64 0)]⟩, ⟨(some 12), none, (.ldn 2), [.t 11]⟩, ⟨(some 13), none, (.call F_event_greatest 0), [.t 12]⟩, ⟨(some 14), none, (.fa 1), [.t 1]⟩, ⟨(some 15), none, .ld1, [.t 14]⟩, ⟨(some 16), none, (.ixS 2), [.t 15, .c (.int .i64 1)]⟩, ⟨(some 17), none, (.ldn 2), [.t 16]⟩, ⟨(some 18), none, (.call F_event_greatest 0), [.t 17]⟩, ⟨(some 19), none, .mx, [.t 13, .t 18]⟩, ⟨(some 20), none, (.bin .add), [.t 8, .t 19]⟩, ⟨(some 2), none, .mv, [.t 20]⟩]) .ret)))
theorem comp_event_greatest : compF Try.prog (mset [] [] []) (cset [] [] []) (wset [] []) Try.f148 = some c_event_greatest := by kernel_rfl
theorem ok_event_greatest : fnOk Try.prog F_event_greatest = true := by kernel_rfl
theorem calls_event_greatest {args : List AV} {r : AV} (h : RunsX Try.prog 0 (Gives [.t 2] r) [.c c_event_greatest] (args ++ List.replicate (21 - args.length) (.tup [])) [] zeroC) : PCalls Try.prog F_event_greatest args r :=
  pcallsF Try.checked.mixed Try.func148 ok_event_greatest comp_event_greatest rfl (rs := [.t 2]) (by kernel_rfl) h
theorem hcalls_event_greatest {args : List AV} {Hin Hout : Heap} {nx nx2 : Ctr} {r : AV} (φ : Nat) (ks : List (Nat × Nat)) (h : RunsX Try.prog φ (GivesH ks [.t 2] r Hout nx2) [.c c_event_greatest] (args ++ List.replicate (21 - args.length) (.tup [])) Hin nx) : HCalls Try.prog F_event_greatest args Hin nx r Hout nx2 :=
  hcallsF Try.checked.mixed Try.func148 ok_event_greatest comp_event_greatest rfl (rs := [.t 2]) (by kernel_rfl) φ ks h

/-- pedlar/event.fill: parameters [24, 42], results [.cn 4 2], calls event_greatest, event_leaf, event_fill, event_node -/
def c_event_fill : Cd := (.seq (.reg [⟨(some 2), none, .box, [.t 0]⟩, ⟨(some 3), none, .box, [.t 1]⟩, ⟨(some 4), none, (.new [(.int .i64 0), .nils] 4), []⟩]) (.seq (.blk 0 [] (.seq (.reg [⟨(some 12), none, (.fa 1), [.t 2]⟩, ⟨(some 13), none, .ld1, [.t 12]⟩, ⟨(some 14), none, .len, [.t 13]⟩, ⟨(some 15), none, (.bin .eql), [.t 14, .c (.int .i64 0)]⟩, ⟨(some 16), none, .mv, [.t 15]⟩, ⟨(some 17), (some (16, true)), (.fa 0), [.t 2]⟩, ⟨(some 18), (some (16, true)), .ld1, [.t 17]⟩, ⟨(some 19), none, .pick, [.t 16, .t 18, .c (.bool false)]⟩, ⟨(some 11), none, .mv, [.t 19]⟩]) (.cond (.t 11) (.seq (.reg [⟨(some 20), none, (.ldn 2), [.t 3]⟩, ⟨(some 21), none, (.call F_event_greatest 0), [.t 20]⟩, ⟨(some 22), none, (.bld [(.int .i64 0), .nils] [(0, 1)]), [.t 21]⟩, ⟨none, none, (.st 2), [.t 4, .t 22]⟩]) .ret) (.seq (.reg [⟨(some 24), none, (.fa 1), [.t 2]⟩, ⟨(some 25), none, .ld1, [.t 24]⟩, ⟨(some 26), none, .len, [.t 25]⟩, ⟨(some 27), none, (.bin .eql), [.t 26, .c (.int .i64 0)]⟩, ⟨(some 28), none, .mv, [.t 27]⟩, ⟨(some 29), (some (28, false)), (.ldn 2), [.t 3]⟩, ⟨(some 30), (some (28, false)), (.call F_event_leaf 0), [.t 29]⟩, ⟨(some 31), none, .pick, [.t 28, .c (.bool true), .t 30]⟩, ⟨(some 23), none, .mv, [.t 31]⟩]) (.cond (.t 23) (.seq (.reg [⟨(some 32), none, (.ldn 2), [.t 3]⟩, ⟨none, none, (.st 2), [.t 4, .t 32]⟩]) .ret) .skip))))) (.seq (.reg [⟨(some 33), none, (.fa 1), [.t 3]⟩, ⟨(some 34), none, .ld1r, [.t 33]⟩, ⟨(some 35), none, (.ixS 2), [.t 34, .c (.int .i64 0)]⟩, ⟨(some 36), none, (.ldnr 2), [.t 35]⟩, ⟨(some 37), none, (.fa 1), [.t 3]⟩, ⟨(some 38), none, .ld1r, [.t 37]⟩, ⟨(some 39), none, (.ixS 2), [.t 38, .c (.int .i64 1)]⟩, ⟨(some 40), none, (.ldnr 2), [.t 39]⟩, ⟨(some 5), none, (.new [(.int .i64 0), .nils] 5), []⟩, ⟨(some 6), none, (.new [(.int .i64 0), .nils] 6), []⟩, ⟨none, none, (.stk 2 5), [.t 5, .t 36]⟩, ⟨none, none, (.stk 2 6), [.t 6, .t 40]⟩]) (.seq (.reg [⟨(some 41), none, (.fa 1), [.t 2]⟩, ⟨(some 42), none, .ld1r, [.t 41]⟩, ⟨(some 43), none, (.ixS 2), [.t 42, .c (.int .i64 0)]⟩, ⟨(some 44), none, (.ldnr 2), [.t 43]⟩, ⟨(some 45), none, (.fa 1), [.t 2]⟩, ⟨(some 46), none, .ld1r, [.t 45]⟩, ⟨(some 47), none, (.ixS 2), [.t 46, .c (.int .i64 1)]⟩, ⟨(some 48), none, (.ldnr 2), [.t 47]⟩, ⟨(some 7), none, (.new [(.bool false), .nils] 7), []⟩, ⟨(some 8), none, (.new [(.bool false), .nils] 8), []⟩, ⟨none, none, (.stk 2 7), [.t 7, .t 44]⟩, ⟨none, none, (.stk 2 8), [.t 8, .t 48]⟩]) (.seq (.blk 1 [] (.seq (.reg [⟨(some 50), none, (.fa 0), [.t 7]⟩, ⟨(some 51), none, .ld1, [.t 50]⟩, ⟨(some 49), none, .mv, [.t 51]⟩]) (.cond (.t 49) (.seq (.reg [⟨(some 52), none, (.ldn 2), [.t 8]⟩, ⟨(some 53), none, (.ldn 2), [.t 6]⟩, ⟨(some 54), none, (.call F_event_fill 0), [.t 52, .t 53]⟩, ⟨(some 9), none, (.new [(.int .i64 0), .nils] 9), []⟩, ⟨none, none, (.st 2), [.t 9, .t 54]⟩]) (.seq (.reg [⟨(some 55), none, (.fa 0), [.t 3]⟩, ⟨(some 56), none, .ld1, [.t 55]⟩, ⟨(some 57), none, (.ldn 2), [.t 5]⟩, ⟨(some 58), none, (.call F_event_greatest 0), [.t 57]⟩, ⟨(some 59), none, (.fa 0), [.t 9]⟩, ⟨(some 60), none, .ld1, [.t 59]⟩, ⟨(some 61), none, .mx, [.t 58, .t 60]⟩, ⟨(some 62), none, (.bld [(.int .i64 0), .nils] [(0, 1)]), [.t 61]⟩, ⟨(some 63), none, (.ldn 2), [.t 9]⟩, ⟨(some 64), none, (.call F_event_node 0), [.t 56, .t 62, .t 63]⟩, ⟨none, none, (.st 2), [.t 4, .t 64]⟩]) .ret)) (.seq (.reg [⟨(some 66), none, (.fa 0), [.t 8]⟩, ⟨(some 67), none, .ld1, [.t 66]⟩, ⟨(some 65), none, .mv, [.t 67]⟩]) (.cond (.t 65) (.seq (.reg [⟨(some 68), none, (.ldn 2), [.t 7]⟩, ⟨(some 69), none, (.ldn 2), [.t 5]⟩, ⟨(some 70), none, (.call F_event_fill 0), [.t 68, .t 69]⟩, ⟨(some 10), none, (.new [(.int .i64 0), .nils] 10), []⟩, ⟨none, none, (.st 2), [.t 10, .t 70]⟩]) (.seq (.reg [⟨(some 71), none, (.fa 0), [.t 3]⟩, ⟨(some 72), none, .ld1, [.t 71]⟩, ⟨(some 73), none, (.ldn 2), [.t 10]⟩, ⟨(some 74), none, (.ldn 2), [.t 6]⟩, ⟨(some 75), none, (.call F_event_greatest 0), [.t 74]⟩, ⟨(some 76), none, (.fa 0), [.t 10]⟩, ⟨(some 77), none, .ld1, [.t 76]⟩, ⟨(some 78), none, .mx, [.t 75, .t 77]⟩, ⟨(some 79), none, (.bld [(.int .i64 0), .nils] [(0, 1)]), [.t 78]⟩, ⟨(some 80), none, (.call F_event_node 0), [.t 72, .t 73, .t 79]⟩, ⟨none, none, (.st 2), [.t 4, .t 80]⟩]) .ret)) .skip))))) (.seq (.reg [⟨(some 81), none, (.fa 0), [.t 3]⟩, ⟨(some 82), none, .ld1, [.t 81]⟩, ⟨(some 83), none, (.ldn 2), [.t 7]⟩, ⟨(some 84), none, (.ldn 2), [.t 5]⟩, ⟨(some 85), none, (.call F_event_fill 0), [.t 83, .t 84]⟩, ⟨(some 86), none, (.ldn 2), [.t 8]⟩, ⟨(some 87), none, (.ldn 2), [.t 6]⟩, ⟨(some 88), none, (.call F_event_fill 0), [.t 86, .t 87]⟩, ⟨(some 89), none, (.call F_event_node 0), [.t 82, .t 85, .t 88]⟩, ⟨none, none, (.st 2), [.t 4, .t 89]⟩]) .ret))))))
theorem comp_event_fill : compF Try.prog (mset [] [34, 36, 38, 40, 42, 44, 46, 48] [5, 6, 7, 8]) (cset [] [] []) (wset [] []) Try.f100 = some c_event_fill := by kernel_rfl
theorem ok_event_fill : fnOk Try.prog F_event_fill = true := by kernel_rfl
theorem calls_event_fill {args : List AV} {r : AV} (h : RunsX Try.prog 0 (Gives [.cn 4 2] r) [.c c_event_fill] (args ++ List.replicate (90 - args.length) (.tup [])) [] zeroC) : PCalls Try.prog F_event_fill args r :=
  pcallsF Try.checked.mixed Try.func100 ok_event_fill comp_event_fill rfl (rs := [.cn 4 2]) (by kernel_rfl) h
theorem hcalls_event_fill {args : List AV} {Hin Hout : Heap} {nx nx2 : Ctr} {r : AV} (φ : Nat) (ks : List (Nat × Nat)) (h : RunsX Try.prog φ (GivesH ks [.cn 4 2] r Hout nx2) [.c c_event_fill] (args ++ List.replicate (90 - args.length) (.tup [])) Hin nx) : HCalls Try.prog F_event_fill args Hin nx r Hout nx2 :=
  hcallsF Try.checked.mixed Try.func100 ok_event_fill comp_event_fill rfl (rs := [.cn 4 2]) (by kernel_rfl) φ ks h

/-- pedlar/event.grow: parameters [24, 42], results [.cn 4 2, .t 5], calls event_lift, event_leaf, ident_Nothing, event_grow, event_node -/
def c_event_grow : Cd := (.seq (.reg [⟨(some 2), none, .box, [.t 0]⟩, ⟨(some 3), none, (.boxm 3), [.t 1]⟩, ⟨(some 4), none, (.new [(.int .i64 0), .nils] 4), []⟩, ⟨(some 5), none, .mv, [.c (.int .i64 0)]⟩]) (.seq (.seq (.reg [⟨(some 14), none, (.fa 1), [.t 2]⟩, ⟨(some 15), none, .ld1, [.t 14]⟩, ⟨(some 16), none, .len, [.t 15]⟩, ⟨(some 17), none, (.bin .eql), [.t 16, .c (.int .i64 0)]⟩]) (.cond (.t 17) (.seq (.reg [⟨(some 18), none, (.ldn 2), [.t 3]⟩, ⟨(some 19), none, (.call F_event_lift 0), [.t 18, .c (.int .i64 1)]⟩, ⟨none, none, (.st 2), [.t 4, .t 19]⟩, ⟨(some 5), none, .mv, [.c (.int .i64 0)]⟩]) .ret) .skip)) (.seq (.reg [⟨(some 6), none, .mv, [.c (.int .i64 0)]⟩]) (.seq (.seq (.reg [⟨(some 20), none, (.ldn 2), [.t 3]⟩, ⟨(some 21), none, (.call F_event_leaf 0), [.t 20]⟩]) (.cond (.t 21) (.seq (.reg [⟨(some 6), none, .mv, [.c (.int .i64 1000)]⟩]) (.reg [⟨(some 22), none, (.fa 0), [.t 3]⟩, ⟨(some 23), none, .ld1, [.t 22]⟩, ⟨(some 24), none, (.bld [(.int .i64 0), .nils] []), []⟩, ⟨(some 25), none, (.bld [(.int .i64 0), .nils] []), []⟩, ⟨(some 26), none, (.lit 2 2), [.t 24, .t 25]⟩, ⟨(some 27), none, (.bld [(.int .i64 0), .nils] [(0, 1), (1, 1)]), [.t 23, .t 26]⟩, ⟨none, none, (.st 2), [.t 3, .t 27]⟩])) .skip)) (.seq (.reg [⟨(some 28), none, (.fa 1), [.t 3]⟩, ⟨(some 29), none, (.ldk 3), [.t 28]⟩, ⟨(some 30), none, (.ixS 2), [.t 29, .c (.int .i64 0)]⟩, ⟨(some 31), none, (.ldnr 2), [.t 30]⟩, ⟨(some 32), none, (.fa 1), [.t 3]⟩, ⟨(some 33), none, (.ldk 3), [.t 32]⟩, ⟨(some 34), none, (.ixS 2), [.t 33, .c (.int .i64 1)]⟩, ⟨(some 35), none, (.ldnr 2), [.t 34]⟩, ⟨(some 7), none, (.new [(.int .i64 0), .nils] 7), []⟩, ⟨(some 8), none, (.new [(.int .i64 0), .nils] 8), []⟩, ⟨none, none, (.stk 2 7), [.t 7, .t 31]⟩, ⟨none, none, (.stk 2 8), [.t 8, .t 35]⟩]) (.seq (.reg [⟨(some 9), none, (.new [(.int .i64 0), .nils] 9), []⟩]) (.seq (.reg [⟨(some 10), none, .mv, [.c (.int .i64 0)]⟩]) (.seq (.reg [⟨(some 11), none, .mv, [.c (.bool false)]⟩]) (.seq (.blk 0 [] (.seq (.reg [⟨(some 60), none, (.fa 1), [.t 2]⟩, ⟨(some 61), none, .ld1, [.t 60]⟩, ⟨(some 62), none, (.ixS 2), [.t 61, .c (.int .i64 0)]⟩, ⟨(some 63), none, (.ldn 2), [.t 62]⟩, ⟨(some 64), none, (.call F_ident_Nothing 0), [.t 63]⟩, ⟨(some 59), none, .mv, [.t 64]⟩]) (.cond (.t 59) (.reg [⟨(some 66), none, (.fa 1), [.t 2]⟩, ⟨(some 67), none, .ld1, [.t 66]⟩, ⟨(some 68), none, (.ixS 2), [.t 67, .c (.int .i64 1)]⟩, ⟨(some 69), none, (.ldn 2), [.t 68]⟩, ⟨(some 70), none, (.ldn 2), [.t 8]⟩, ⟨(some 71), none, (.call F_event_grow 4), [.t 69, .t 70]⟩, ⟨(some 65), none, .mv, [.t 71]⟩, ⟨(some 72), none, (.ext 0), [.t 65]⟩, ⟨(some 73), none, (.ext 1), [.t 65]⟩, ⟨none, none, (.st 2), [.t 9, .t 72]⟩, ⟨(some 10), none, .mv, [.t 73]⟩]) (.seq (.reg [⟨(some 75), none, (.fa 1), [.t 2]⟩, ⟨(some 76), none, .ld1, [.t 75]⟩, ⟨(some 77), none, (.ixS 2), [.t 76, .c (.int .i64 1)]⟩, ⟨(some 78), none, (.ldn 2), [.t 77]⟩, ⟨(some 79), none, (.call F_ident_Nothing 0), [.t 78]⟩, ⟨(some 74), none, .mv, [.t 79]⟩]) (.cond (.t 74) (.seq (.reg [⟨(some 81), none, (.fa 1), [.t 2]⟩, ⟨(some 82), none, .ld1, [.t 81]⟩, ⟨(some 83), none, (.ixS 2), [.t 82, .c (.int .i64 0)]⟩, ⟨(some 84), none, (.ldn 2), [.t 83]⟩, ⟨(some 85), none, (.ldn 2), [.t 7]⟩, ⟨(some 86), none, (.call F_event_grow 4), [.t 84, .t 85]⟩, ⟨(some 80), none, .mv, [.t 86]⟩, ⟨(some 87), none, (.ext 0), [.t 80]⟩, ⟨(some 88), none, (.ext 1), [.t 80]⟩, ⟨none, none, (.st 2), [.t 9, .t 87]⟩, ⟨(some 10), none, .mv, [.t 88]⟩]) (.reg [⟨(some 11), none, .mv, [.c (.bool true)]⟩])) (.seq (.reg [⟨(some 37), none, (.fa 1), [.t 2]⟩, ⟨(some 38), none, .ld1r, [.t 37]⟩, ⟨(some 39), none, (.ixS 2), [.t 38, .c (.int .i64 0)]⟩, ⟨(some 40), none, (.ldnr 2), [.t 39]⟩, ⟨(some 41), none, (.ldnk 2 7), [.t 7]⟩, ⟨(some 42), none, (.call F_event_grow 4), [.t 40, .t 41]⟩, ⟨(some 36), none, .mv, [.t 42]⟩, ⟨(some 43), none, (.ext 0), [.t 36]⟩, ⟨(some 44), none, (.ext 1), [.t 36]⟩, ⟨(some 12), none, (.new [(.int .i64 0), .nils] 12), []⟩, ⟨none, none, (.stk 2 12), [.t 12, .t 43]⟩, ⟨(some 13), none, .mv, [.t 44]⟩]) (.seq (.reg [⟨(some 46), none, (.fa 1), [.t 2]⟩, ⟨(some 47), none, .ld1, [.t 46]⟩, ⟨(some 48), none, (.ixS 2), [.t 47, .c (.int .i64 1)]⟩, ⟨(some 49), none, (.ldn 2), [.t 48]⟩, ⟨(some 50), none, (.ldn 2), [.t 8]⟩, ⟨(some 51), none, (.call F_event_grow 4), [.t 49, .t 50]⟩, ⟨(some 45), none, .mv, [.t 51]⟩, ⟨(some 52), none, (.ext 0), [.t 45]⟩, ⟨(some 53), none, (.ext 1), [.t 45]⟩, ⟨none, none, (.st 2), [.t 9, .t 52]⟩, ⟨(some 10), none, .mv, [.t 53]⟩]) (.seq (.reg [⟨(some 54), none, .mv, [.t 13]⟩, ⟨(some 55), none, .mv, [.t 10]⟩, ⟨(some 56), none, (.bin .lss), [.t 54, .t 55]⟩]) (.cond (.t 56) (.reg [⟨(some 57), none, (.ldn 2), [.t 12]⟩, ⟨(some 58), none, .mv, [.t 13]⟩, ⟨none, none, (.st 2), [.t 9, .t 57]⟩, ⟨(some 10), none, .mv, [.t 58]⟩, ⟨(some 11), none, .mv, [.c (.bool true)]⟩]) .skip))))))))) (.seq (.seq (.reg [⟨(some 89), none, .mv, [.t 11]⟩]) (.cond (.t 89) (.seq (.reg [⟨(some 90), none, (.fa 0), [.t 3]⟩, ⟨(some 91), none, .ld1, [.t 90]⟩, ⟨(some 92), none, (.ldn 2), [.t 9]⟩, ⟨(some 93), none, (.ldn 2), [.t 8]⟩, ⟨(some 94), none, (.call F_event_node 0), [.t 91, .t 92, .t 93]⟩, ⟨(some 95), none, .mv, [.t 10]⟩, ⟨(some 96), none, (.bin .add), [.t 95, .c (.int .i64 1)]⟩, ⟨(some 97), none, .mv, [.t 6]⟩, ⟨(some 98), none, (.bin .add), [.t 96, .t 97]⟩, ⟨none, none, (.st 2), [.t 4, .t 94]⟩, ⟨(some 5), none, .mv, [.t 98]⟩]) .ret) .skip)) (.seq (.reg [⟨(some 99), none, (.fa 0), [.t 3]⟩, ⟨(some 100), none, .ld1, [.t 99]⟩, ⟨(some 101), none, (.ldn 2), [.t 7]⟩, ⟨(some 102), none, (.ldn 2), [.t 9]⟩, ⟨(some 103), none, (.call F_event_node 0), [.t 100, .t 101, .t 102]⟩, ⟨(some 104), none, .mv, [.t 10]⟩, ⟨(some 105), none, (.bin .add), [.t 104, .c (.int .i64 1)]⟩, ⟨(some 106), none, .mv, [.t 6]⟩, ⟨(some 107), none, (.bin .add), [.t 105, .t 106]⟩, ⟨none, none, (.st 2), [.t 4, .t 103]⟩, ⟨(some 5), none, .mv, [.t 107]⟩]) .ret)))))))))))
theorem comp_event_grow : compF Try.prog (mset [3] [29, 31, 33, 35, 38, 40, 41] [7, 8, 12] [(28, 3), (32, 3)]) (cset [] [] [] [F_event_grow]) (wset [] []) Try.f102 = some c_event_grow := by kernel_rfl
theorem ok_event_grow : fnOk Try.prog F_event_grow = true := by kernel_rfl
theorem calls_event_grow {args : List AV} {r : AV} (h : RunsX Try.prog 0 (Gives [.cn 4 2, .t 5] r) [.c c_event_grow] (args ++ List.replicate (108 - args.length) (.tup [])) [] zeroC) : PCalls Try.prog F_event_grow args r :=
  pcallsF Try.checked.mixed Try.func102 ok_event_grow comp_event_grow rfl (rs := [.cn 4 2, .t 5]) (by kernel_rfl) h
theorem hcalls_event_grow {args : List AV} {Hin Hout : Heap} {nx nx2 : Ctr} {r : AV} (φ : Nat) (ks : List (Nat × Nat)) (h : RunsX Try.prog φ (GivesH ks [.cn 4 2, .t 5] r Hout nx2) [.c c_event_grow] (args ++ List.replicate (108 - args.length) (.tup [])) Hin nx) : HCalls Try.prog F_event_grow args Hin nx r Hout nx2 :=
  hcallsF Try.checked.mixed Try.func102 ok_event_grow comp_event_grow rfl (rs := [.cn 4 2, .t 5]) (by kernel_rfl) φ ks h

/-- pedlar/event.Tell: parameters [24, 42], results [.cn 4 2, .t 5], calls ident_Right, ident_Nothing, event_Right, event_fill, event_Same, event_grow, event_told -/
def c_event_Tell : Cd := (.seq (.reg [⟨(some 2), none, .box, [.t 0]⟩, ⟨(some 3), none, .box, [.t 1]⟩, ⟨(some 4), none, (.new [(.int .i64 0), .nils] 4), []⟩, ⟨(some 5), none, .mv, [.c (.int .i64 0)]⟩]) (.seq (.seq (.reg [⟨(some 7), none, (.ldn 2), [.t 2]⟩, ⟨(some 8), none, (.call F_ident_Right 0), [.t 7]⟩, ⟨(some 9), none, .not, [.t 8]⟩, ⟨(some 10), none, .mv, [.t 9]⟩, ⟨(some 11), (some (10, false)), (.ldn 2), [.t 2]⟩, ⟨(some 12), (some (10, false)), (.call F_ident_Nothing 0), [.t 11]⟩, ⟨(some 13), none, .pick, [.t 10, .c (.bool true), .t 12]⟩, ⟨(some 14), none, .mv, [.t 13]⟩, ⟨(some 15), (some (14, false)), (.ldn 2), [.t 3]⟩, ⟨(some 16), (some (14, false)), (.call F_event_Right 0), [.t 15]⟩, ⟨(some 17), (some (14, false)), .not, [.t 16]⟩, ⟨(some 18), none, .pick, [.t 14, .c (.bool true), .t 17]⟩]) (.cond (.t 18) (.seq (.reg [⟨(some 19), none, (.bld [(.int .i64 0), .nils] []), []⟩, ⟨none, none, (.st 2), [.t 4, .t 19]⟩, ⟨(some 5), none, .mv, [.c (.int .i64 1)]⟩]) .ret) .skip)) (.seq (.reg [⟨(some 20), none, (.ldn 2), [.t 2]⟩, ⟨(some 21), none, (.ldn 2), [.t 3]⟩, ⟨(some 22), none, (.call F_event_fill 0), [.t 20, .t 21]⟩, ⟨(some 6), none, (.new [(.int .i64 0), .nils] 6), []⟩, ⟨none, none, (.st 2), [.t 6, .t 22]⟩]) (.seq (.seq (.reg [⟨(some 23), none, (.ldn 2), [.t 6]⟩, ⟨(some 24), none, (.ldn 2), [.t 3]⟩, ⟨(some 25), none, (.call F_event_Same 0), [.t 23, .t 24]⟩]) (.cond (.t 25) (.reg [⟨(some 27), none, (.ldn 2), [.t 2]⟩, ⟨(some 28), none, (.ldn 2), [.t 3]⟩, ⟨(some 29), none, (.call F_event_grow 0), [.t 27, .t 28]⟩, ⟨(some 26), none, .mv, [.t 29]⟩, ⟨(some 30), none, (.ext 0), [.t 26]⟩, ⟨(some 31), none, (.ext 1), [.t 26]⟩, ⟨none, none, (.st 2), [.t 6, .t 30]⟩]) .skip)) (.seq (.reg [⟨(some 32), none, (.ldn 2), [.t 6]⟩, ⟨(some 33), none, (.call F_event_told 0), [.t 32]⟩, ⟨(some 34), none, (.ext 0), [.t 33]⟩, ⟨(some 35), none, (.ext 1), [.t 33]⟩, ⟨none, none, (.st 2), [.t 4, .t 34]⟩, ⟨(some 5), none, .mv, [.t 35]⟩]) .ret)))))
theorem comp_event_Tell : compF Try.prog (mset [] [] []) (cset [] [] []) (wset [] []) Try.f36 = some c_event_Tell := by kernel_rfl
theorem ok_event_Tell : fnOk Try.prog F_event_Tell = true := by kernel_rfl
theorem calls_event_Tell {args : List AV} {r : AV} (h : RunsX Try.prog 0 (Gives [.cn 4 2, .t 5] r) [.c c_event_Tell] (args ++ List.replicate (36 - args.length) (.tup [])) [] zeroC) : PCalls Try.prog F_event_Tell args r :=
  pcallsF Try.checked.mixed Try.func36 ok_event_Tell comp_event_Tell rfl (rs := [.cn 4 2, .t 5]) (by kernel_rfl) h
theorem hcalls_event_Tell {args : List AV} {Hin Hout : Heap} {nx nx2 : Ctr} {r : AV} (φ : Nat) (ks : List (Nat × Nat)) (h : RunsX Try.prog φ (GivesH ks [.cn 4 2, .t 5] r Hout nx2) [.c c_event_Tell] (args ++ List.replicate (36 - args.length) (.tup [])) Hin nx) : HCalls Try.prog F_event_Tell args Hin nx r Hout nx2 :=
  hcallsF Try.checked.mixed Try.func36 ok_event_Tell comp_event_Tell rfl (rs := [.cn 4 2, .t 5]) (by kernel_rfl) φ ks h

/-- pedlar/pedlarref04.flat: parameters [2, 3], results [.t 4], calls  -/
def wl_ref04_flat_0 : Mk := ⟨[false, true, true, true, true, false, true, true, true, true, false, false, true, true, true, true, true, true, true, true], []⟩
abbrev s_ref04_flat_0 (t0 t5 t10 t11 : AV) : List AV := [t0, .any, .any, .any, .any, t5, .any, .any, .any, .any, t10, t11, .any, .any, .any, .any, .any, .any, .any, .any]
def c_ref04_flat_l0 : Cd := (.seq (.reg [⟨(some 12), none, (.bin .lss), [.t 11, .t 10]⟩]) (.seq (.cond (.t 12) .skip (.exit 0)) (.seq (.blk 1 [] (.seq (.reg [⟨(some 13), none, .mv, [.t 11]⟩, ⟨(some 6), none, .mv, [.t 13]⟩]) (.reg [⟨(some 14), none, .mv, [.t 5]⟩, ⟨(some 15), none, .mv, [.t 6]⟩, ⟨(some 16), none, .mv, [.t 0]⟩, ⟨(some 17), none, (.ixS 1), [.t 14, .t 15]⟩, ⟨none, none, (.st 1), [.t 17, .t 16]⟩]))) (.reg [⟨(some 18), none, (.bin .add), [.t 11, .c (.int .i64 1)]⟩, ⟨(some 11), none, .mv, [.t 18]⟩]))))
def wb_ref04_flat_0 : List Bool := [true, true, true, true, true, false, true, true, true, true, true, true, true, true, true, true, true, true, true, true]
abbrev e_ref04_flat_0 (t5 : AV) : List AV := [.any, .any, .any, .any, .any, t5, .any, .any, .any, .any, .any, .any, .any, .any, .any, .any, .any, .any, .any, .any]
abbrev i_ref04_flat_0 : List It := [.lp wl_ref04_flat_0 c_ref04_flat_l0, .blk 0 wb_ref04_flat_0]
def c_ref04_flat_k0 : Cd := (.seq (.reg [⟨(some 19), none, .mv, [.t 5]⟩, ⟨(some 4), none, .mv, [.t 19]⟩]) .ret)
def c_ref04_flat : Cd := (.seq (.reg [⟨(some 4), none, .mv, [.c .nils]⟩]) (.seq (.reg [⟨(some 7), none, .mv, [.t 1]⟩, ⟨(some 8), none, (.mk (.int .i64 0) 8 8), [.t 7]⟩, ⟨(some 5), none, .mv, [.t 8]⟩]) (.seq (.seq (.reg [⟨(some 9), none, .mv, [.t 5]⟩, ⟨(some 10), none, .len, [.t 9]⟩, ⟨(some 11), none, .mv, [.c (.int .i64 0)]⟩]) (.blk 0 wb_ref04_flat_0 (.loop wl_ref04_flat_0 c_ref04_flat_l0))) c_ref04_flat_k0)))
theorem comp_ref04_flat : compF Try.prog (mset [] [] []) (cset [] [] []) (wset [(0, wl_ref04_flat_0, wb_ref04_flat_0)] []) Try.f153 = some c_ref04_flat := by kernel_rfl
theorem ok_ref04_flat : fnOk Try.prog F_ref04_flat = true := by kernel_rfl
theorem calls_ref04_flat {args : List AV} {r : AV} (h : RunsX Try.prog 0 (Gives [.t 4] r) [.c c_ref04_flat] (args ++ List.replicate (20 - args.length) (.tup [])) [] zeroC) : PCalls Try.prog F_ref04_flat args r :=
  pcallsF Try.checked.mixed Try.func153 ok_ref04_flat comp_ref04_flat rfl (rs := [.t 4]) (by kernel_rfl) h
theorem hcalls_ref04_flat {args : List AV} {Hin Hout : Heap} {nx nx2 : Ctr} {r : AV} (φ : Nat) (ks : List (Nat × Nat)) (h : RunsX Try.prog φ (GivesH ks [.t 4] r Hout nx2) [.c c_ref04_flat] (args ++ List.replicate (20 - args.length) (.tup [])) Hin nx) : HCalls Try.prog F_ref04_flat args Hin nx r Hout nx2 :=
  hcallsF Try.checked.mixed Try.func153 ok_ref04_flat comp_ref04_flat rfl (rs := [.t 4]) (by kernel_rfl) φ ks h

/-- pedlar/pedlarref04.fill: parameters [24, 65], results [.t 4], calls ref04_most, ref04_flat, ref04_least, ref04_fill -/
def c_ref04_fill : Cd := (.seq (.reg [⟨(some 2), none, .box, [.t 0]⟩, ⟨(some 4), none, .mv, [.c .nils]⟩]) (.seq (.seq (.reg [⟨(some 8), none, (.fa 1), [.t 2]⟩, ⟨(some 9), none, .ld1, [.t 8]⟩, ⟨(some 10), none, .len, [.t 9]⟩, ⟨(some 11), none, (.bin .eql), [.t 10, .c (.int .i64 0)]⟩, ⟨(some 12), none, .mv, [.t 11]⟩, ⟨(some 13), (some (12, true)), (.fa 0), [.t 2]⟩, ⟨(some 14), (some (12, true)), .ld1, [.t 13]⟩, ⟨(some 15), none, .pick, [.t 12, .t 14, .c (.bool false)]⟩]) (.cond (.t 15) (.seq (.reg [⟨(some 16), none, .mv, [.t 1]⟩, ⟨(some 17), none, (.call F_ref04_most 0), [.t 16]⟩, ⟨(some 18), none, .mv, [.t 1]⟩, ⟨(some 19), none, .len, [.t 18]⟩, ⟨(some 20), none, (.call F_ref04_flat 0), [.t 17, .t 19]⟩, ⟨(some 4), none, .mv, [.t 20]⟩]) .ret) .skip)) (.seq (.seq (.reg [⟨(some 21), none, (.fa 1), [.t 2]⟩, ⟨(some 22), none, .ld1, [.t 21]⟩, ⟨(some 23), none, .len, [.t 22]⟩, ⟨(some 24), none, (.bin .eql), [.t 23, .c (.int .i64 0)]⟩, ⟨(some 25), none, .mv, [.t 24]⟩, ⟨(some 26), (some (25, false)), .mv, [.t 1]⟩, ⟨(some 27), (some (25, false)), (.call F_ref04_least 0), [.t 26]⟩, ⟨(some 28), (some (25, false)), .mv, [.t 1]⟩, ⟨(some 29), (some (25, false)), (.call F_ref04_most 0), [.t 28]⟩, ⟨(some 30), (some (25, false)), (.bin .eql), [.t 27, .t 29]⟩, ⟨(some 31), none, .pick, [.t 25, .c (.bool true), .t 30]⟩]) (.cond (.t 31) (.seq (.reg [⟨(some 32), none, .mv, [.t 1]⟩, ⟨(some 4), none, .mv, [.t 32]⟩]) .ret) .skip)) (.seq (.reg [⟨(some 33), none, .mv, [.t 1]⟩, ⟨(some 34), none, .len, [.t 33]⟩, ⟨(some 35), none, (.bin .quo), [.t 34, .c (.int .i64 2)]⟩, ⟨(some 5), none, .mv, [.t 35]⟩]) (.seq (.reg [⟨(some 36), none, .mv, [.t 1]⟩, ⟨(some 37), none, .mv, [.t 5]⟩, ⟨(some 38), none, (.slc 1 false true false), [.t 36, .t 37]⟩, ⟨(some 39), none, .mv, [.t 1]⟩, ⟨(some 40), none, .mv, [.t 5]⟩, ⟨(some 41), none, (.slc 1 true false false), [.t 39, .t 40]⟩, ⟨(some 6), none, .mv, [.t 38]⟩, ⟨(some 7), none, .mv, [.t 41]⟩]) (.seq (.blk 0 [] (.seq (.reg [⟨(some 55), none, (.fa 1), [.t 2]⟩, ⟨(some 56), none, .ld1, [.t 55]⟩, ⟨(some 57), none, (.ixS 2), [.t 56, .c (.int .i64 0)]⟩, ⟨(some 58), none, (.fa 0), [.t 57]⟩, ⟨(some 59), none, .ld1, [.t 58]⟩, ⟨(some 54), none, .mv, [.t 59]⟩]) (.cond (.t 54) (.seq (.reg [⟨(some 60), none, (.fa 1), [.t 2]⟩, ⟨(some 61), none, .ld1, [.t 60]⟩, ⟨(some 62), none, (.ixS 2), [.t 61, .c (.int .i64 1)]⟩, ⟨(some 63), none, (.ldn 2), [.t 62]⟩, ⟨(some 64), none, .mv, [.t 7]⟩, ⟨(some 65), none, (.call F_ref04_fill 0), [.t 63, .t 64]⟩, ⟨(some 7), none, .mv, [.t 65]⟩]) (.reg [⟨(some 66), none, .mv, [.t 6]⟩, ⟨(some 67), none, (.call F_ref04_most 0), [.t 66]⟩, ⟨(some 68), none, .mv, [.t 7]⟩, ⟨(some 69), none, (.call F_ref04_least 0), [.t 68]⟩, ⟨(some 70), none, .mx, [.t 67, .t 69]⟩, ⟨(some 71), none, .mv, [.t 5]⟩, ⟨(some 72), none, (.call F_ref04_flat 0), [.t 70, .t 71]⟩, ⟨(some 6), none, .mv, [.t 72]⟩])) (.seq (.reg [⟨(some 74), none, (.fa 1), [.t 2]⟩, ⟨(some 75), none, .ld1, [.t 74]⟩, ⟨(some 76), none, (.ixS 2), [.t 75, .c (.int .i64 1)]⟩, ⟨(some 77), none, (.fa 0), [.t 76]⟩, ⟨(some 78), none, .ld1, [.t 77]⟩, ⟨(some 73), none, .mv, [.t 78]⟩]) (.cond (.t 73) (.seq (.reg [⟨(some 79), none, (.fa 1), [.t 2]⟩, ⟨(some 80), none, .ld1, [.t 79]⟩, ⟨(some 81), none, (.ixS 2), [.t 80, .c (.int .i64 0)]⟩, ⟨(some 82), none, (.ldn 2), [.t 81]⟩, ⟨(some 83), none, .mv, [.t 6]⟩, ⟨(some 84), none, (.call F_ref04_fill 0), [.t 82, .t 83]⟩, ⟨(some 6), none, .mv, [.t 84]⟩]) (.reg [⟨(some 85), none, .mv, [.t 7]⟩, ⟨(some 86), none, (.call F_ref04_most 0), [.t 85]⟩, ⟨(some 87), none, .mv, [.t 6]⟩, ⟨(some 88), none, (.call F_ref04_least 0), [.t 87]⟩, ⟨(some 89), none, .mx, [.t 86, .t 88]⟩, ⟨(some 90), none, .mv, [.t 5]⟩, ⟨(some 91), none, (.call F_ref04_flat 0), [.t 89, .t 90]⟩, ⟨(some 7), none, .mv, [.t 91]⟩])) (.reg [⟨(some 42), none, (.fa 1), [.t 2]⟩, ⟨(some 43), none, .ld1, [.t 42]⟩, ⟨(some 44), none, (.ixS 2), [.t 43, .c (.int .i64 0)]⟩, ⟨(some 45), none, (.ldn 2), [.t 44]⟩, ⟨(some 46), none, .mv, [.t 6]⟩, ⟨(some 47), none, (.call F_ref04_fill 0), [.t 45, .t 46]⟩, ⟨(some 48), none, (.fa 1), [.t 2]⟩, ⟨(some 49), none, .ld1, [.t 48]⟩, ⟨(some 50), none, (.ixS 2), [.t 49, .c (.int .i64 1)]⟩, ⟨(some 51), none, (.ldn 2), [.t 50]⟩, ⟨(some 52), none, .mv, [.t 7]⟩, ⟨(some 53), none, (.call F_ref04_fill 0), [.t 51, .t 52]⟩, ⟨(some 6), none, .mv, [.t 47]⟩, ⟨(some 7), none, .mv, [.t 53]⟩])))))) (.seq (.reg [⟨(some 92), none, (.lit 1 0), []⟩, ⟨(some 93), none, .mv, [.t 6]⟩, ⟨(some 94), none, (.app 1 8 94), [.t 92, .t 93]⟩, ⟨(some 95), none, .mv, [.t 7]⟩, ⟨(some 96), none, (.app 1 8 96), [.t 94, .t 95]⟩, ⟨(some 4), none, .mv, [.t 96]⟩]) .ret)))))))
theorem comp_ref04_fill : compF Try.prog (mset [] [] []) (cset [] [] []) (wset [] []) Try.f106 = some c_ref04_fill := by kernel_rfl
theorem ok_ref04_fill : fnOk Try.prog F_ref04_fill = true := by kernel_rfl
theorem calls_ref04_fill {args : List AV} {r : AV} (h : RunsX Try.prog 0 (Gives [.t 4] r) [.c c_ref04_fill] (args ++ List.replicate (97 - args.length) (.tup [])) [] zeroC) : PCalls Try.prog F_ref04_fill args r :=
  pcallsF Try.checked.mixed Try.func106 ok_ref04_fill comp_ref04_fill rfl (rs := [.t 4]) (by kernel_rfl) h
theorem hcalls_ref04_fill {args : List AV} {Hin Hout : Heap} {nx nx2 : Ctr} {r : AV} (φ : Nat) (ks : List (Nat × Nat)) (h : RunsX Try.prog φ (GivesH ks [.t 4] r Hout nx2) [.c c_ref04_fill] (args ++ List.replicate (97 - args.length) (.tup [])) Hin nx) : HCalls Try.prog F_ref04_fill args Hin nx r Hout nx2 :=
  hcallsF Try.checked.mixed Try.func106 ok_ref04_fill comp_ref04_fill rfl (rs := [.t 4]) (by kernel_rfl) φ ks h

/-- pedlar/pedlarref04.grow: parameters [24, 65], results [.t 4, .t 5], calls ref04_flat, ref04_least, ref04_most, ref04_Same, ref04_grow -/
def c_ref04_grow : Cd := (.seq (.reg [⟨(some 2), none, .box, [.t 0]⟩, ⟨(some 4), none, .mv, [.c .nils]⟩, ⟨(some 5), none, .mv, [.c (.int .i64 0)]⟩]) (.seq (.seq (.reg [⟨(some 16), none, (.fa 1), [.t 2]⟩, ⟨(some 17), none, .ld1, [.t 16]⟩, ⟨(some 18), none, .len, [.t 17]⟩, ⟨(some 19), none, (.bin .eql), [.t 18, .c (.int .i64 0)]⟩]) (.cond (.t 19) (.seq (.reg [⟨(some 20), none, .mv, [.t 1]⟩, ⟨(some 21), none, (.ixS 1), [.t 20, .c (.int .i64 0)]⟩, ⟨(some 22), none, .ld1, [.t 21]⟩, ⟨(some 23), none, (.bin .add), [.t 22, .c (.int .i64 1)]⟩, ⟨(some 24), none, .mv, [.t 1]⟩, ⟨(some 25), none, .len, [.t 24]⟩, ⟨(some 26), none, (.call F_ref04_flat 0), [.t 23, .t 25]⟩, ⟨(some 4), none, .mv, [.t 26]⟩, ⟨(some 5), none, .mv, [.c (.int .i64 0)]⟩]) .ret) .skip)) (.seq (.reg [⟨(some 6), none, .mv, [.c (.int .i64 1)]⟩]) (.seq (.seq (.reg [⟨(some 27), none, .mv, [.t 1]⟩, ⟨(some 28), none, (.call F_ref04_least 0), [.t 27]⟩, ⟨(some 29), none, .mv, [.t 1]⟩, ⟨(some 30), none, (.call F_ref04_most 0), [.t 29]⟩, ⟨(some 31), none, (.bin .eql), [.t 28, .t 30]⟩]) (.cond (.t 31) (.reg [⟨(some 6), none, .mv, [.c (.int .i64 1001)]⟩]) .skip)) (.seq (.reg [⟨(some 32), none, .mv, [.t 1]⟩, ⟨(some 33), none, .len, [.t 32]⟩, ⟨(some 34), none, (.bin .quo), [.t 33, .c (.int .i64 2)]⟩, ⟨(some 7), none, .mv, [.t 34]⟩]) (.seq (.reg [⟨(some 35), none, .mv, [.t 1]⟩, ⟨(some 36), none, .mv, [.t 7]⟩, ⟨(some 37), none, (.slc 1 false true false), [.t 35, .t 36]⟩, ⟨(some 38), none, .mv, [.t 1]⟩, ⟨(some 39), none, .mv, [.t 7]⟩, ⟨(some 40), none, (.slc 1 true false false), [.t 38, .t 39]⟩, ⟨(some 8), none, .mv, [.t 37]⟩, ⟨(some 9), none, .mv, [.t 40]⟩]) (.seq (.reg [⟨(some 41), none, (.bld [(.bool false), .nils] []), []⟩, ⟨(some 10), none, (.new [(.bool false), .nils] 10), []⟩, ⟨none, none, (.st 2), [.t 10, .t 41]⟩]) (.seq (.reg [⟨(some 42), none, (.fa 1), [.t 2]⟩, ⟨(some 43), none, .ld1, [.t 42]⟩, ⟨(some 44), none, (.ixS 2), [.t 43, .c (.int .i64 1)]⟩, ⟨(some 45), none, (.ldn 2), [.t 44]⟩, ⟨(some 46), none, (.ldn 2), [.t 10]⟩, ⟨(some 47), none, (.call F_ref04_Same 0), [.t 45, .t 46]⟩, ⟨(some 11), none, .mv, [.t 47]⟩]) (.seq (.reg [⟨(some 48), none, (.lit 1 0), []⟩, ⟨(some 12), none, .mv, [.t 48]⟩, ⟨(some 13), none, .mv, [.c (.int .i64 0)]⟩]) (.seq (.seq (.reg [⟨(some 49), none, (.fa 1), [.t 2]⟩, ⟨(some 50), none, .ld1, [.t 49]⟩, ⟨(some 51), none, (.ixS 2), [.t 50, .c (.int .i64 0)]⟩, ⟨(some 52), none, (.ldn 2), [.t 51]⟩, ⟨(some 53), none, (.ldn 2), [.t 10]⟩, ⟨(some 54), none, (.call F_ref04_Same 0), [.t 52, .t 53]⟩, ⟨(some 55), none, .not, [.t 54]⟩]) (.cond (.t 55) (.reg [⟨(some 57), none, (.fa 1), [.t 2]⟩, ⟨(some 58), none, .ld1, [.t 57]⟩, ⟨(some 59), none, (.ixS 2), [.t 58, .c (.int .i64 0)]⟩, ⟨(some 60), none, (.ldn 2), [.t 59]⟩, ⟨(some 61), none, .mv, [.t 8]⟩, ⟨(some 62), none, (.call F_ref04_grow 0), [.t 60, .t 61]⟩, ⟨(some 56), none, .mv, [.t 62]⟩, ⟨(some 63), none, (.ext 0), [.t 56]⟩, ⟨(some 64), none, (.ext 1), [.t 56]⟩, ⟨(some 12), none, .mv, [.t 63]⟩, ⟨(some 13), none, .mv, [.t 64]⟩]) .skip)) (.seq (.seq (.reg [⟨(some 65), none, .mv, [.t 11]⟩, ⟨(some 66), none, .not, [.t 65]⟩]) (.cond (.t 66) (.seq (.reg [⟨(some 68), none, (.fa 1), [.t 2]⟩, ⟨(some 69), none, .ld1, [.t 68]⟩, ⟨(some 70), none, (.ixS 2), [.t 69, .c (.int .i64 1)]⟩, ⟨(some 71), none, (.ldn 2), [.t 70]⟩, ⟨(some 72), none, .mv, [.t 9]⟩, ⟨(some 73), none, (.call F_ref04_grow 0), [.t 71, .t 72]⟩, ⟨(some 67), none, .mv, [.t 73]⟩, ⟨(some 74), none, (.ext 0), [.t 67]⟩, ⟨(some 75), none, (.ext 1), [.t 67]⟩, ⟨(some 14), none, .mv, [.t 74]⟩, ⟨(some 15), none, .mv, [.t 75]⟩]) (.seq (.reg [⟨(some 76), none, (.fa 1), [.t 2]⟩, ⟨(some 77), none, .ld1, [.t 76]⟩, ⟨(some 78), none, (.ixS 2), [.t 77, .c (.int .i64 0)]⟩, ⟨(some 79), none, (.ldn 2), [.t 78]⟩, ⟨(some 80), none, (.ldn 2), [.t 10]⟩, ⟨(some 81), none, (.call F_ref04_Same 0), [.t 79, .t 80]⟩, ⟨(some 82), none, .mv, [.t 81]⟩, ⟨(some 83), (some (82, false)), .mv, [.t 15]⟩, ⟨(some 84), (some (82, false)), .mv, [.t 13]⟩, ⟨(some 85), (some (82, false)), (.bin .leq), [.t 83, .t 84]⟩, ⟨(some 86), none, .pick, [.t 82, .c (.bool true), .t 85]⟩]) (.cond (.t 86) (.seq (.reg [⟨(some 87), none, (.lit 1 0), []⟩, ⟨(some 88), none, .mv, [.t 8]⟩, ⟨(some 89), none, (.app 1 8 89), [.t 87, .t 88]⟩, ⟨(some 90), none, .mv, [.t 14]⟩, ⟨(some 91), none, (.app 1 8 91), [.t 89, .t 90]⟩, ⟨(some 92), none, .mv, [.t 6]⟩, ⟨(some 93), none, .mv, [.t 15]⟩, ⟨(some 94), none, (.bin .add), [.t 92, .t 93]⟩, ⟨(some 4), none, .mv, [.t 91]⟩, ⟨(some 5), none, .mv, [.t 94]⟩]) .ret) .skip))) .skip)) (.seq (.reg [⟨(some 95), none, (.lit 1 0), []⟩, ⟨(some 96), none, .mv, [.t 12]⟩, ⟨(some 97), none, (.app 1 8 97), [.t 95, .t 96]⟩, ⟨(some 98), none, .mv, [.t 9]⟩, ⟨(some 99), none, (.app 1 8 99), [.t 97, .t 98]⟩, ⟨(some 100), none, .mv, [.t 6]⟩, ⟨(some 101), none, .mv, [.t 13]⟩, ⟨(some 102), none, (.bin .add), [.t 100, .t 101]⟩, ⟨(some 4), none, .mv, [.t 99]⟩, ⟨(some 5), none, .mv, [.t 102]⟩]) .ret))))))))))))
theorem comp_ref04_grow : compF Try.prog (mset [] [] []) (cset [] [] []) (wset [] []) Try.f108 = some c_ref04_grow := by kernel_rfl
theorem ok_ref04_grow : fnOk Try.prog F_ref04_grow = true := by kernel_rfl
theorem calls_ref04_grow {args : List AV} {r : AV} (h : RunsX Try.prog 0 (Gives [.t 4, .t 5] r) [.c c_ref04_grow] (args ++ List.replicate (103 - args.length) (.tup [])) [] zeroC) : PCalls Try.prog F_ref04_grow args r :=
  pcallsF Try.checked.mixed Try.func108 ok_ref04_grow comp_ref04_grow rfl (rs := [.t 4, .t 5]) (by kernel_rfl) h
theorem hcalls_ref04_grow {args : List AV} {Hin Hout : Heap} {nx nx2 : Ctr} {r : AV} (φ : Nat) (ks : List (Nat × Nat)) (h : RunsX Try.prog φ (GivesH ks [.t 4, .t 5] r Hout nx2) [.c c_ref04_grow] (args ++ List.replicate (103 - args.length) (.tup [])) Hin nx) : HCalls Try.prog F_ref04_grow args Hin nx r Hout nx2 :=
  hcallsF Try.checked.mixed Try.func108 ok_ref04_grow comp_ref04_grow rfl (rs := [.t 4, .t 5]) (by kernel_rfl) φ ks h

/-- pedlar/pedlarref04.Tell: parameters [24, 65], results [.t 4], calls ref04_fill, ref04_equal, ref04_grow -/
def c_ref04_Tell : Cd := (.seq (.reg [⟨(some 2), none, .box, [.t 0]⟩, ⟨(some 4), none, .mv, [.c .nils]⟩]) (.seq (.reg [⟨(some 8), none, (.ldn 2), [.t 2]⟩, ⟨(some 9), none, .mv, [.t 1]⟩, ⟨(some 10), none, (.call F_ref04_fill 0), [.t 8, .t 9]⟩, ⟨(some 5), none, .mv, [.t 10]⟩]) (.seq (.seq (.reg [⟨(some 11), none, .mv, [.t 5]⟩, ⟨(some 12), none, .mv, [.t 1]⟩, ⟨(some 13), none, (.call F_ref04_equal 0), [.t 11, .t 12]⟩, ⟨(some 14), none, .not, [.t 13]⟩]) (.cond (.t 14) (.seq (.reg [⟨(some 15), none, .mv, [.t 5]⟩, ⟨(some 4), none, .mv, [.t 15]⟩]) .ret) .skip)) (.seq (.reg [⟨(some 17), none, (.ldn 2), [.t 2]⟩, ⟨(some 18), none, .mv, [.t 1]⟩, ⟨(some 19), none, (.call F_ref04_grow 0), [.t 17, .t 18]⟩, ⟨(some 16), none, .mv, [.t 19]⟩, ⟨(some 20), none, (.ext 0), [.t 16]⟩, ⟨(some 21), none, (.ext 1), [.t 16]⟩, ⟨(some 6), none, .mv, [.t 20]⟩, ⟨(some 7), none, .mv, [.t 21]⟩]) (.seq (.reg [⟨(some 22), none, .mv, [.t 6]⟩, ⟨(some 4), none, .mv, [.t 22]⟩]) .ret)))))
theorem comp_ref04_Tell : compF Try.prog (mset [] [] []) (cset [] [] []) (wset [] []) Try.f39 = some c_ref04_Tell := by kernel_rfl
theorem ok_ref04_Tell : fnOk Try.prog F_ref04_Tell = true := by kernel_rfl
theorem calls_ref04_Tell {args : List AV} {r : AV} (h : RunsX Try.prog 0 (Gives [.t 4] r) [.c c_ref04_Tell] (args ++ List.replicate (23 - args.length) (.tup [])) [] zeroC) : PCalls Try.prog F_ref04_Tell args r :=
  pcallsF Try.checked.mixed Try.func39 ok_ref04_Tell comp_ref04_Tell rfl (rs := [.t 4]) (by kernel_rfl) h
theorem hcalls_ref04_Tell {args : List AV} {Hin Hout : Heap} {nx nx2 : Ctr} {r : AV} (φ : Nat) (ks : List (Nat × Nat)) (h : RunsX Try.prog φ (GivesH ks [.t 4] r Hout nx2) [.c c_ref04_Tell] (args ++ List.replicate (23 - args.length) (.tup [])) Hin nx) : HCalls Try.prog F_ref04_Tell args Hin nx r Hout nx2 :=
  hcallsF Try.checked.mixed Try.func39 ok_ref04_Tell comp_ref04_Tell rfl (rs := [.t 4]) (by kernel_rfl) φ ks h

/-- pedlar/pedlarlaw05.EventMore: parameters [24, 42], results [.t 4], calls law05_awake, law04_Few, law05_Few, event_Tell, ref04_Right, ref04_ERight, ref04_ERow, ref04_Tell, ref04_ETree, ref04_ESame, ref04_Row -/
def wl_law05_EventMore_0 : Mk := ⟨[true, true, true, true, true, true, true, false, false, true, false, false, true, true, true, true, true, true, true, true, true, true, true, true, true, true, true, true, true, true, true, true, true, true, true, true, true, true, true, true, true, true, true, true, true, true, true, true, true, true, true, true, true, true, true, true, true, true, true, true, true, true, true, true, true, true, true, true, true, true, true, true, true, true, true, true, true, true, true, true, true, true, true, true, true, true, true, true, true, true, true, true, true, true, true, true, true, true, false, false, true, true, true, true, true, true, true, true, true, true, true, true, true, true, true, true, true, true, true, true, true, true, true, true, true, true, true, true, true, true, true, true, true, true, true, true, true, true, true, true, true, true, true], [5, 9]⟩
abbrev s_law05_EventMore_0 (t7 t8 t10 t11 t98 t99 : AV) : List AV := [.any, .any, .any, .any, .any, .any, .any, t7, t8, .any, t10, t11, .any, .any, .any, .any, .any, .any, .any, .any, .any, .any, .any, .any, .any, .any, .any, .any, .any, .any, .any, .any, .any, .any, .any, .any, .any, .any, .any, .any, .any, .any, .any, .any, .any, .any, .any, .any, .any, .any, .any, .any, .any, .any, .any, .any, .any, .any, .any, .any, .any, .any, .any, .any, .any, .any, .any, .any, .any, .any, .any, .any, .any, .any, .any, .any, .any, .any, .any, .any, .any, .any, .any, .any, .any, .any, .any, .any, .any, .any, .any, .any, .any, .any, .any, .any, .any, .any, t98, t99, .any, .any, .any, .any, .any, .any, .any, .any, .any, .any, .any, .any, .any, .any, .any, .any, .any, .any, .any, .any, .any, .any, .any, .any, .any, .any, .any, .any, .any, .any, .any, .any, .any, .any, .any, .any, .any, .any, .any, .any, .any, .any, .any]
def c_law05_EventMore_l0 : Cd := (.seq (.reg [⟨(some 100), none, (.bin .lss), [.t 99, .t 98]⟩]) (.seq (.cond (.t 100) .skip (.exit 0)) (.seq (.blk 1 [] (.seq (.reg [⟨(some 101), none, .mv, [.t 99]⟩, ⟨(some 12), none, .mv, [.t 101]⟩]) (.seq (.seq (.reg [⟨(some 102), none, .mv, [.t 8]⟩, ⟨(some 103), none, .mv, [.t 12]⟩, ⟨(some 104), none, (.ixS 1), [.t 102, .t 103]⟩, ⟨(some 105), none, .ld1, [.t 104]⟩, ⟨(some 106), none, .mv, [.t 7]⟩, ⟨(some 107), none, .mv, [.t 12]⟩, ⟨(some 108), none, (.ixS 1), [.t 106, .t 107]⟩, ⟨(some 109), none, .ld1, [.t 108]⟩, ⟨(some 110), none, (.bin .lss), [.t 105, .t 109]⟩, ⟨(some 111), none, .mv, [.t 110]⟩, ⟨(some 112), (some (111, false)), .mv, [.t 8]⟩, ⟨(some 113), (some (111, false)), .mv, [.t 12]⟩, ⟨(some 114), (some (111, false)), (.ixS 1), [.t 112, .t 113]⟩, ⟨(some 115), (some (111, false)), .ld1, [.t 114]⟩, ⟨(some 116), (some (111, false)), .mv, [.t 7]⟩, ⟨(some 117), (some (111, false)), .mv, [.t 12]⟩, ⟨(some 118), (some (111, false)), (.ixS 1), [.t 116, .t 117]⟩, ⟨(some 119), (some (111, false)), .ld1, [.t 118]⟩, ⟨(some 120), (some (111, false)), (.bin .gtr), [.t 115, .t 119]⟩, ⟨(some 121), (some (111, false)), .mv, [.t 120]⟩, ⟨(some 122), (some (121, true)), .mv, [.t 10]⟩, ⟨(some 123), (some (121, true)), .mv, [.t 12]⟩, ⟨(some 124), (some (121, true)), (.ixS 1), [.t 122, .t 123]⟩, ⟨(some 125), (some (121, true)), .ld1, [.t 124]⟩, ⟨(some 126), (some (121, true)), .not, [.t 125]⟩, ⟨(some 127), (some (111, false)), .pick, [.t 121, .t 126, .c (.bool false)]⟩, ⟨(some 128), none, .pick, [.t 111, .c (.bool true), .t 127]⟩]) (.cond (.t 128) (.seq (.reg [⟨(some 4), none, .mv, [.c (.bool false)]⟩]) .ret) .skip)) (.reg [⟨(some 129), none, .mv, [.t 11]⟩, ⟨(some 130), none, .mv, [.t 129]⟩, ⟨(some 131), (some (130, false)), .mv, [.t 8]⟩, ⟨(some 132), (some (130, false)), .mv, [.t 12]⟩, ⟨(some 133), (some (130, false)), (.ixS 1), [.t 131, .t 132]⟩, ⟨(some 134), (some (130, false)), .ld1, [.t 133]⟩, ⟨(some 135), (some (130, false)), .mv, [.t 7]⟩, ⟨(some 136), (some (130, false)), .mv, [.t 12]⟩, ⟨(some 137), (some (130, false)), (.ixS 1), [.t 135, .t 136]⟩, ⟨(some 138), (some (130, false)), .ld1, [.t 137]⟩, ⟨(some 139), (some (130, false)), (.bin .gtr), [.t 134, .t 138]⟩, ⟨(some 140), none, .pick, [.t 130, .c (.bool true), .t 139]⟩, ⟨(some 11), none, .mv, [.t 140]⟩])))) (.reg [⟨(some 141), none, (.bin .add), [.t 99, .c (.int .i64 1)]⟩, ⟨(some 99), none, .mv, [.t 141]⟩]))))
def wb_law05_EventMore_0 : List Bool := [true, true, true, true, true, true, true, true, true, true, true, false, true, true, true, true, true, true, true, true, true, true, true, true, true, true, true, true, true, true, true, true, true, true, true, true, true, true, true, true, true, true, true, true, true, true, true, true, true, true, true, true, true, true, true, true, true, true, true, true, true, true, true, true, true, true, true, true, true, true, true, true, true, true, true, true, true, true, true, true, true, true, true, true, true, true, true, true, true, true, true, true, true, true, true, true, true, true, true, true, true, true, true, true, true, true, true, true, true, true, true, true, true, true, true, true, true, true, true, true, true, true, true, true, true, true, true, true, true, true, true, true, true, true, true, true, true, true, true, true, true, true, true]
abbrev e_law05_EventMore_0 (t11 : AV) : List AV := [.any, .any, .any, .any, .any, .any, .any, .any, .any, .any, .any, t11, .any, .any, .any, .any, .any, .any, .any, .any, .any, .any, .any, .any, .any, .any, .any, .any, .any, .any, .any, .any, .any, .any, .any, .any, .any, .any, .any, .any, .any, .any, .any, .any, .any, .any, .any, .any, .any, .any, .any, .any, .any, .any, .any, .any, .any, .any, .any, .any, .any, .any, .any, .any, .any, .any, .any, .any, .any, .any, .any, .any, .any, .any, .any, .any, .any, .any, .any, .any, .any, .any, .any, .any, .any, .any, .any, .any, .any, .any, .any, .any, .any, .any, .any, .any, .any, .any, .any, .any, .any, .any, .any, .any, .any, .any, .any, .any, .any, .any, .any, .any, .any, .any, .any, .any, .any, .any, .any, .any, .any, .any, .any, .any, .any, .any, .any, .any, .any, .any, .any, .any, .any, .any, .any, .any, .any, .any, .any, .any, .any, .any, .any]
abbrev i_law05_EventMore_0 : List It := [.lp wl_law05_EventMore_0 c_law05_EventMore_l0, .blk 0 wb_law05_EventMore_0]
def c_law05_EventMore_k0 : Cd := (.seq (.reg [⟨(some 142), none, .mv, [.t 11]⟩, ⟨(some 4), none, .mv, [.t 142]⟩]) .ret)
def c_law05_EventMore : Cd := (.seq (.reg [⟨(some 2), none, .box, [.t 0]⟩, ⟨(some 3), none, .box, [.t 1]⟩, ⟨(some 4), none, .mv, [.c (.bool false)]⟩]) (.seq (.seq (.reg [⟨(some 13), none, (.call F_law05_awake 0), []⟩, ⟨(some 14), none, .not, [.t 13]⟩, ⟨(some 15), none, .mv, [.t 14]⟩, ⟨(some 16), (some (15, false)), (.ldn 2), [.t 2]⟩, ⟨(some 17), (some (15, false)), (.call F_law04_Few 0), [.t 16, .c (.int .i64 30)]⟩, ⟨(some 18), (some (15, false)), .not, [.t 17]⟩, ⟨(some 19), none, .pick, [.t 15, .c (.bool true), .t 18]⟩, ⟨(some 20), none, .mv, [.t 19]⟩, ⟨(some 21), (some (20, false)), (.ldn 2), [.t 3]⟩, ⟨(some 22), (some (20, false)), (.call F_law05_Few 0), [.t 21, .c (.int .i64 30)]⟩, ⟨(some 23), (some (20, false)), .not, [.t 22]⟩, ⟨(some 24), none, .pick, [.t 20, .c (.bool true), .t 23]⟩]) (.cond (.t 24) (.seq (.reg [⟨(some 25), none, (.call F_law05_awake 0), []⟩, ⟨(some 4), none, .mv, [.t 25]⟩]) .ret) .skip)) (.seq (.reg [⟨(some 27), none, (.ldn 2), [.t 2]⟩, ⟨(some 28), none, (.ldn 2), [.t 3]⟩, ⟨(some 29), none, (.call F_event_Tell 0), [.t 27, .t 28]⟩, ⟨(some 26), none, .mv, [.t 29]⟩, ⟨(some 30), none, (.ext 0), [.t 26]⟩, ⟨(some 31), none, (.ext 1), [.t 26]⟩, ⟨(some 5), none, (.new [(.int .i64 0), .nils] 5), []⟩, ⟨none, none, (.st 2), [.t 5, .t 30]⟩, ⟨(some 6), none, .mv, [.t 31]⟩]) (.seq (.seq (.reg [⟨(some 32), none, (.ldn 2), [.t 2]⟩, ⟨(some 33), none, (.call F_ref04_Right 0), [.t 32]⟩, ⟨(some 34), none, .not, [.t 33]⟩, ⟨(some 35), none, .mv, [.t 34]⟩, ⟨(some 36), (some (35, false)), (.fa 1), [.t 2]⟩, ⟨(some 37), (some (35, false)), .ld1, [.t 36]⟩, ⟨(some 38), (some (35, false)), .len, [.t 37]⟩, ⟨(some 39), (some (35, false)), (.bin .eql), [.t 38, .c (.int .i64 0)]⟩, ⟨(some 40), (some (35, false)), .mv, [.t 39]⟩, ⟨(some 41), (some (40, true)), (.fa 0), [.t 2]⟩, ⟨(some 42), (some (40, true)), .ld1, [.t 41]⟩, ⟨(some 43), (some (40, true)), .not, [.t 42]⟩, ⟨(some 44), (some (35, false)), .pick, [.t 40, .t 43, .c (.bool false)]⟩, ⟨(some 45), none, .pick, [.t 35, .c (.bool true), .t 44]⟩, ⟨(some 46), none, .mv, [.t 45]⟩, ⟨(some 47), (some (46, false)), (.ldn 2), [.t 3]⟩, ⟨(some 48), (some (46, false)), (.call F_ref04_ERight 0), [.t 47]⟩, ⟨(some 49), (some (46, false)), .not, [.t 48]⟩, ⟨(some 50), none, .pick, [.t 46, .c (.bool true), .t 49]⟩]) (.cond (.t 50) (.seq (.reg [⟨(some 51), none, .mv, [.t 6]⟩, ⟨(some 52), none, (.bin .eql), [.t 51, .c (.int .i64 1)]⟩, ⟨(some 53), none, .mv, [.t 52]⟩, ⟨(some 54), (some (53, true)), (.fa 0), [.t 5]⟩, ⟨(some 55), (some (53, true)), .ld1, [.t 54]⟩, ⟨(some 56), (some (53, true)), (.bin .eql), [.t 55, .c (.int .i64 0)]⟩, ⟨(some 57), none, .pick, [.t 53, .t 56, .c (.bool false)]⟩, ⟨(some 58), none, .mv, [.t 57]⟩, ⟨(some 59), (some (58, true)), (.fa 1), [.t 5]⟩, ⟨(some 60), (some (58, true)), .ld1, [.t 59]⟩, ⟨(some 61), (some (58, true)), .len, [.t 60]⟩, ⟨(some 62), (some (58, true)), (.bin .eql), [.t 61, .c (.int .i64 0)]⟩, ⟨(some 63), none, .pick, [.t 58, .t 62, .c (.bool false)]⟩, ⟨(some 4), none, .mv, [.t 63]⟩]) .ret) .skip)) (.seq (.reg [⟨(some 64), none, (.ldn 2), [.t 3]⟩, ⟨(some 65), none, (.call F_ref04_ERow 0), [.t 64]⟩, ⟨(some 7), none, .mv, [.t 65]⟩]) (.seq (.reg [⟨(some 66), none, (.ldn 2), [.t 2]⟩, ⟨(some 67), none, .mv, [.t 7]⟩, ⟨(some 68), none, (.call F_ref04_Tell 0), [.t 66, .t 67]⟩, ⟨(some 8), none, .mv, [.t 68]⟩]) (.seq (.reg [⟨(some 69), none, .mv, [.t 8]⟩, ⟨(some 70), none, (.call F_ref04_ETree 0), [.t 69, .c (.int .i64 0)]⟩, ⟨(some 9), none, (.new [(.int .i64 0), .nils] 9), []⟩, ⟨none, none, (.st 2), [.t 9, .t 70]⟩]) (.seq (.seq (.reg [⟨(some 71), none, (.ldn 2), [.t 9]⟩, ⟨(some 72), none, (.call F_ref04_ERight 0), [.t 71]⟩, ⟨(some 73), none, .not, [.t 72]⟩]) (.cond (.t 73) (.seq (.reg [⟨(some 74), none, .mv, [.t 6]⟩, ⟨(some 75), none, (.bin .eql), [.t 74, .c (.int .i64 9)]⟩, ⟨(some 76), none, .mv, [.t 75]⟩, ⟨(some 77), (some (76, true)), (.fa 0), [.t 5]⟩, ⟨(some 78), (some (76, true)), .ld1, [.t 77]⟩, ⟨(some 79), (some (76, true)), (.bin .eql), [.t 78, .c (.int .i64 0)]⟩, ⟨(some 80), none, .pick, [.t 76, .t 79, .c (.bool false)]⟩, ⟨(some 81), none, .mv, [.t 80]⟩, ⟨(some 82), (some (81, true)), (.fa 1), [.t 5]⟩, ⟨(some 83), (some (81, true)), .ld1, [.t 82]⟩, ⟨(some 84), (some (81, true)), .len, [.t 83]⟩, ⟨(some 85), (some (81, true)), (.bin .eql), [.t 84, .c (.int .i64 0)]⟩, ⟨(some 86), none, .pick, [.t 81, .t 85, .c (.bool false)]⟩, ⟨(some 4), none, .mv, [.t 86]⟩]) .ret) .skip)) (.seq (.seq (.reg [⟨(some 87), none, .mv, [.t 6]⟩, ⟨(some 88), none, (.bin .neq), [.t 87, .c (.int .i64 0)]⟩, ⟨(some 89), none, .mv, [.t 88]⟩, ⟨(some 90), (some (89, false)), (.ldn 2), [.t 5]⟩, ⟨(some 91), (some (89, false)), (.ldn 2), [.t 9]⟩, ⟨(some 92), (some (89, false)), (.call F_ref04_ESame 0), [.t 90, .t 91]⟩, ⟨(some 93), (some (89, false)), .not, [.t 92]⟩, ⟨(some 94), none, .pick, [.t 89, .c (.bool true), .t 93]⟩]) (.cond (.t 94) (.seq (.reg [⟨(some 4), none, .mv, [.c (.bool false)]⟩]) .ret) .skip)) (.seq (.reg [⟨(some 95), none, (.ldn 2), [.t 2]⟩, ⟨(some 96), none, (.call F_ref04_Row 0), [.t 95]⟩, ⟨(some 10), none, .mv, [.t 96]⟩]) (.seq (.reg [⟨(some 11), none, .mv, [.c (.bool false)]⟩]) (.seq (.seq (.reg [⟨(some 97), none, .mv, [.t 7]⟩, ⟨(some 98), none, .len, [.t 97]⟩, ⟨(some 99), none, .mv, [.c (.int .i64 0)]⟩]) (.blk 0 wb_law05_EventMore_0 (.loop wl_law05_EventMore_0 c_law05_EventMore_l0))) c_law05_EventMore_k0))))))))))))
theorem comp_law05_EventMore : compF Try.prog (mset [] [] []) (cset [] [] []) (wset [(0, wl_law05_EventMore_0, wb_law05_EventMore_0)] []) Try.f5 = some c_law05_EventMore := by kernel_rfl
theorem ok_law05_EventMore : fnOk Try.prog F_law05_EventMore = true := by kernel_rfl
theorem calls_law05_EventMore {args : List AV} {r : AV} (h : RunsX Try.prog 0 (Gives [.t 4] r) [.c c_law05_EventMore] (args ++ List.replicate (143 - args.length) (.tup [])) [] zeroC) : PCalls Try.prog F_law05_EventMore args r :=
  pcallsF Try.checked.mixed Try.func5 ok_law05_EventMore comp_law05_EventMore rfl (rs := [.t 4]) (by kernel_rfl) h
theorem hcalls_law05_EventMore {args : List AV} {Hin Hout : Heap} {nx nx2 : Ctr} {r : AV} (φ : Nat) (ks : List (Nat × Nat)) (h : RunsX Try.prog φ (GivesH ks [.t 4] r Hout nx2) [.c c_law05_EventMore] (args ++ List.replicate (143 - args.length) (.tup [])) Hin nx) : HCalls Try.prog F_law05_EventMore args Hin nx r Hout nx2 :=
  hcallsF Try.checked.mixed Try.func5 ok_law05_EventMore comp_law05_EventMore rfl (rs := [.t 4]) (by kernel_rfl) φ ks h

/-- pedlar/pedlarlaw05.awake: parameters [], results [.t 0], calls event_Tell -/
def c_law05_awake : Cd := (.seq (.reg [⟨(some 0), none, .mv, [.c (.bool false)]⟩]) (.seq (.reg [⟨(some 4), none, (.bld [(.bool false), .nils] [(0, 1)]), [.c (.bool true)]⟩, ⟨(some 5), none, (.bld [(.int .i64 0), .nils] []), []⟩, ⟨(some 6), none, (.call F_event_Tell 0), [.t 4, .t 5]⟩, ⟨(some 3), none, .mv, [.t 6]⟩, ⟨(some 7), none, (.ext 0), [.t 3]⟩, ⟨(some 8), none, (.ext 1), [.t 3]⟩, ⟨(some 1), none, (.new [(.int .i64 0), .nils] 1), []⟩, ⟨none, none, (.st 2), [.t 1, .t 7]⟩, ⟨(some 2), none, .mv, [.t 8]⟩]) (.seq (.reg [⟨(some 9), none, .mv, [.t 2]⟩, ⟨(some 10), none, (.bin .eql), [.t 9, .c (.int .i64 0)]⟩, ⟨(some 11), none, .mv, [.t 10]⟩, ⟨(some 12), (some (11, true)), (.fa 0), [.t 1]⟩, ⟨(some 13), (some (11, true)), .ld1, [.t 12]⟩, ⟨(some 14), (some (11, true)), (.bin .eql), [.t 13, .c (.int .i64 1)]⟩, ⟨(some 15), none, .pick, [.t 11, .t 14, .c (.bool false)]⟩, ⟨(some 0), none, .mv, [.t 15]⟩]) .ret)))
theorem comp_law05_awake : compF Try.prog (mset [] [] []) (cset [] [] []) (wset [] []) Try.f34 = some c_law05_awake := by kernel_rfl
theorem ok_law05_awake : fnOk Try.prog F_law05_awake = true := by kernel_rfl
theorem calls_law05_awake {args : List AV} {r : AV} (h : RunsX Try.prog 0 (Gives [.t 0] r) [.c c_law05_awake] (args ++ List.replicate (16 - args.length) (.tup [])) [] zeroC) : PCalls Try.prog F_law05_awake args r :=
  pcallsF Try.checked.mixed Try.func34 ok_law05_awake comp_law05_awake rfl (rs := [.t 0]) (by kernel_rfl) h
theorem hcalls_law05_awake {args : List AV} {Hin Hout : Heap} {nx nx2 : Ctr} {r : AV} (φ : Nat) (ks : List (Nat × Nat)) (h : RunsX Try.prog φ (GivesH ks [.t 0] r Hout nx2) [.c c_law05_awake] (args ++ List.replicate (16 - args.length) (.tup [])) Hin nx) : HCalls Try.prog F_law05_awake args Hin nx r Hout nx2 :=
  hcallsF Try.checked.mixed Try.func34 ok_law05_awake comp_law05_awake rfl (rs := [.t 0]) (by kernel_rfl) φ ks h

def tab_CdMore : List (Nat × Cd × Nat × List RS) := [(F_event_greatest, c_event_greatest, 21, [.t 2]), (F_event_fill, c_event_fill, 90, [.cn 4 2]), (F_event_grow, c_event_grow, 108, [.cn 4 2, .t 5]), (F_event_Tell, c_event_Tell, 36, [.cn 4 2, .t 5]), (F_ref04_flat, c_ref04_flat, 20, [.t 4]), (F_ref04_fill, c_ref04_fill, 97, [.t 4]), (F_ref04_grow, c_ref04_grow, 103, [.t 4, .t 5]), (F_ref04_Tell, c_ref04_Tell, 23, [.t 4]), (F_law05_EventMore, c_law05_EventMore, 143, [.t 4]), (F_law05_awake, c_law05_awake, 16, [.t 0])]
theorem tok_CdMore : TabOk Try.prog (tabOf tab_CdMore) := tab_cons calls_event_greatest hcalls_event_greatest (tab_cons calls_event_fill hcalls_event_fill (tab_cons calls_event_grow hcalls_event_grow (tab_cons calls_event_Tell hcalls_event_Tell (tab_cons calls_ref04_flat hcalls_ref04_flat (tab_cons calls_ref04_fill hcalls_ref04_fill (tab_cons calls_ref04_grow hcalls_ref04_grow (tab_cons calls_ref04_Tell hcalls_ref04_Tell (tab_cons calls_law05_EventMore hcalls_law05_EventMore (tab_cons calls_law05_awake hcalls_law05_awake (tab_nil))))))))))
end Go.Proofs.Ytmokhopjnjecbab
/- The walk through the events' functions, on. -/
-- short
namespace Go.Proofs.Ytmokhopjnjecbab
open Go.Ev
set_option linter.unusedVariables false
set_option linter.unusedSimpArgs false
set_option maxRecDepth 100000
variable {R : List AV → Heap → Ctr → Prop} {k : List It} {H : Heap} {nx : Ctr} {φ : Nat}

abbrev xcloneH (o : Int) (e : Option Nat) (pre : List ET) : Heap := (0, 2, 0, some [.int .i64 0, .nils]) :: (0, 3, 0, some [.int .i64 o, accV 0 21 2 e pre.length]) :: accE 0 21 e (catCells (xtavs pre))
theorem xclone_loop (a : ET) (hs : a.size < 2 ^ 32) (ihd : ∀ p ∈ a.ps, PCalls Try.prog F_event_clone [xtv p] (xtv p)) : ∀ (post pre : List ET), a.ps = pre ++ post → ∀ (e : Option Nat) (nx : Ctr), (e = none → pre = []) →
    RunsX Try.prog 0 (Gives [.cn 2 2] (xtv a)) (i_event_clone_0 ++ [.c c_event_clone_k0]) (s_event_clone_0 (.ptr 0 2 0 0) (.ptr 0 3 0 0) (.fz 2 (xtavs a.ps) none) (.int .i64 (a.ps.length : Nat)) (.int .i64 (pre.length : Nat))) (xcloneH a.n e pre) nx := by
  have hls := xlen_size a
  intro post
  induction post with
  | nil =>
    intro pre h1 e nx he
    rw [List.append_nil] at h1
    have h5 : a.ps.length = pre.length := by rw [h1]
    refine round (its := [.blk 0 wb_event_clone_0]) (k0 := [.c c_event_clone_k0]) 100 trivial trivial (fun A eA => ?_)
    cases e with
    | none =>
      have hp := he rfl
      simp (disch := first | omega | (simp only [avs_len, List.length_cons, List.length_append, List.length_nil, List.length_take, List.length_drop, List.length_map]; omega) | (simp only [cells, scal1, allSz, List.length_cons, List.length_nil, List.length_append, List.length_map, List.all_cons, List.all_nil, avs_len, beq_self_eq_true, Bool.and_self, and_self, or_true, true_or, reduceCtorEq, *]; done) | fail) only [c_event_clone, wl_event_clone_0, s_event_clone_0, c_event_clone_l0, wb_event_clone_0, c_event_clone_k0, go_sem, Nat.reduceAdd, Nat.reduceSub, Nat.reduceMul, Nat.reduceLT, Nat.reduceLeDiff, Int.reduceToNat, Nat.reduceEqDiff, Nat.reduceBEq, ↓reduceIte, reduceCtorEq, eA, xcloneH, accV, accE]
      refine walk0 (its := [.c c_event_clone_k0]) 100 trivial (fun A eA => ?_)
      simp (disch := first | omega | (simp only [avs_len, List.length_cons, List.length_append, List.length_nil, List.length_take, List.length_drop, List.length_map]; omega) | (simp only [cells, scal1, allSz, List.length_cons, List.length_nil, List.length_append, List.length_map, List.all_cons, List.all_nil, avs_len, beq_self_eq_true, Bool.and_self, and_self, or_true, true_or, reduceCtorEq, *]; done) | fail) only [c_event_clone, wl_event_clone_0, s_event_clone_0, c_event_clone_l0, wb_event_clone_0, c_event_clone_k0, go_sem, Nat.reduceAdd, Nat.reduceSub, Nat.reduceMul, Nat.reduceLT, Nat.reduceLeDiff, Int.reduceToNat, Nat.reduceEqDiff, Nat.reduceBEq, ↓reduceIte, reduceCtorEq, eA, scal1, List.all_cons, List.all_nil, Bool.and_self]
      refine doneW rfl ?_
      have := xwk_leaf a.n
      show Wk1 _ (.agg [.int .i64 a.n, .fz 2 (xtavs a.ps) none])
      rw [h1, hp]; exact this
    | some g =>
      simp (disch := first | omega | (simp only [avs_len, List.length_cons, List.length_append, List.length_nil, List.length_take, List.length_drop, List.length_map]; omega) | (simp only [cells, scal1, allSz, List.length_cons, List.length_nil, List.length_append, List.length_map, List.all_cons, List.all_nil, avs_len, beq_self_eq_true, Bool.and_self, and_self, or_true, true_or, reduceCtorEq, *]; done) | fail) only [c_event_clone, wl_event_clone_0, s_event_clone_0, c_event_clone_l0, wb_event_clone_0, c_event_clone_k0, go_sem, Nat.reduceAdd, Nat.reduceSub, Nat.reduceMul, Nat.reduceLT, Nat.reduceLeDiff, Int.reduceToNat, Nat.reduceEqDiff, Nat.reduceBEq, ↓reduceIte, reduceCtorEq, eA, xcloneH, accV, accE]
      refine walk0 (its := [.c c_event_clone_k0]) 100 trivial (fun A eA => ?_)
      simp (disch := first | omega | (simp only [avs_len, List.length_cons, List.length_append, List.length_nil, List.length_take, List.length_drop, List.length_map]; omega) | (simp only [cells, scal1, allSz, List.length_cons, List.length_nil, List.length_append, List.length_map, List.all_cons, List.all_nil, avs_len, beq_self_eq_true, Bool.and_self, and_self, or_true, true_or, reduceCtorEq, *]; done) | fail) only [c_event_clone, wl_event_clone_0, s_event_clone_0, c_event_clone_l0, wb_event_clone_0, c_event_clone_k0, go_sem, Nat.reduceAdd, Nat.reduceSub, Nat.reduceMul, Nat.reduceLT, Nat.reduceLeDiff, Int.reduceToNat, Nat.reduceEqDiff, Nat.reduceBEq, ↓reduceIte, reduceCtorEq, eA, scal1, List.all_cons, List.all_nil, Bool.and_self]
      refine doneG ?_
      simp (disch := first | omega | (simp only [avs_len, List.length_cons, List.length_append, List.length_nil, List.length_take, List.length_drop, List.length_map]; omega) | (simp only [cells, scal1, allSz, List.length_cons, List.length_nil, List.length_append, List.length_map, List.all_cons, List.all_nil, avs_len, beq_self_eq_true, Bool.and_self, and_self, or_true, true_or, reduceCtorEq, *]; done) | fail) only [go_sem, Nat.reduceAdd, Nat.reduceSub, Nat.reduceMul, Nat.reduceLT, Nat.reduceLeDiff, Int.reduceToNat, Nat.reduceEqDiff, Nat.reduceBEq, ↓reduceIte, reduceCtorEq, xcat_len, xcat_take, ↓xfrz_cat, xchunk_cat]
      show _ = some (AV.agg [.int .i64 a.n, .fz 2 (xtavs a.ps) none])
      rw [h1]
  | cons p post ih =>
    intro pre h1 e nx he
    have hlt : pre.length < a.ps.length := by rw [h1]; simp
    have hpm : p ∈ a.ps := by rw [h1]; simp
    have hpz := xsize_lt hpm
    have g0 : (xtavs a.ps)[pre.length]? = some (xtv p) := by rw [xtavs_get, h1]; simp
    have w1 : IntKind.i64.wrap ((pre.length : Int) + 1) = ((pre.length + 1 : Nat) : Int) := by rw [IntKind.wrap_i64]; omega
    refine round (its := [.blk 0 wb_event_clone_0]) (k0 := [.c c_event_clone_k0]) 100 trivial trivial (fun A eA => ?_)
    cases e with
    | none =>
      have hp := he rfl
      simp (disch := first | omega | (simp only [avs_len, List.length_cons, List.length_append, List.length_nil, List.length_take, List.length_drop, List.length_map]; omega) | (simp only [cells, scal1, allSz, List.length_cons, List.length_nil, List.length_append, List.length_map, List.all_cons, List.all_nil, avs_len, beq_self_eq_true, Bool.and_self, and_self, or_true, true_or, reduceCtorEq, *]; done) | fail) only [c_event_clone, wl_event_clone_0, s_event_clone_0, c_event_clone_l0, wb_event_clone_0, c_event_clone_k0, go_sem, Nat.reduceAdd, Nat.reduceSub, Nat.reduceMul, Nat.reduceLT, Nat.reduceLeDiff, Int.reduceToNat, Nat.reduceEqDiff, Nat.reduceBEq, ↓reduceIte, reduceCtorEq, eA, Int.toNat_natCast, g0, scal1, List.all_cons, List.all_nil, Bool.and_self, xcloneH, accV, accE]
      refine call0 100 trivial trivial (ihd p hpm) (.inl rfl) (fun A eA => ?_)
      simp (disch := first | omega | (simp only [avs_len, List.length_cons, List.length_append, List.length_nil, List.length_take, List.length_drop, List.length_map]; omega) | (simp only [cells, scal1, allSz, List.length_cons, List.length_nil, List.length_append, List.length_map, List.all_cons, List.all_nil, avs_len, beq_self_eq_true, Bool.and_self, and_self, or_true, true_or, reduceCtorEq, *]; done) | fail) only [c_event_clone, wl_event_clone_0, s_event_clone_0, c_event_clone_l0, wb_event_clone_0, c_event_clone_k0, go_sem, Nat.reduceAdd, Nat.reduceSub, Nat.reduceMul, Nat.reduceLT, Nat.reduceLeDiff, Int.reduceToNat, Nat.reduceEqDiff, Nat.reduceBEq, ↓reduceIte, reduceCtorEq, eA, w1, ↓appK, allSz, catCells, cells, scal1, List.all_cons, List.all_nil, Bool.and_self, beq_self_eq_true]
      have hih := ih (pre ++ [p]) (by rw [h1]; simp) (some (nx 21)) (bump (bump nx 5) 21) (by simp)
      simp only [xcloneH, List.length_append, List.length_cons, List.length_nil, Nat.zero_add, xcat_snoc] at hih
      subst hp
      exact hih
    | some g =>
      simp (disch := first | omega | (simp only [avs_len, List.length_cons, List.length_append, List.length_nil, List.length_take, List.length_drop, List.length_map]; omega) | (simp only [cells, scal1, allSz, List.length_cons, List.length_nil, List.length_append, List.length_map, List.all_cons, List.all_nil, avs_len, beq_self_eq_true, Bool.and_self, and_self, or_true, true_or, reduceCtorEq, *]; done) | fail) only [c_event_clone, wl_event_clone_0, s_event_clone_0, c_event_clone_l0, wb_event_clone_0, c_event_clone_k0, go_sem, Nat.reduceAdd, Nat.reduceSub, Nat.reduceMul, Nat.reduceLT, Nat.reduceLeDiff, Int.reduceToNat, Nat.reduceEqDiff, Nat.reduceBEq, ↓reduceIte, reduceCtorEq, eA, Int.toNat_natCast, g0, scal1, List.all_cons, List.all_nil, Bool.and_self, xcloneH, accV, accE]
      refine call0 100 trivial trivial (ihd p hpm) (.inl rfl) (fun A eA => ?_)
      simp (disch := first | omega | (simp only [avs_len, List.length_cons, List.length_append, List.length_nil, List.length_take, List.length_drop, List.length_map]; omega) | (simp only [cells, scal1, allSz, List.length_cons, List.length_nil, List.length_append, List.length_map, List.all_cons, List.all_nil, avs_len, beq_self_eq_true, Bool.and_self, and_self, or_true, true_or, reduceCtorEq, *]; done) | fail) only [c_event_clone, wl_event_clone_0, s_event_clone_0, c_event_clone_l0, wb_event_clone_0, c_event_clone_k0, go_sem, Nat.reduceAdd, Nat.reduceSub, Nat.reduceMul, Nat.reduceLT, Nat.reduceLeDiff, Int.reduceToNat, Nat.reduceEqDiff, Nat.reduceBEq, ↓reduceIte, reduceCtorEq, eA, w1, ↓appK, allSz, catCells, cells, xcat_len, scal1, List.all_cons, List.all_nil, Bool.and_self, beq_self_eq_true]
      have hih := ih (pre ++ [p]) (by rw [h1]; simp) (some (nx 21)) (bump (bump nx 5) 21) (by simp)
      simp only [xcloneH, List.length_append, List.length_cons, List.length_nil, Nat.zero_add, xcat_snoc] at hih
      exact hih
theorem xclone_calls : ∀ (t : ET), t.size < 2 ^ 32 → PCalls Try.prog F_event_clone [xtv t] (xtv t) := by
  intro t
  induction t using ET.ind with
  | h t ih =>
    intro hs
    refine calls_event_clone (walk0 100 trivial (fun A eA => ?_))
    simp (disch := first | omega | (simp only [avs_len, List.length_cons, List.length_append, List.length_nil, List.length_take, List.length_drop, List.length_map]; omega) | (simp only [cells, scal1, allSz, List.length_cons, List.length_nil, List.length_append, List.length_map, List.all_cons, List.all_nil, avs_len, beq_self_eq_true, Bool.and_self, and_self, or_true, true_or, reduceCtorEq, *]; done) | fail) only [c_event_clone, wl_event_clone_0, s_event_clone_0, c_event_clone_l0, wb_event_clone_0, c_event_clone_k0, go_sem, Nat.reduceAdd, Nat.reduceSub, Nat.reduceMul, Nat.reduceLT, Nat.reduceLeDiff, Int.reduceToNat, Nat.reduceEqDiff, Nat.reduceBEq, ↓reduceIte, reduceCtorEq, eA, scal1, xtavs_len, List.all_cons, List.all_nil, Bool.and_self]
    exact xclone_loop t hs (fun p hp => ih p hp (by have := xsize_lt hp; omega)) t.ps [] rfl none _ (fun _ => rfl)
noncomputable def xcloneT (t : ET) : ET := if xflatb 8 t then t else .mk 0 []
theorem xClone_calls (t : ET) (hs : t.size < 2 ^ 32) : PCalls Try.prog F_event_Clone [xtv t] (xtv (xcloneT t)) := by
  refine calls_event_Clone (walk0 100 trivial (fun A eA => ?_))
  simp (disch := first | omega | (simp only [avs_len, List.length_cons, List.length_append, List.length_nil, List.length_take, List.length_drop, List.length_map]; omega) | (simp only [cells, scal1, allSz, List.length_cons, List.length_nil, List.length_append, List.length_map, List.all_cons, List.all_nil, avs_len, beq_self_eq_true, Bool.and_self, and_self, or_true, true_or, reduceCtorEq, *]; done) | fail) only [c_event_Clone, go_sem, Nat.reduceAdd, Nat.reduceSub, Nat.reduceMul, Nat.reduceLT, Nat.reduceLeDiff, Int.reduceToNat, Nat.reduceEqDiff, Nat.reduceBEq, ↓reduceIte, reduceCtorEq, eA, scal1, xtavs_len]
  refine call0 100 trivial trivial (xshallow_calls 8 t (by omega) (by omega)) (.inl rfl) (fun A eA => ?_)
  cases hq : xflatb 8 t with
  | false =>
    simp (disch := first | omega | (simp only [avs_len, List.length_cons, List.length_append, List.length_nil, List.length_take, List.length_drop, List.length_map]; omega) | (simp only [cells, scal1, allSz, List.length_cons, List.length_nil, List.length_append, List.length_map, List.all_cons, List.all_nil, avs_len, beq_self_eq_true, Bool.and_self, and_self, or_true, true_or, reduceCtorEq, *]; done) | fail) only [c_event_Clone, go_sem, Nat.reduceAdd, Nat.reduceSub, Nat.reduceMul, Nat.reduceLT, Nat.reduceLeDiff, Int.reduceToNat, Nat.reduceEqDiff, Nat.reduceBEq, ↓reduceIte, reduceCtorEq, eA, scal1, List.all_cons, List.all_nil, Bool.and_self]
    rw [show xcloneT t = .mk 0 [] by simp [xcloneT, hq]]
    exact doneW rfl (xwk_leaf 0)
  | true =>
    simp (disch := first | omega | (simp only [avs_len, List.length_cons, List.length_append, List.length_nil, List.length_take, List.length_drop, List.length_map]; omega) | (simp only [cells, scal1, allSz, List.length_cons, List.length_nil, List.length_append, List.length_map, List.all_cons, List.all_nil, avs_len, beq_self_eq_true, Bool.and_self, and_self, or_true, true_or, reduceCtorEq, *]; done) | fail) only [c_event_Clone, go_sem, Nat.reduceAdd, Nat.reduceSub, Nat.reduceMul, Nat.reduceLT, Nat.reduceLeDiff, Int.reduceToNat, Nat.reduceEqDiff, Nat.reduceBEq, ↓reduceIte, reduceCtorEq, eA, scal1, List.all_cons, List.all_nil, Bool.and_self]
    refine call0 100 trivial trivial (xclone_calls t hs) (.inl rfl) (fun A eA => ?_)
    simp (disch := first | omega | (simp only [avs_len, List.length_cons, List.length_append, List.length_nil, List.length_take, List.length_drop, List.length_map]; omega) | (simp only [cells, scal1, allSz, List.length_cons, List.length_nil, List.length_append, List.length_map, List.all_cons, List.all_nil, avs_len, beq_self_eq_true, Bool.and_self, and_self, or_true, true_or, reduceCtorEq, *]; done) | fail) only [c_event_Clone, go_sem, Nat.reduceAdd, Nat.reduceSub, Nat.reduceMul, Nat.reduceLT, Nat.reduceLeDiff, Int.reduceToNat, Nat.reduceEqDiff, Nat.reduceBEq, ↓reduceIte, reduceCtorEq, eA, scal1, List.all_cons, List.all_nil, Bool.and_self]
    rw [show xcloneT t = t by simp [xcloneT, hq]]
    exact doneG rfl
theorem xdeep_loop (d : Nat) (hd : d < 1000) (ihd : ∀ t : ET, t.size < 2 ^ 60 → PCalls Try.prog F_ref04_EDeep [xtv t, .int .i64 (d : Nat)] (.int .i64 (xdeep d t : Nat))) (a : ET) (hs : a.size < 2 ^ 60) : ∀ (post pre : List ET), a.ps = pre ++ post → ∀ (n : Nat) (nx : Ctr), n ≤ 2000 →
    RunsX Try.prog 0 (Gives [.t 4] (.int .i64 ((xdeepL (xdeep d) n post + 1 : Nat) : Int))) (i_ref04_EDeep_0 ++ [.c c_ref04_EDeep_k0]) (s_ref04_EDeep_0 (.int .i64 ((d + 1 : Nat) : Int)) (.ro [.int .i64 a.n, .fz 2 (xtavs a.ps) none]) (.int .i64 (n : Nat)) (.int .i64 (a.ps.length : Nat)) (.int .i64 (pre.length : Nat))) [] nx := by
  have hls := xlen_size a
  intro post
  induction post with
  | nil =>
    intro pre h1 n nx hn
    have h5 : a.ps.length = pre.length := by rw [h1]; simp
    have w1 : IntKind.i64.wrap ((n : Int) + 1) = ((n + 1 : Nat) : Int) := by rw [IntKind.wrap_i64]; omega
    refine round (its := [.blk 0 wb_ref04_EDeep_0]) (k0 := [.c c_ref04_EDeep_k0]) 100 trivial trivial (fun A eA => ?_)
    simp (disch := first | omega | (simp only [avs_len, List.length_cons, List.length_append, List.length_nil, List.length_take, List.length_drop, List.length_map]; omega) | (simp only [cells, scal1, allSz, List.length_cons, List.length_nil, List.length_append, List.length_map, List.all_cons, List.all_nil, avs_len, beq_self_eq_true, Bool.and_self, and_self, or_true, true_or, reduceCtorEq, *]; done) | fail) only [c_ref04_EDeep, wl_ref04_EDeep_0, s_ref04_EDeep_0, c_ref04_EDeep_l0, wb_ref04_EDeep_0, c_ref04_EDeep_k0, go_sem, Nat.reduceAdd, Nat.reduceSub, Nat.reduceMul, Nat.reduceLT, Nat.reduceLeDiff, Int.reduceToNat, Nat.reduceEqDiff, Nat.reduceBEq, ↓reduceIte, reduceCtorEq, eA]
    refine walk0 (its := [.c c_ref04_EDeep_k0]) 100 trivial (fun A eA => ?_)
    simp (disch := first | omega | (simp only [avs_len, List.length_cons, List.length_append, List.length_nil, List.length_take, List.length_drop, List.length_map]; omega) | (simp only [cells, scal1, allSz, List.length_cons, List.length_nil, List.length_append, List.length_map, List.all_cons, List.all_nil, avs_len, beq_self_eq_true, Bool.and_self, and_self, or_true, true_or, reduceCtorEq, *]; done) | fail) only [c_ref04_EDeep, wl_ref04_EDeep_0, s_ref04_EDeep_0, c_ref04_EDeep_l0, wb_ref04_EDeep_0, c_ref04_EDeep_k0, go_sem, Nat.reduceAdd, Nat.reduceSub, Nat.reduceMul, Nat.reduceLT, Nat.reduceLeDiff, Int.reduceToNat, Nat.reduceEqDiff, Nat.reduceBEq, ↓reduceIte, reduceCtorEq, eA, w1]
    exact doneG rfl
  | cons p post ih =>
    intro pre h1 n nx hn
    have hlt : pre.length < a.ps.length := by rw [h1]; simp
    have hpm : p ∈ a.ps := by rw [h1]; simp
    have hpz := xsize_lt hpm
    have g0 : (xtavs a.ps)[pre.length]? = some (xtv p) := by rw [xtavs_get, h1]; simp
    have w1 : IntKind.i64.wrap ((pre.length : Int) + 1) = ((pre.length + 1 : Nat) : Int) := by rw [IntKind.wrap_i64]; omega
    have w2 : IntKind.i64.wrap (((d + 1 : Nat) : Int) - 1) = ((d : Nat) : Int) := by rw [IntKind.wrap_i64]; omega
    have hm := xdeep_max d p
    have w3 : (if ((xdeep d p : Nat) : Int) > (n : Int) then ((xdeep d p : Nat) : Int) else (n : Int)) = ((max n (xdeep d p) : Nat) : Int) := by split <;> omega
    refine round (its := [.blk 0 wb_ref04_EDeep_0]) (k0 := [.c c_ref04_EDeep_k0]) 100 trivial trivial (fun A eA => ?_)
    simp (disch := first | omega | (simp only [avs_len, List.length_cons, List.length_append, List.length_nil, List.length_take, List.length_drop, List.length_map]; omega) | (simp only [cells, scal1, allSz, List.length_cons, List.length_nil, List.length_append, List.length_map, List.all_cons, List.all_nil, avs_len, beq_self_eq_true, Bool.and_self, and_self, or_true, true_or, reduceCtorEq, *]; done) | fail) only [c_ref04_EDeep, wl_ref04_EDeep_0, s_ref04_EDeep_0, c_ref04_EDeep_l0, wb_ref04_EDeep_0, c_ref04_EDeep_k0, go_sem, Nat.reduceAdd, Nat.reduceSub, Nat.reduceMul, Nat.reduceLT, Nat.reduceLeDiff, Int.reduceToNat, Nat.reduceEqDiff, Nat.reduceBEq, ↓reduceIte, reduceCtorEq, eA, Int.toNat_natCast, g0, w2, scal1, List.all_cons, List.all_nil, Bool.and_self]
    refine call0 100 trivial trivial (ihd p (by omega)) (.inl rfl) (fun A eA => ?_)
    simp (disch := first | omega | (simp only [avs_len, List.length_cons, List.length_append, List.length_nil, List.length_take, List.length_drop, List.length_map]; omega) | (simp only [cells, scal1, allSz, List.length_cons, List.length_nil, List.length_append, List.length_map, List.all_cons, List.all_nil, avs_len, beq_self_eq_true, Bool.and_self, and_self, or_true, true_or, reduceCtorEq, *]; done) | fail) only [c_ref04_EDeep, wl_ref04_EDeep_0, s_ref04_EDeep_0, c_ref04_EDeep_l0, wb_ref04_EDeep_0, c_ref04_EDeep_k0, go_sem, Nat.reduceAdd, Nat.reduceSub, Nat.reduceMul, Nat.reduceLT, Nat.reduceLeDiff, Int.reduceToNat, Nat.reduceEqDiff, Nat.reduceBEq, ↓reduceIte, reduceCtorEq, eA, w1, w3]
    simp only [xdeepL]
    have hih := ih (pre ++ [p]) (by rw [h1]; simp) (max n (xdeep d p)) nx (by omega)
    rw [show (pre ++ [p]).length = pre.length + 1 by simp] at hih
    exact hih
theorem xdeep_calls : ∀ (d : Nat) (t : ET), d < 1000 → t.size < 2 ^ 60 → PCalls Try.prog F_ref04_EDeep [xtv t, .int .i64 (d : Nat)] (.int .i64 (xdeep d t : Nat)) := by
  intro d
  induction d with
  | zero =>
    intro t _ _
    refine calls_ref04_EDeep (walk0 100 trivial (fun A eA => ?_))
    simp (disch := first | omega | (simp only [avs_len, List.length_cons, List.length_append, List.length_nil, List.length_take, List.length_drop, List.length_map]; omega) | (simp only [cells, scal1, allSz, List.length_cons, List.length_nil, List.length_append, List.length_map, List.all_cons, List.all_nil, avs_len, beq_self_eq_true, Bool.and_self, and_self, or_true, true_or, reduceCtorEq, *]; done) | fail) only [c_ref04_EDeep, wl_ref04_EDeep_0, s_ref04_EDeep_0, c_ref04_EDeep_l0, wb_ref04_EDeep_0, c_ref04_EDeep_k0, go_sem, Nat.reduceAdd, Nat.reduceSub, Nat.reduceMul, Nat.reduceLT, Nat.reduceLeDiff, Int.reduceToNat, Nat.reduceEqDiff, Nat.reduceBEq, ↓reduceIte, reduceCtorEq, eA, scal1, xtavs_len]
    exact doneG rfl
  | succ d ih =>
    intro t hd hs
    refine calls_ref04_EDeep (walk0 100 trivial (fun A eA => ?_))
    simp (disch := first | omega | (simp only [avs_len, List.length_cons, List.length_append, List.length_nil, List.length_take, List.length_drop, List.length_map]; omega) | (simp only [cells, scal1, allSz, List.length_cons, List.length_nil, List.length_append, List.length_map, List.all_cons, List.all_nil, avs_len, beq_self_eq_true, Bool.and_self, and_self, or_true, true_or, reduceCtorEq, *]; done) | fail) only [c_ref04_EDeep, wl_ref04_EDeep_0, s_ref04_EDeep_0, c_ref04_EDeep_l0, wb_ref04_EDeep_0, c_ref04_EDeep_k0, go_sem, Nat.reduceAdd, Nat.reduceSub, Nat.reduceMul, Nat.reduceLT, Nat.reduceLeDiff, Int.reduceToNat, Nat.reduceEqDiff, Nat.reduceBEq, ↓reduceIte, reduceCtorEq, eA, scal1, xtavs_len]
    exact xdeep_loop d (by omega) (fun t h => ih t (by omega) h) t hs t.ps [] rfl 0 zeroC (by omega)
theorem xlcount_loop (d : Nat) (hd : d < 1000) (ihd : ∀ t : ET, PCalls Try.prog F_law05_count [xtv t, .int .i64 (d : Nat)] (.int .i64 (xlcnt d t : Nat))) (a : ET) : ∀ (post pre : List ET), a.ps = pre ++ post → ∀ (n : Nat) (nx : Ctr), n ≤ 1000 → pre.length ≤ n →
    RunsX Try.prog 0 (Gives [.t 4] (.int .i64 (xlcntL (xlcnt d) n post : Nat))) (i_law05_count_0 ++ [.c c_law05_count_k0]) (s_law05_count_0 (.int .i64 ((d + 1 : Nat) : Int)) (.ro [.int .i64 a.n, .fz 2 (xtavs a.ps) none]) (.int .i64 (n : Nat)) (.int .i64 (a.ps.length : Nat)) (.int .i64 (pre.length : Nat))) [] nx := by
  intro post
  induction post with
  | nil =>
    intro pre h1 n nx hn hpn
    have h5 : a.ps.length = pre.length := by rw [h1]; simp
    refine round (its := [.blk 0 wb_law05_count_0]) (k0 := [.c c_law05_count_k0]) 100 trivial trivial (fun A eA => ?_)
    simp (disch := first | omega | (simp only [avs_len, List.length_cons, List.length_append, List.length_nil, List.length_take, List.length_drop, List.length_map]; omega) | (simp only [cells, scal1, allSz, List.length_cons, List.length_nil, List.length_append, List.length_map, List.all_cons, List.all_nil, avs_len, beq_self_eq_true, Bool.and_self, and_self, or_true, true_or, reduceCtorEq, *]; done) | fail) only [c_law05_count, wl_law05_count_0, s_law05_count_0, c_law05_count_l0, wb_law05_count_0, c_law05_count_k0, go_sem, Nat.reduceAdd, Nat.reduceSub, Nat.reduceMul, Nat.reduceLT, Nat.reduceLeDiff, Int.reduceToNat, Nat.reduceEqDiff, Nat.reduceBEq, ↓reduceIte, reduceCtorEq, eA]
    refine walk0 (its := [.c c_law05_count_k0]) 100 trivial (fun A eA => ?_)
    simp (disch := first | omega | (simp only [avs_len, List.length_cons, List.length_append, List.length_nil, List.length_take, List.length_drop, List.length_map]; omega) | (simp only [cells, scal1, allSz, List.length_cons, List.length_nil, List.length_append, List.length_map, List.all_cons, List.all_nil, avs_len, beq_self_eq_true, Bool.and_self, and_self, or_true, true_or, reduceCtorEq, *]; done) | fail) only [c_law05_count, wl_law05_count_0, s_law05_count_0, c_law05_count_l0, wb_law05_count_0, c_law05_count_k0, go_sem, Nat.reduceAdd, Nat.reduceSub, Nat.reduceMul, Nat.reduceLT, Nat.reduceLeDiff, Int.reduceToNat, Nat.reduceEqDiff, Nat.reduceBEq, ↓reduceIte, reduceCtorEq, eA]
    exact doneG rfl
  | cons p post ih =>
    intro pre h1 n nx hn hpn
    have hlt : pre.length < a.ps.length := by rw [h1]; simp
    have hpm : p ∈ a.ps := by rw [h1]; simp
    have g0 : (xtavs a.ps)[pre.length]? = some (xtv p) := by rw [xtavs_get, h1]; simp
    have w1 : IntKind.i64.wrap ((pre.length : Int) + 1) = ((pre.length + 1 : Nat) : Int) := by rw [IntKind.wrap_i64]; omega
    have w2 : IntKind.i64.wrap (((d + 1 : Nat) : Int) - 1) = ((d : Nat) : Int) := by rw [IntKind.wrap_i64]; omega
    have hm := xlcnt_le d p
    have hm1 := xlcnt_pos d p
    have w3 : IntKind.i64.wrap ((n : Int) + (xlcnt d p : Nat)) = ((n + xlcnt d p : Nat) : Int) := by rw [IntKind.wrap_i64]; omega
    refine round (its := [.blk 0 wb_law05_count_0]) (k0 := [.c c_law05_count_k0]) 100 trivial trivial (fun A eA => ?_)
    simp (disch := first | omega | (simp only [avs_len, List.length_cons, List.length_append, List.length_nil, List.length_take, List.length_drop, List.length_map]; omega) | (simp only [cells, scal1, allSz, List.length_cons, List.length_nil, List.length_append, List.length_map, List.all_cons, List.all_nil, avs_len, beq_self_eq_true, Bool.and_self, and_self, or_true, true_or, reduceCtorEq, *]; done) | fail) only [c_law05_count, wl_law05_count_0, s_law05_count_0, c_law05_count_l0, wb_law05_count_0, c_law05_count_k0, go_sem, Nat.reduceAdd, Nat.reduceSub, Nat.reduceMul, Nat.reduceLT, Nat.reduceLeDiff, Int.reduceToNat, Nat.reduceEqDiff, Nat.reduceBEq, ↓reduceIte, reduceCtorEq, eA, Int.toNat_natCast, g0, w2, scal1, List.all_cons, List.all_nil, Bool.and_self]
    refine call0 100 trivial trivial (ihd p) (.inl rfl) (fun A eA => ?_)
    by_cases hq : 1000 < n + xlcnt d p
    · simp only [xlcntL, if_pos hq]
      simp (disch := first | omega | (simp only [avs_len, List.length_cons, List.length_append, List.length_nil, List.length_take, List.length_drop, List.length_map]; omega) | (simp only [cells, scal1, allSz, List.length_cons, List.length_nil, List.length_append, List.length_map, List.all_cons, List.all_nil, avs_len, beq_self_eq_true, Bool.and_self, and_self, or_true, true_or, reduceCtorEq, *]; done) | fail) only [c_law05_count, wl_law05_count_0, s_law05_count_0, c_law05_count_l0, wb_law05_count_0, c_law05_count_k0, go_sem, Nat.reduceAdd, Nat.reduceSub, Nat.reduceMul, Nat.reduceLT, Nat.reduceLeDiff, Int.reduceToNat, Nat.reduceEqDiff, Nat.reduceBEq, ↓reduceIte, reduceCtorEq, eA, w3]
      exact doneG rfl
    · simp only [xlcntL, if_neg hq]
      simp (disch := first | omega | (simp only [avs_len, List.length_cons, List.length_append, List.length_nil, List.length_take, List.length_drop, List.length_map]; omega) | (simp only [cells, scal1, allSz, List.length_cons, List.length_nil, List.length_append, List.length_map, List.all_cons, List.all_nil, avs_len, beq_self_eq_true, Bool.and_self, and_self, or_true, true_or, reduceCtorEq, *]; done) | fail) only [c_law05_count, wl_law05_count_0, s_law05_count_0, c_law05_count_l0, wb_law05_count_0, c_law05_count_k0, go_sem, Nat.reduceAdd, Nat.reduceSub, Nat.reduceMul, Nat.reduceLT, Nat.reduceLeDiff, Int.reduceToNat, Nat.reduceEqDiff, Nat.reduceBEq, ↓reduceIte, reduceCtorEq, eA, w1, w3]
      have hih := ih (pre ++ [p]) (by rw [h1]; simp) (n + xlcnt d p) nx (by omega) (by simp; omega)
      rw [show (pre ++ [p]).length = pre.length + 1 by simp] at hih
      exact hih
theorem xlcount_calls : ∀ (d : Nat) (t : ET), d < 1000 → PCalls Try.prog F_law05_count [xtv t, .int .i64 (d : Nat)] (.int .i64 (xlcnt d t : Nat)) := by
  intro d
  induction d with
  | zero =>
    intro t _
    refine calls_law05_count (walk0 100 trivial (fun A eA => ?_))
    simp (disch := first | omega | (simp only [avs_len, List.length_cons, List.length_append, List.length_nil, List.length_take, List.length_drop, List.length_map]; omega) | (simp only [cells, scal1, allSz, List.length_cons, List.length_nil, List.length_append, List.length_map, List.all_cons, List.all_nil, avs_len, beq_self_eq_true, Bool.and_self, and_self, or_true, true_or, reduceCtorEq, *]; done) | fail) only [c_law05_count, wl_law05_count_0, s_law05_count_0, c_law05_count_l0, wb_law05_count_0, c_law05_count_k0, go_sem, Nat.reduceAdd, Nat.reduceSub, Nat.reduceMul, Nat.reduceLT, Nat.reduceLeDiff, Int.reduceToNat, Nat.reduceEqDiff, Nat.reduceBEq, ↓reduceIte, reduceCtorEq, eA, scal1, xtavs_len]
    exact doneG rfl
  | succ d ih =>
    intro t hd
    refine calls_law05_count (walk0 100 trivial (fun A eA => ?_))
    simp (disch := first | omega | (simp only [avs_len, List.length_cons, List.length_append, List.length_nil, List.length_take, List.length_drop, List.length_map]; omega) | (simp only [cells, scal1, allSz, List.length_cons, List.length_nil, List.length_append, List.length_map, List.all_cons, List.all_nil, avs_len, beq_self_eq_true, Bool.and_self, and_self, or_true, true_or, reduceCtorEq, *]; done) | fail) only [c_law05_count, wl_law05_count_0, s_law05_count_0, c_law05_count_l0, wb_law05_count_0, c_law05_count_k0, go_sem, Nat.reduceAdd, Nat.reduceSub, Nat.reduceMul, Nat.reduceLT, Nat.reduceLeDiff, Int.reduceToNat, Nat.reduceEqDiff, Nat.reduceBEq, ↓reduceIte, reduceCtorEq, eA, scal1, xtavs_len]
    exact xlcount_loop d (by omega) (fun t => ih t (by omega)) t t.ps [] rfl 1 zeroC (by omega) (by simp)
theorem xFew_calls (t : ET) : PCalls Try.prog F_law05_Few [xtv t, .int .i64 30] (.bool (decide (xlcnt 30 t ≤ 1000))) := by
  refine calls_law05_Few (walk0 100 trivial (fun A eA => ?_))
  simp (disch := first | omega | (simp only [avs_len, List.length_cons, List.length_append, List.length_nil, List.length_take, List.length_drop, List.length_map]; omega) | (simp only [cells, scal1, allSz, List.length_cons, List.length_nil, List.length_append, List.length_map, List.all_cons, List.all_nil, avs_len, beq_self_eq_true, Bool.and_self, and_self, or_true, true_or, reduceCtorEq, *]; done) | fail) only [c_law05_Few, go_sem, Nat.reduceAdd, Nat.reduceSub, Nat.reduceMul, Nat.reduceLT, Nat.reduceLeDiff, Int.reduceToNat, Nat.reduceEqDiff, Nat.reduceBEq, ↓reduceIte, reduceCtorEq, eA, scal1, xtavs_len]
  refine call0 100 trivial trivial (xlcount_calls 30 t (by omega)) (.inl rfl) (fun A eA => ?_)
  simp (disch := first | omega | (simp only [avs_len, List.length_cons, List.length_append, List.length_nil, List.length_take, List.length_drop, List.length_map]; omega) | (simp only [cells, scal1, allSz, List.length_cons, List.length_nil, List.length_append, List.length_map, List.all_cons, List.all_nil, avs_len, beq_self_eq_true, Bool.and_self, and_self, or_true, true_or, reduceCtorEq, *]; done) | fail) only [c_law05_Few, go_sem, Nat.reduceAdd, Nat.reduceSub, Nat.reduceMul, Nat.reduceLT, Nat.reduceLeDiff, Int.reduceToNat, Nat.reduceEqDiff, Nat.reduceBEq, ↓reduceIte, reduceCtorEq, eA]
  by_cases h : xlcnt 30 t ≤ 1000
  · simp (disch := first | omega | (simp only [avs_len, List.length_cons, List.length_append, List.length_nil, List.length_take, List.length_drop, List.length_map]; omega) | (simp only [cells, scal1, allSz, List.length_cons, List.length_nil, List.length_append, List.length_map, List.all_cons, List.all_nil, avs_len, beq_self_eq_true, Bool.and_self, and_self, or_true, true_or, reduceCtorEq, *]; done) | fail) only [go_sem, Nat.reduceAdd, Nat.reduceSub, Nat.reduceMul, Nat.reduceLT, Nat.reduceLeDiff, Int.reduceToNat, Nat.reduceEqDiff, Nat.reduceBEq, ↓reduceIte, reduceCtorEq]
    exact doneG rfl
  · simp (disch := first | omega | (simp only [avs_len, List.length_cons, List.length_append, List.length_nil, List.length_take, List.length_drop, List.length_map]; omega) | (simp only [cells, scal1, allSz, List.length_cons, List.length_nil, List.length_append, List.length_map, List.all_cons, List.all_nil, avs_len, beq_self_eq_true, Bool.and_self, and_self, or_true, true_or, reduceCtorEq, *]; done) | fail) only [go_sem, Nat.reduceAdd, Nat.reduceSub, Nat.reduceMul, Nat.reduceLT, Nat.reduceLeDiff, Int.reduceToNat, Nat.reduceEqDiff, Nat.reduceBEq, ↓reduceIte, reduceCtorEq]
    exact doneG rfl
end Go.Proofs.Ytmokhopjnjecbab
/- The walk through the reference's functions on events. -/
-- short
namespace Go.Proofs.Ytmokhopjnjecbab
open Go.Ev
set_option linter.unusedVariables false
set_option linter.unusedSimpArgs false
set_option maxRecDepth 100000
variable {R : List AV → Heap → Ctr → Prop} {k : List It} {H : Heap} {nx : Ctr} {φ : Nat}

def xlf (l r : ET) : Bool := decide (l.ps.length = 0) && decide (r.ps.length = 0) && decide (l.n = r.n)
def xz (l r : ET) : Bool := decide (l.n = 0) || decide (r.n = 0)
set_option maxHeartbeats 4000000 in
theorem refEcount_nd {t l r : ET} {n1 n2 : Nat} {x y : Bool} (hlr : t.ps = [l, r]) (hn : 0 ≤ t.n ∧ t.n ≤ 1099511627776) (c1 : PCalls Try.prog F_ref04_ecount [xtv l] (.tup [.int .i64 (n1 : Nat), .bool x])) (c2 : PCalls Try.prog F_ref04_ecount [xtv r] (.tup [.int .i64 (n2 : Nat), .bool y])) (b1 : n1 ≤ 1000) (b2 : n2 ≤ 1000) : PCalls Try.prog F_ref04_ecount [xtv t] (.tup [.int .i64 ((min (n1 + n2 + 1) 1000 : Nat) : Int), .bool (x && y && !xlf l r && xz l r)]) := by
  have g0 : (xtavs [l, r])[0]? = some (xtv l) := by rw [xtavs_get]; rfl
  have g1 : (xtavs [l, r])[1]? = some (xtv r) := by rw [xtavs_get]; rfl
  have w1 : IntKind.i64.wrap ((n1 : Int) + (n2 : Nat)) = ((n1 + n2 : Nat) : Int) := by rw [IntKind.wrap_i64]; omega
  have w2 : IntKind.i64.wrap (((n1 + n2 : Nat) : Int) + 1) = ((n1 + n2 + 1 : Nat) : Int) := by rw [IntKind.wrap_i64]; omega
  have w3 : (if (1000 : Int) < ((n1 + n2 + 1 : Nat) : Int) then (1000 : Int) else ((n1 + n2 + 1 : Nat) : Int)) = ((min (n1 + n2 + 1) 1000 : Nat) : Int) := by split <;> omega
  refine calls_ref04_ecount (walk0 100 trivial (fun A eA => ?_))
  simp (disch := first | omega | (simp only [avs_len, List.length_cons, List.length_append, List.length_nil, List.length_take, List.length_drop, List.length_map]; omega) | (simp only [cells, scal1, allSz, List.length_cons, List.length_nil, List.length_append, List.length_map, List.all_cons, List.all_nil, avs_len, beq_self_eq_true, Bool.and_self, and_self, or_true, true_or, reduceCtorEq, *]; done) | fail) only [c_ref04_ecount, go_sem, Nat.reduceAdd, Nat.reduceSub, Nat.reduceMul, Nat.reduceLT, Nat.reduceLeDiff, Int.reduceToNat, Nat.reduceEqDiff, Nat.reduceBEq, ↓reduceIte, reduceCtorEq, eA, scal1, xtavs_len, hlr, g0, g1, List.all_cons, List.all_nil, Bool.and_self]
  refine call0 100 trivial trivial c1 (.inl rfl) (fun A eA => ?_)
  simp (disch := first | omega | (simp only [avs_len, List.length_cons, List.length_append, List.length_nil, List.length_take, List.length_drop, List.length_map]; omega) | (simp only [cells, scal1, allSz, List.length_cons, List.length_nil, List.length_append, List.length_map, List.all_cons, List.all_nil, avs_len, beq_self_eq_true, Bool.and_self, and_self, or_true, true_or, reduceCtorEq, *]; done) | fail) only [c_ref04_ecount, go_sem, Nat.reduceAdd, Nat.reduceSub, Nat.reduceMul, Nat.reduceLT, Nat.reduceLeDiff, Int.reduceToNat, Nat.reduceEqDiff, Nat.reduceBEq, ↓reduceIte, reduceCtorEq, eA, hlr, g0, g1, List.all_cons, List.all_nil, Bool.and_self, scal1]
  refine call0 100 trivial trivial c2 (.inl rfl) (fun A eA => ?_)
  have kk : (l.ps.length = 0 ∧ r.ps.length = 0 ∧ l.n = r.n) ∨ (l.ps.length = 0 ∧ r.ps.length = 0 ∧ ¬ l.n = r.n) ∨ (l.ps.length = 0 ∧ ¬ r.ps.length = 0) ∨ ¬ l.ps.length = 0 := by omega
  have zz : l.n = 0 ∨ (¬ l.n = 0 ∧ r.n = 0) ∨ (¬ l.n = 0 ∧ ¬ r.n = 0) := by omega
  cases x <;> cases y
  case true.true =>
    rcases kk with ⟨a1, a2, a3⟩ | ⟨a1, a2, a3⟩ | ⟨a1, a2⟩ | a1
    · have e : xlf l r = true := by simp only [xlf, a1, a2, a3, decide_true, Bool.and_self]
      rw [e]
      simp (disch := first | omega | (simp only [avs_len, List.length_cons, List.length_append, List.length_nil, List.length_take, List.length_drop, List.length_map]; omega) | (simp only [cells, scal1, allSz, List.length_cons, List.length_nil, List.length_append, List.length_map, List.all_cons, List.all_nil, avs_len, beq_self_eq_true, Bool.and_self, and_self, or_true, true_or, reduceCtorEq, *]; done) | fail) only [c_ref04_ecount, go_sem, Nat.reduceAdd, Nat.reduceSub, Nat.reduceMul, Nat.reduceLT, Nat.reduceLeDiff, Int.reduceToNat, Nat.reduceEqDiff, Nat.reduceBEq, ↓reduceIte, reduceCtorEq, eA, hlr, g0, g1, List.all_cons, List.all_nil, Bool.and_self, scal1, xtavs_len, w1, w2, w3, Bool.and_false, Bool.false_and, Bool.true_or]
      refine doneG ?_
      simp (disch := first | omega | (simp only [avs_len, List.length_cons, List.length_append, List.length_nil, List.length_take, List.length_drop, List.length_map]; omega) | (simp only [cells, scal1, allSz, List.length_cons, List.length_nil, List.length_append, List.length_map, List.all_cons, List.all_nil, avs_len, beq_self_eq_true, Bool.and_self, and_self, or_true, true_or, reduceCtorEq, *]; done) | fail) only [go_sem, Nat.reduceAdd, Nat.reduceSub, Nat.reduceMul, Nat.reduceLT, Nat.reduceLeDiff, Int.reduceToNat, Nat.reduceEqDiff, Nat.reduceBEq, ↓reduceIte, reduceCtorEq, w3, Bool.and_self, Bool.and_false, Bool.false_and]
    all_goals
      have e : xlf l r = false := by simp only [xlf, a1, decide_true, decide_false, Bool.false_and, Bool.true_and, Bool.and_eq_false_iff, decide_eq_false_iff_not]; first | done | exact .inl a2 | exact .inr a3
      rw [e]
      rcases zz with z1 | ⟨z1, z2⟩ | ⟨z1, z2⟩
      · have e2 : xz l r = true := by simp only [xz, z1, decide_true, Bool.true_or]
        rw [e2]
        simp (disch := first | omega | (simp only [avs_len, List.length_cons, List.length_append, List.length_nil, List.length_take, List.length_drop, List.length_map]; omega) | (simp only [cells, scal1, allSz, List.length_cons, List.length_nil, List.length_append, List.length_map, List.all_cons, List.all_nil, avs_len, beq_self_eq_true, Bool.and_self, and_self, or_true, true_or, reduceCtorEq, *]; done) | fail) only [c_ref04_ecount, go_sem, Nat.reduceAdd, Nat.reduceSub, Nat.reduceMul, Nat.reduceLT, Nat.reduceLeDiff, Int.reduceToNat, Nat.reduceEqDiff, Nat.reduceBEq, ↓reduceIte, reduceCtorEq, eA, hlr, g0, g1, List.all_cons, List.all_nil, Bool.and_self, scal1, xtavs_len, w1, w2, w3, Bool.and_false, Bool.false_and, Bool.true_or]
        refine doneG ?_
        simp (disch := first | omega | (simp only [avs_len, List.length_cons, List.length_append, List.length_nil, List.length_take, List.length_drop, List.length_map]; omega) | (simp only [cells, scal1, allSz, List.length_cons, List.length_nil, List.length_append, List.length_map, List.all_cons, List.all_nil, avs_len, beq_self_eq_true, Bool.and_self, and_self, or_true, true_or, reduceCtorEq, *]; done) | fail) only [go_sem, Nat.reduceAdd, Nat.reduceSub, Nat.reduceMul, Nat.reduceLT, Nat.reduceLeDiff, Int.reduceToNat, Nat.reduceEqDiff, Nat.reduceBEq, ↓reduceIte, reduceCtorEq, w3, Bool.and_self]
      · have e2 : xz l r = true := by simp only [xz, z2, decide_true, Bool.or_true]
        rw [e2]
        simp (disch := first | omega | (simp only [avs_len, List.length_cons, List.length_append, List.length_nil, List.length_take, List.length_drop, List.length_map]; omega) | (simp only [cells, scal1, allSz, List.length_cons, List.length_nil, List.length_append, List.length_map, List.all_cons, List.all_nil, avs_len, beq_self_eq_true, Bool.and_self, and_self, or_true, true_or, reduceCtorEq, *]; done) | fail) only [c_ref04_ecount, go_sem, Nat.reduceAdd, Nat.reduceSub, Nat.reduceMul, Nat.reduceLT, Nat.reduceLeDiff, Int.reduceToNat, Nat.reduceEqDiff, Nat.reduceBEq, ↓reduceIte, reduceCtorEq, eA, hlr, g0, g1, List.all_cons, List.all_nil, Bool.and_self, scal1, xtavs_len, w1, w2, w3, Bool.and_false, Bool.false_and, Bool.true_or]
        refine doneG ?_
        simp (disch := first | omega | (simp only [avs_len, List.length_cons, List.length_append, List.length_nil, List.length_take, List.length_drop, List.length_map]; omega) | (simp only [cells, scal1, allSz, List.length_cons, List.length_nil, List.length_append, List.length_map, List.all_cons, List.all_nil, avs_len, beq_self_eq_true, Bool.and_self, and_self, or_true, true_or, reduceCtorEq, *]; done) | fail) only [go_sem, Nat.reduceAdd, Nat.reduceSub, Nat.reduceMul, Nat.reduceLT, Nat.reduceLeDiff, Int.reduceToNat, Nat.reduceEqDiff, Nat.reduceBEq, ↓reduceIte, reduceCtorEq, w3, Bool.and_self]
      · have e2 : xz l r = false := by simp only [xz, z1, z2, decide_false, Bool.or_false]
        rw [e2]
        simp (disch := first | omega | (simp only [avs_len, List.length_cons, List.length_append, List.length_nil, List.length_take, List.length_drop, List.length_map]; omega) | (simp only [cells, scal1, allSz, List.length_cons, List.length_nil, List.length_append, List.length_map, List.all_cons, List.all_nil, avs_len, beq_self_eq_true, Bool.and_self, and_self, or_true, true_or, reduceCtorEq, *]; done) | fail) only [c_ref04_ecount, go_sem, Nat.reduceAdd, Nat.reduceSub, Nat.reduceMul, Nat.reduceLT, Nat.reduceLeDiff, Int.reduceToNat, Nat.reduceEqDiff, Nat.reduceBEq, ↓reduceIte, reduceCtorEq, eA, hlr, g0, g1, List.all_cons, List.all_nil, Bool.and_self, scal1, xtavs_len, w1, w2, w3, Bool.and_false, Bool.false_and, Bool.true_or]
        refine doneG ?_
        simp (disch := first | omega | (simp only [avs_len, List.length_cons, List.length_append, List.length_nil, List.length_take, List.length_drop, List.length_map]; omega) | (simp only [cells, scal1, allSz, List.length_cons, List.length_nil, List.length_append, List.length_map, List.all_cons, List.all_nil, avs_len, beq_self_eq_true, Bool.and_self, and_self, or_true, true_or, reduceCtorEq, *]; done) | fail) only [go_sem, Nat.reduceAdd, Nat.reduceSub, Nat.reduceMul, Nat.reduceLT, Nat.reduceLeDiff, Int.reduceToNat, Nat.reduceEqDiff, Nat.reduceBEq, ↓reduceIte, reduceCtorEq, w3, Bool.and_self]
  all_goals
    simp only [Bool.and_false, Bool.false_and, Bool.and_true, Bool.true_and]
    rcases kk with ⟨a1, a2, a3⟩ | ⟨a1, a2, a3⟩ | ⟨a1, a2⟩ | a1
    all_goals
      simp (disch := first | omega | (simp only [avs_len, List.length_cons, List.length_append, List.length_nil, List.length_take, List.length_drop, List.length_map]; omega) | (simp only [cells, scal1, allSz, List.length_cons, List.length_nil, List.length_append, List.length_map, List.all_cons, List.all_nil, avs_len, beq_self_eq_true, Bool.and_self, and_self, or_true, true_or, reduceCtorEq, *]; done) | fail) only [c_ref04_ecount, go_sem, Nat.reduceAdd, Nat.reduceSub, Nat.reduceMul, Nat.reduceLT, Nat.reduceLeDiff, Int.reduceToNat, Nat.reduceEqDiff, Nat.reduceBEq, ↓reduceIte, reduceCtorEq, eA, hlr, g0, g1, List.all_cons, List.all_nil, Bool.and_self, scal1, xtavs_len, w1, w2, w3, Bool.and_false, Bool.false_and, Bool.true_or]
      refine doneG ?_
      simp (disch := first | omega | (simp only [avs_len, List.length_cons, List.length_append, List.length_nil, List.length_take, List.length_drop, List.length_map]; omega) | (simp only [cells, scal1, allSz, List.length_cons, List.length_nil, List.length_append, List.length_map, List.all_cons, List.all_nil, avs_len, beq_self_eq_true, Bool.and_self, and_self, or_true, true_or, reduceCtorEq, *]; done) | fail) only [go_sem, Nat.reduceAdd, Nat.reduceSub, Nat.reduceMul, Nat.reduceLT, Nat.reduceLeDiff, Int.reduceToNat, Nat.reduceEqDiff, Nat.reduceBEq, ↓reduceIte, reduceCtorEq, w3, Bool.and_self]
theorem refEcount_calls : ∀ t : ET, ∃ (n : Nat) (ok : Bool), PCalls Try.prog F_ref04_ecount [xtv t] (.tup [.int .i64 (n : Nat), .bool ok]) ∧ n ≤ 1000 ∧ (ok = true ↔ ∃ b : E, t = b.t ∧ b.short = true ∧ b.small = true) ∧ (ok = true → ∀ b : E, t = b.t → n = min b.nodes 1000) := by
  intro t
  induction t using ET.ind with
  | h t ih =>
    have he := t.eta
    by_cases hn : 0 ≤ t.n ∧ t.n ≤ 1099511627776
    case neg =>
      refine ⟨0, false, ?_, by omega, ?_, fun h => by cases h⟩
      · by_cases h1 : t.n < 0
        · refine calls_ref04_ecount (walk0 100 trivial (fun A eA => ?_))
          simp (disch := first | omega | (simp only [avs_len, List.length_cons, List.length_append, List.length_nil, List.length_take, List.length_drop, List.length_map]; omega) | (simp only [cells, scal1, allSz, List.length_cons, List.length_nil, List.length_append, List.length_map, List.all_cons, List.all_nil, avs_len, beq_self_eq_true, Bool.and_self, and_self, or_true, true_or, reduceCtorEq, *]; done) | fail) only [c_ref04_ecount, go_sem, Nat.reduceAdd, Nat.reduceSub, Nat.reduceMul, Nat.reduceLT, Nat.reduceLeDiff, Int.reduceToNat, Nat.reduceEqDiff, Nat.reduceBEq, ↓reduceIte, reduceCtorEq, eA, scal1, xtavs_len]
          exact doneG rfl
        · refine calls_ref04_ecount (walk0 100 trivial (fun A eA => ?_))
          simp (disch := first | omega | (simp only [avs_len, List.length_cons, List.length_append, List.length_nil, List.length_take, List.length_drop, List.length_map]; omega) | (simp only [cells, scal1, allSz, List.length_cons, List.length_nil, List.length_append, List.length_map, List.all_cons, List.all_nil, avs_len, beq_self_eq_true, Bool.and_self, and_self, or_true, true_or, reduceCtorEq, *]; done) | fail) only [c_ref04_ecount, go_sem, Nat.reduceAdd, Nat.reduceSub, Nat.reduceMul, Nat.reduceLT, Nat.reduceLeDiff, Int.reduceToNat, Nat.reduceEqDiff, Nat.reduceBEq, ↓reduceIte, reduceCtorEq, eA, scal1, xtavs_len]
          exact doneG rfl
      · simp only [Bool.false_eq_true, false_iff]
        rintro ⟨b, rfl, -, hs⟩
        have := b.t_n
        have := E.small_n hs
        omega
    obtain ⟨m, hm⟩ : ∃ m : Nat, t.n = (m : Int) := ⟨t.n.toNat, by omega⟩
    by_cases h0 : t.ps.length = 0
    · have h00 : t.ps = [] := List.eq_nil_of_length_eq_zero h0
      refine ⟨1, true, ?_, by omega, ?_, ?_⟩
      · refine calls_ref04_ecount (walk0 100 trivial (fun A eA => ?_))
        simp (disch := first | omega | (simp only [avs_len, List.length_cons, List.length_append, List.length_nil, List.length_take, List.length_drop, List.length_map]; omega) | (simp only [cells, scal1, allSz, List.length_cons, List.length_nil, List.length_append, List.length_map, List.all_cons, List.all_nil, avs_len, beq_self_eq_true, Bool.and_self, and_self, or_true, true_or, reduceCtorEq, *]; done) | fail) only [c_ref04_ecount, go_sem, Nat.reduceAdd, Nat.reduceSub, Nat.reduceMul, Nat.reduceLT, Nat.reduceLeDiff, Int.reduceToNat, Nat.reduceEqDiff, Nat.reduceBEq, ↓reduceIte, reduceCtorEq, eA, scal1, xtavs_len]
        exact doneG rfl
      · simp only [true_iff]
        exact ⟨.lf m, by rw [← he, hm, h00]; rfl, rfl, by simp only [E.small, decide_eq_true_eq]; omega⟩
      · rintro - b rfl
        cases b with
        | lf o => rfl
        | nd n l r => simp [E.t, ET.ps] at h00
    by_cases h2 : t.ps.length = 2
    · obtain ⟨l, r, hlr⟩ : ∃ l r, t.ps = [l, r] := by
        match t.ps, h2 with
        | [l, r], _ => exact ⟨l, r, rfl⟩
      obtain ⟨n1, x, c1, b1, e1, f1⟩ := ih l (by rw [hlr]; simp)
      obtain ⟨n2, y, c2, b2, e2, f2⟩ := ih r (by rw [hlr]; simp)
      have key : ∀ b : E, t = b.t → ∃ n bl br, b = .nd n bl br ∧ l = bl.t ∧ r = br.t := by
        rintro b rfl
        cases b with
        | lf o => simp [E.t, ET.ps] at h0
        | nd n bl br => simp [E.t, ET.ps] at hlr; exact ⟨n, bl, br, rfl, hlr.1.symm, hlr.2.symm⟩
      have hlf : ∀ bl br : E, xlf bl.t br.t = (bl.leaf && br.leaf && decide (bl.n = br.n)) := by
        intro bl br
        simp only [xlf, E.t_leaf, E.t_n]
        congr 1
        rw [decide_eq_decide]; omega
      have hz : ∀ bl br : E, xz bl.t br.t = (decide (bl.n = 0) || decide (br.n = 0)) := by
        intro bl br
        simp only [xz, E.t_n]
        congr 1 <;> (rw [decide_eq_decide]; omega)
      refine ⟨min (n1 + n2 + 1) 1000, x && y && !xlf l r && xz l r, ?_, by omega, ?_, ?_⟩
      · exact refEcount_nd hlr hn c1 c2 b1 b2
      · simp only [Bool.and_eq_true, e1, e2]
        constructor
        · rintro ⟨⟨⟨⟨bl, rfl, s1, m1⟩, ⟨br, rfl, s2, m2⟩⟩, s3⟩, s4⟩
          rw [hlf] at s3
          rw [hz] at s4
          exact ⟨.nd m bl br, by rw [← he, hm, hlr]; rfl, by simp only [E.short, s1, s2, s3, s4, Bool.and_self], by simp only [E.small, m1, m2, Bool.and_true, decide_eq_true_eq]; omega⟩
        · rintro ⟨b, hb, hsh, hsm⟩
          obtain ⟨n, bl, br, rfl, rfl, rfl⟩ := key b hb
          simp only [E.short, Bool.and_eq_true] at hsh
          simp only [E.small, Bool.and_eq_true] at hsm
          rw [hlf, hz]
          exact ⟨⟨⟨⟨bl, rfl, hsh.1.1.1, hsm.1.2⟩, ⟨br, rfl, hsh.1.1.2, hsm.2⟩⟩, hsh.2⟩, hsh.1.2⟩
      · intro hok b hb
        obtain ⟨n, bl, br, rfl, hl, hr⟩ := key b hb
        simp only [Bool.and_eq_true] at hok
        have := f1 hok.1.1.1 bl hl
        have := f2 hok.1.1.2 br hr
        simp only [E.nodes]
        omega
    · refine ⟨0, false, ?_, by omega, ?_, fun h => by cases h⟩
      · refine calls_ref04_ecount (walk0 100 trivial (fun A eA => ?_))
        simp (disch := first | omega | (simp only [avs_len, List.length_cons, List.length_append, List.length_nil, List.length_take, List.length_drop, List.length_map]; omega) | (simp only [cells, scal1, allSz, List.length_cons, List.length_nil, List.length_append, List.length_map, List.all_cons, List.all_nil, avs_len, beq_self_eq_true, Bool.and_self, and_self, or_true, true_or, reduceCtorEq, *]; done) | fail) only [c_ref04_ecount, go_sem, Nat.reduceAdd, Nat.reduceSub, Nat.reduceMul, Nat.reduceLT, Nat.reduceLeDiff, Int.reduceToNat, Nat.reduceEqDiff, Nat.reduceBEq, ↓reduceIte, reduceCtorEq, eA, scal1, xtavs_len]
        exact doneG rfl
      · simp only [Bool.false_eq_true, false_iff]
        rintro ⟨b, rfl, -⟩
        cases b with
        | lf o => simp [E.t, ET.ps] at h0
        | nd n l r => simp [E.t, ET.ps] at h2
theorem refERight_calls (t : ET) (hs : t.size < 2 ^ 60) : PCalls Try.prog F_ref04_ERight [xtv t] (.bool (xrtb t)) := by
  refine calls_ref04_ERight (walk0 100 trivial (fun A eA => ?_))
  simp (disch := first | omega | (simp only [avs_len, List.length_cons, List.length_append, List.length_nil, List.length_take, List.length_drop, List.length_map]; omega) | (simp only [cells, scal1, allSz, List.length_cons, List.length_nil, List.length_append, List.length_map, List.all_cons, List.all_nil, avs_len, beq_self_eq_true, Bool.and_self, and_self, or_true, true_or, reduceCtorEq, *]; done) | fail) only [c_ref04_ERight, go_sem, Nat.reduceAdd, Nat.reduceSub, Nat.reduceMul, Nat.reduceLT, Nat.reduceLeDiff, Int.reduceToNat, Nat.reduceEqDiff, Nat.reduceBEq, ↓reduceIte, reduceCtorEq, eA, scal1, xtavs_len]
  refine call0 100 trivial trivial (xdeep_calls 8 t (by omega) hs) (.inl rfl) (fun A eA => ?_)
  have hno : ¬ XRt t → xrtb t = false := fun h => by rw [Bool.eq_false_iff, ne_eq, xrtb_true]; exact h
  by_cases h : xdeep 8 t ≤ 8
  · simp (disch := first | omega | (simp only [avs_len, List.length_cons, List.length_append, List.length_nil, List.length_take, List.length_drop, List.length_map]; omega) | (simp only [cells, scal1, allSz, List.length_cons, List.length_nil, List.length_append, List.length_map, List.all_cons, List.all_nil, avs_len, beq_self_eq_true, Bool.and_self, and_self, or_true, true_or, reduceCtorEq, *]; done) | fail) only [c_ref04_ERight, go_sem, Nat.reduceAdd, Nat.reduceSub, Nat.reduceMul, Nat.reduceLT, Nat.reduceLeDiff, Int.reduceToNat, Nat.reduceEqDiff, Nat.reduceBEq, ↓reduceIte, reduceCtorEq, eA]
    obtain ⟨n, ok, c, hn, h1, h2⟩ := refEcount_calls t
    refine call0 100 trivial trivial c (.inl rfl) (fun A eA => ?_)
    cases ok with
    | false =>
      simp (disch := first | omega | (simp only [avs_len, List.length_cons, List.length_append, List.length_nil, List.length_take, List.length_drop, List.length_map]; omega) | (simp only [cells, scal1, allSz, List.length_cons, List.length_nil, List.length_append, List.length_map, List.all_cons, List.all_nil, avs_len, beq_self_eq_true, Bool.and_self, and_self, or_true, true_or, reduceCtorEq, *]; done) | fail) only [c_ref04_ERight, go_sem, Nat.reduceAdd, Nat.reduceSub, Nat.reduceMul, Nat.reduceLT, Nat.reduceLeDiff, Int.reduceToNat, Nat.reduceEqDiff, Nat.reduceBEq, ↓reduceIte, reduceCtorEq, eA]
      rw [hno (by rintro ⟨b, hb, -, -, hsh, hsm⟩; have := h1.2 ⟨b, hb, hsh, hsm⟩; cases this)]
      exact doneG rfl
    | true =>
      obtain ⟨b, rfl, hsh, hsm⟩ := h1.1 rfl
      have hn2 := h2 rfl b rfl
      have hdp := (xflat_dep 8 b).1 ((xdeep_le 8 _).1 h)
      by_cases h6 : n ≤ 60
      · simp (disch := first | omega | (simp only [avs_len, List.length_cons, List.length_append, List.length_nil, List.length_take, List.length_drop, List.length_map]; omega) | (simp only [cells, scal1, allSz, List.length_cons, List.length_nil, List.length_append, List.length_map, List.all_cons, List.all_nil, avs_len, beq_self_eq_true, Bool.and_self, and_self, or_true, true_or, reduceCtorEq, *]; done) | fail) only [c_ref04_ERight, go_sem, Nat.reduceAdd, Nat.reduceSub, Nat.reduceMul, Nat.reduceLT, Nat.reduceLeDiff, Int.reduceToNat, Nat.reduceEqDiff, Nat.reduceBEq, ↓reduceIte, reduceCtorEq, eA]
        rw [xrtb_true.2 ⟨b, rfl, hdp, by omega, hsh, hsm⟩]
        exact doneG rfl
      · simp (disch := first | omega | (simp only [avs_len, List.length_cons, List.length_append, List.length_nil, List.length_take, List.length_drop, List.length_map]; omega) | (simp only [cells, scal1, allSz, List.length_cons, List.length_nil, List.length_append, List.length_map, List.all_cons, List.all_nil, avs_len, beq_self_eq_true, Bool.and_self, and_self, or_true, true_or, reduceCtorEq, *]; done) | fail) only [c_ref04_ERight, go_sem, Nat.reduceAdd, Nat.reduceSub, Nat.reduceMul, Nat.reduceLT, Nat.reduceLeDiff, Int.reduceToNat, Nat.reduceEqDiff, Nat.reduceBEq, ↓reduceIte, reduceCtorEq, eA]
        rw [hno (by rintro ⟨b', hb, -, h7, -⟩; obtain rfl := E.inj hb; omega)]
        exact doneG rfl
  · simp (disch := first | omega | (simp only [avs_len, List.length_cons, List.length_append, List.length_nil, List.length_take, List.length_drop, List.length_map]; omega) | (simp only [cells, scal1, allSz, List.length_cons, List.length_nil, List.length_append, List.length_map, List.all_cons, List.all_nil, avs_len, beq_self_eq_true, Bool.and_self, and_self, or_true, true_or, reduceCtorEq, *]; done) | fail) only [c_ref04_ERight, go_sem, Nat.reduceAdd, Nat.reduceSub, Nat.reduceMul, Nat.reduceLT, Nat.reduceLeDiff, Int.reduceToNat, Nat.reduceEqDiff, Nat.reduceBEq, ↓reduceIte, reduceCtorEq, eA]
    rw [hno (by rintro ⟨b, rfl, h7, -, -⟩; exact h ((xdeep_le 8 _).2 ((xflat_dep 8 b).2 h7)))]
    exact doneG rfl
end Go.Proofs.Ytmokhopjnjecbab
/- Rows of counts, and the shortest event tree of a row: plain. -/
namespace Go.Ev
set_option linter.unusedVariables false
set_option linter.unnecessarySimpa false
set_option linter.unusedSimpArgs false

def rowE : Nat → E → List Nat
  | d, .lf n => List.replicate (2 ^ d) n
  | 0, .nd n _ _ => [n]
  | d + 1, .nd n l r => (rowE d l ++ rowE d r).map (n + ·)
theorem rowE_lf (d n : Nat) : rowE d (.lf n) = List.replicate (2 ^ d) n := by cases d <;> rfl
theorem rowE_len : ∀ (d : Nat) (e : E), (rowE d e).length = 2 ^ d
  | d, .lf n => by rw [rowE_lf]; simp
  | 0, .nd n l r => by simp [rowE]
  | d + 1, .nd n l r => by simp only [rowE, List.length_map, List.length_append, rowE_len, Nat.pow_succ]; omega
def E.lift (m : Nat) : E → E
  | .lf n => .lf (n + m)
  | .nd n l r => .nd (n + m) l r
def E.sub (m : Nat) : E → E
  | .lf n => .lf (n - m)
  | .nd n l r => .nd (n - m) l r
def E.half (k : Bool) : E → E
  | .lf n => .lf n
  | .nd n l r => if k then r.lift n else l.lift n
theorem E.lift_n (e : E) (m : Nat) : (e.lift m).n = e.n + m := by cases e <;> rfl
theorem E.sub_n (e : E) (m : Nat) : (e.sub m).n = e.n - m := by cases e <;> rfl
theorem E.lift_leaf (e : E) (m : Nat) : (e.lift m).leaf = e.leaf := by cases e <;> rfl
theorem E.sub_leaf (e : E) (m : Nat) : (e.sub m).leaf = e.leaf := by cases e <;> rfl
theorem E.lift_dep (e : E) (m : Nat) : (e.lift m).dep = e.dep := by cases e <;> rfl
theorem E.sub_dep (e : E) (m : Nat) : (e.sub m).dep = e.dep := by cases e <;> rfl
theorem E.lift_nodes (e : E) (m : Nat) : (e.lift m).nodes = e.nodes := by cases e <;> rfl
theorem E.sub_nodes (e : E) (m : Nat) : (e.sub m).nodes = e.nodes := by cases e <;> rfl
theorem E.lift_short (e : E) (m : Nat) : (e.lift m).short = e.short := by cases e <;> rfl
theorem E.sub_short (e : E) (m : Nat) : (e.sub m).short = e.short := by cases e <;> rfl
theorem E.sub_lift (e : E) (m : Nat) (h : m ≤ e.n) : (e.sub m).lift m = e := by
  cases e with
  | lf n => simp only [E.sub, E.lift]; congr 1; exact Nat.sub_add_cancel h
  | nd n l r => simp only [E.sub, E.lift]; congr 1; exact Nat.sub_add_cancel h
theorem E.lift_zero (e : E) : e.lift 0 = e := by cases e <;> rfl
theorem rowE_lift (d : Nat) (e : E) (m : Nat) : rowE d (e.lift m) = (rowE d e).map (m + ·) := by
  cases e with
  | lf n => simp only [E.lift, rowE_lf, List.map_replicate]; congr 1; omega
  | nd n l r =>
    cases d with
    | zero => simp only [E.lift, rowE, List.map_cons, List.map_nil]; congr 1; omega
    | succ d =>
      simp only [E.lift, rowE, List.map_map]
      congr 1; funext x; simp only [Function.comp]; omega
theorem rowE_split (d : Nat) (e : E) : rowE (d + 1) e = rowE d (e.half false) ++ rowE d (e.half true) := by
  cases e with
  | lf n =>
    simp only [E.half, rowE_lf]
    rw [List.replicate_append_replicate]
    congr 1
    rw [Nat.pow_succ]; omega
  | nd n l r => simp [E.half, rowE, rowE_lift]
theorem E.half_dep (e : E) (k : Bool) : (e.half k).dep ≤ max (e.dep - 1) 1 := by
  cases e with
  | lf n => simp [E.half, E.dep]
  | nd n l r =>
    have := l.dep_pos
    have := r.dep_pos
    cases k <;> simp [E.half, E.lift_dep, E.dep] <;> omega
theorem E.half_short (e : E) (k : Bool) (h : e.short = true) : (e.half k).short = true := by
  cases e with
  | lf n => simpa [E.half] using h
  | nd n l r =>
    simp only [E.short, Bool.and_eq_true] at h
    cases k <;> simp [E.half, E.lift_short, h.1.1.1, h.1.1.2]
/-- The greatest count. -/
def E.top : E → Nat
  | .lf n => n
  | .nd n l r => n + max l.top r.top
theorem E.top_n (e : E) : e.n ≤ e.top := by cases e <;> simp [E.n, E.top]
theorem E.lift_top (e : E) (m : Nat) : (e.lift m).top = e.top + m := by cases e <;> simp [E.lift, E.top]; omega
theorem E.half_top (e : E) (k : Bool) : (e.half k).top ≤ e.top := by
  cases e with
  | lf n => simp [E.half]
  | nd n l r => cases k <;> simp [E.half, E.lift_top, E.top] <;> omega
theorem E.top_small : ∀ {e : E}, e.small = true → e.top ≤ e.dep * 1099511627776
  | .lf n, h => by simp only [E.small, decide_eq_true_eq] at h; simp [E.top, E.dep]; omega
  | .nd n l r, h => by
    simp only [E.small, Bool.and_eq_true, decide_eq_true_eq] at h
    have a := E.top_small h.1.2
    have b := E.top_small h.2
    simp only [E.top, E.dep]
    have h1 : l.dep * 1099511627776 ≤ max l.dep r.dep * 1099511627776 := Nat.mul_le_mul_right _ (by omega)
    have h2 : r.dep * 1099511627776 ≤ max l.dep r.dep * 1099511627776 := Nat.mul_le_mul_right _ (by omega)
    rw [Nat.add_mul]
    omega
theorem rowE_top : ∀ (d : Nat) (e : E), ∀ x ∈ rowE d e, x ≤ e.top
  | d, .lf n, x, h => by rw [rowE_lf] at h; rw [List.eq_of_mem_replicate h]; simp [E.top]
  | 0, .nd n l r, x, h => by simp [rowE] at h; subst h; simp [E.top]
  | d + 1, .nd n l r, x, h => by
    simp only [rowE, List.mem_map, List.mem_append] at h
    obtain ⟨y, hy, rfl⟩ := h
    rcases hy with hy | hy
    · have := rowE_top d l y hy; simp only [E.top]; omega
    · have := rowE_top d r y hy; simp only [E.top]; omega

/-! ### comparing -/
def leqR : List Nat → List Nat → Bool
  | x :: xs, y :: ys => decide (x ≤ y) && leqR xs ys
  | _, _ => true
def eqR : List Nat → List Nat → Bool
  | x :: xs, y :: ys => decide (x = y) && eqR xs ys
  | _, _ => true
theorem leqR_append : ∀ (a b c d : List Nat), a.length = b.length → leqR (a ++ c) (b ++ d) = (leqR a b && leqR c d)
  | [], [], c, d, _ => by simp [leqR]
  | [], _ :: _, _, _, h => by simp at h
  | _ :: _, [], _, _, h => by simp at h
  | x :: a, y :: b, c, d, h => by simp only [List.cons_append, leqR, leqR_append a b c d (by simpa using h), Bool.and_assoc]
theorem leqR_replicate (m n : Nat) : ∀ k, 0 < k → leqR (List.replicate k m) (List.replicate k n) = decide (m ≤ n)
  | 1, _ => by simp [leqR]
  | k + 2, _ => by
    show leqR (m :: List.replicate (k + 1) m) (n :: List.replicate (k + 1) n) = _
    simp only [leqR]
    rw [leqR_replicate m n (k + 1) (by omega), Bool.and_self]
theorem eqR_true : ∀ {a b : List Nat}, a.length = b.length → (eqR a b = true ↔ a = b)
  | [], [], _ => by simp [eqR]
  | [], _ :: _, h => by simp at h
  | _ :: _, [], h => by simp at h
  | x :: a, y :: b, h => by simp only [eqR, Bool.and_eq_true, decide_eq_true_eq, eqR_true (show a.length = b.length by simpa using h), List.cons.injEq]

/-! ### joining -/
def nodeE (n : Nat) (l r : E) : E :=
  if l.leaf = true ∧ r.leaf = true ∧ l.n = r.n then .lf (n + min l.n r.n) else .nd (n + min l.n r.n) (l.sub (min l.n r.n)) (r.sub (min l.n r.n))
theorem E.leaf_lf {e : E} (h : e.leaf = true) : e = .lf e.n := by cases e <;> simp [E.leaf, E.n] at h ⊢
theorem rows_nodeE (d n : Nat) (l r : E) : rowE (d + 1) (nodeE n l r) = (rowE d l ++ rowE d r).map (n + ·) := by
  unfold nodeE
  split
  · rename_i h
    obtain ⟨h1, h2, h3⟩ := h
    rw [E.leaf_lf h1, E.leaf_lf h2, ← h3]
    simp only [rowE_lf, E.n, Nat.min_self, List.map_append, List.map_replicate, List.replicate_append_replicate]
    congr 1
    rw [Nat.pow_succ]; omega
  · have h1 : rowE d l = (rowE d (l.sub (min l.n r.n))).map (min l.n r.n + ·) := by rw [← rowE_lift, E.sub_lift _ _ (Nat.min_le_left _ _)]
    have h2 : rowE d r = (rowE d (r.sub (min l.n r.n))).map (min l.n r.n + ·) := by rw [← rowE_lift, E.sub_lift _ _ (Nat.min_le_right _ _)]
    rw [h1, h2, ← List.map_append, List.map_map]
    simp only [rowE]
    congr 1; funext x; simp only [Function.comp]; omega
theorem nodeE_short {n : Nat} {l r : E} (hl : l.short = true) (hr : r.short = true) : (nodeE n l r).short = true := by
  unfold nodeE
  split
  · rfl
  · rename_i h
    simp only [E.short, E.sub_short, hl, hr, E.sub_n, E.sub_leaf, Bool.true_and, Bool.and_eq_true, Bool.or_eq_true, decide_eq_true_eq, Bool.not_eq_true', Bool.and_eq_false_iff, decide_eq_false_iff_not]
    refine ⟨by omega, ?_⟩
    by_cases h1 : l.leaf = true
    · by_cases h2 : r.leaf = true
      · right
        intro h3
        exact h ⟨h1, h2, by omega⟩
      · left; right; simpa using h2
    · left; left; simpa using h1
theorem nodeE_dep (n : Nat) (l r : E) : (nodeE n l r).dep ≤ max l.dep r.dep + 1 := by
  unfold nodeE
  split
  · simp [E.dep]
  · simp [E.dep, E.sub_dep]
theorem nodeE_nodes (n : Nat) (l r : E) : (nodeE n l r).nodes ≤ 1 + l.nodes + r.nodes := by
  unfold nodeE
  split
  · simp [E.nodes]; omega
  · simp [E.nodes, E.sub_nodes]
def joinE : Nat → E → E → E
  | 0, a, b => .lf (max a.n b.n)
  | d + 1, a, b => if a.leaf = true ∧ b.leaf = true then .lf (max a.n b.n) else nodeE 0 (joinE d (a.half false) (b.half false)) (joinE d (a.half true) (b.half true))
theorem zip_replicate (m n : Nat) : ∀ k, List.zipWith max (List.replicate k m) (List.replicate k n) = List.replicate k (max m n)
  | 0 => rfl
  | k + 1 => by simp only [List.replicate_succ, List.zipWith_cons_cons, zip_replicate m n k]
theorem E.dep_one {e : E} (h : e.dep ≤ 1) : e.leaf = true := by
  cases e with
  | lf n => rfl
  | nd n l r => have := l.dep_pos; simp only [E.dep] at h; omega
theorem rows_joinE : ∀ (d : Nat) (a b : E), a.dep ≤ d + 1 → b.dep ≤ d + 1 → rowE d (joinE d a b) = List.zipWith max (rowE d a) (rowE d b)
  | 0, a, b, ha, hb => by
    rw [E.leaf_lf (E.dep_one ha), E.leaf_lf (E.dep_one hb)]
    simp only [joinE, rowE_lf, zip_replicate, E.n]
  | d + 1, a, b, ha, hb => by
    simp only [joinE]
    split
    · rename_i h
      rw [E.leaf_lf h.1, E.leaf_lf h.2]
      simp only [rowE_lf, zip_replicate, E.n]
    · have h1 := a.half_dep false
      have h2 := a.half_dep true
      have h3 := b.half_dep false
      have h4 := b.half_dep true
      rw [rows_nodeE, rows_joinE d _ _ (by omega) (by omega), rows_joinE d _ _ (by omega) (by omega), rowE_split d a, rowE_split d b, List.zipWith_append (by rw [rowE_len, rowE_len])]
      simp
theorem joinE_short : ∀ (d : Nat) {a b : E}, a.short = true → b.short = true → (joinE d a b).short = true
  | 0, _, _, _, _ => rfl
  | d + 1, a, b, ha, hb => by
    simp only [joinE]
    split
    · rfl
    · exact nodeE_short (joinE_short d (a.half_short _ ha) (b.half_short _ hb)) (joinE_short d (a.half_short _ ha) (b.half_short _ hb))
theorem joinE_dep : ∀ (d : Nat) (a b : E), (joinE d a b).dep ≤ d + 1
  | 0, _, _ => by simp [joinE, E.dep]
  | d + 1, a, b => by
    simp only [joinE]
    split
    · simp [E.dep]
    · have := nodeE_dep 0 (joinE d (a.half false) (b.half false)) (joinE d (a.half true) (b.half true))
      have := joinE_dep d (a.half false) (b.half false)
      have := joinE_dep d (a.half true) (b.half true)
      omega
theorem joinE_nodes : ∀ (d : Nat) (a b : E), (joinE d a b).nodes < 2 ^ (d + 1)
  | 0, _, _ => by simp [joinE, E.nodes]
  | d + 1, a, b => by
    simp only [joinE]
    split
    · have : 0 < 2 ^ (d + 1) := Nat.pow_pos (by omega)
      simp only [E.nodes]; rw [Nat.pow_succ]; omega
    · have := nodeE_nodes 0 (joinE d (a.half false) (b.half false)) (joinE d (a.half true) (b.half true))
      have := joinE_nodes d (a.half false) (b.half false)
      have := joinE_nodes d (a.half true) (b.half true)
      rw [Nat.pow_succ]; omega

/-! ### the shortest tree of a row -/
def leastR (row : List Nat) : Nat := row.foldl min (row.headD 0)
def mostR (row : List Nat) : Nat := row.foldl max (row.headD 0)
theorem foldl_min (l : List Nat) : ∀ a, (l.foldl min a ≤ a ∧ ∀ x ∈ l, l.foldl min a ≤ x) ∧ (l.foldl min a = a ∨ l.foldl min a ∈ l) := by
  induction l with
  | nil => intro a; simp
  | cons y l ih =>
    intro a
    obtain ⟨⟨h1, h2⟩, h3⟩ := ih (min a y)
    simp only [List.foldl_cons, List.mem_cons, forall_eq_or_imp]
    refine ⟨⟨by omega, by omega, h2⟩, ?_⟩
    rcases h3 with h3 | h3
    · rw [h3]
      rcases Nat.le_total a y with h | h
      · left; omega
      · right; left; omega
    · right; right; exact h3
theorem foldl_max (l : List Nat) : ∀ a, (a ≤ l.foldl max a ∧ ∀ x ∈ l, x ≤ l.foldl max a) ∧ (l.foldl max a = a ∨ l.foldl max a ∈ l) := by
  induction l with
  | nil => intro a; simp
  | cons y l ih =>
    intro a
    obtain ⟨⟨h1, h2⟩, h3⟩ := ih (max a y)
    simp only [List.foldl_cons, List.mem_cons, forall_eq_or_imp]
    refine ⟨⟨by omega, by omega, h2⟩, ?_⟩
    rcases h3 with h3 | h3
    · rw [h3]
      rcases Nat.le_total a y with h | h
      · right; left; omega
      · left; omega
    · right; right; exact h3
theorem leastR_le {row : List Nat} : ∀ x ∈ row, leastR row ≤ x := (foldl_min row _).1.2
theorem leastR_mem {row : List Nat} (h : row ≠ []) : leastR row ∈ row := by
  obtain ⟨y, l, rfl⟩ := List.exists_cons_of_ne_nil h
  rcases (foldl_min (y :: l) ((y :: l).headD 0)).2 with h1 | h1
  · show List.foldl min _ _ ∈ _
    rw [h1]; simp
  · exact h1
theorem mostR_ge {row : List Nat} : ∀ x ∈ row, x ≤ mostR row := (foldl_max row _).1.2
theorem mostR_mem {row : List Nat} (h : row ≠ []) : mostR row ∈ row := by
  obtain ⟨y, l, rfl⟩ := List.exists_cons_of_ne_nil h
  rcases (foldl_max (y :: l) ((y :: l).headD 0)).2 with h1 | h1
  · show List.foldl max _ _ ∈ _
    rw [h1]; simp
  · exact h1
theorem leastR_eq {row : List Nat} {n : Nat} (h1 : n ∈ row) (h2 : ∀ x ∈ row, n ≤ x) : leastR row = n := by
  have a := leastR_le n h1
  have b := h2 _ (leastR_mem (by intro h; rw [h] at h1; simp at h1))
  omega
theorem mostR_eq {row : List Nat} {n : Nat} (h1 : n ∈ row) (h2 : ∀ x ∈ row, x ≤ n) : mostR row = n := by
  have a := mostR_ge n h1
  have b := h2 _ (mostR_mem (by intro h; rw [h] at h1; simp at h1))
  omega
theorem rowE_ne (d : Nat) (e : E) : rowE d e ≠ [] := by
  intro h
  have := rowE_len d e
  rw [h] at this
  have : 0 < 2 ^ d := Nat.pow_pos (by omega)
  simp at *; omega
/-- A short tree's own number is its row's least. -/
theorem rowE_least : ∀ (d : Nat) (e : E), e.short = true → e.dep ≤ d + 1 → e.n ∈ rowE d e ∧ ∀ x ∈ rowE d e, e.n ≤ x
  | d, .lf n, _, _ => by
    rw [rowE_lf]
    have : 0 < 2 ^ d := Nat.pow_pos (by omega)
    exact ⟨List.mem_replicate.2 ⟨by omega, rfl⟩, fun x hx => by rw [List.eq_of_mem_replicate hx]; exact Nat.le_refl _⟩
  | 0, .nd n l r, _, hd => by have := l.dep_pos; simp only [E.dep] at hd; omega
  | d + 1, .nd n l r, hs, hd => by
    simp only [E.short, Bool.and_eq_true, Bool.or_eq_true, decide_eq_true_eq] at hs
    simp only [E.dep] at hd
    obtain ⟨a1, a2⟩ := rowE_least d l hs.1.1.1 (by omega)
    obtain ⟨b1, b2⟩ := rowE_least d r hs.1.1.2 (by omega)
    simp only [rowE, E.n, List.mem_map, List.mem_append]
    constructor
    · rcases hs.1.2 with h | h
      · exact ⟨0, .inl (h ▸ a1), by omega⟩
      · exact ⟨0, .inr (h ▸ b1), by omega⟩
    · rintro x ⟨y, _, rfl⟩; omega
theorem rowE_const : ∀ (d : Nat) (e : E), e.short = true → e.dep ≤ d + 1 → ∀ c, (∀ x ∈ rowE d e, x = c) → e = .lf c
  | d, .lf n, _, _, c, h => by
    rw [rowE_lf] at h
    have : 0 < 2 ^ d := Nat.pow_pos (by omega)
    rw [h n (List.mem_replicate.2 ⟨by omega, rfl⟩)]
  | 0, .nd n l r, _, hd, _, _ => by have := l.dep_pos; simp only [E.dep] at hd; omega
  | d + 1, .nd n l r, hs, hd, c, h => by
    have hs' := hs
    simp only [E.short, Bool.and_eq_true, Bool.or_eq_true, decide_eq_true_eq] at hs'
    simp only [E.dep] at hd
    simp only [rowE, List.mem_map, List.mem_append] at h
    have hl := rowE_const d l hs'.1.1.1 (by omega) (c - n) (fun x hx => by have := h (n + x) ⟨x, .inl hx, rfl⟩; omega)
    have hr := rowE_const d r hs'.1.1.2 (by omega) (c - n) (fun x hx => by have := h (n + x) ⟨x, .inr hx, rfl⟩; omega)
    subst hl hr
    simp [E.leaf, E.n] at hs'
def treeE : Nat → List Nat → Nat → E
  | 0, row, below => .lf (leastR row - below)
  | d + 1, row, below => if leastR row = mostR row then .lf (leastR row - below) else .nd (leastR row - below) (treeE d (row.take (2 ^ d)) (leastR row)) (treeE d (row.drop (2 ^ d)) (leastR row))
theorem treeE_lift : ∀ (d : Nat) (e : E) (b : Nat), e.short = true → e.dep ≤ d + 1 → treeE d (rowE d (e.lift b)) b = e
  | 0, e, b, hs, hd => by
    have hl := E.leaf_lf (E.dep_one hd)
    have := rowE_least 0 (e.lift b) (by rw [E.lift_short]; exact hs) (by rw [E.lift_dep]; exact hd)
    simp only [treeE]
    rw [leastR_eq this.1 this.2, E.lift_n, Nat.add_sub_cancel, ← hl]
  | d + 1, e, b, hs, hd => by
    have hr := rowE_least (d + 1) (e.lift b) (by rw [E.lift_short]; exact hs) (by rw [E.lift_dep]; exact hd)
    have hle := leastR_eq hr.1 hr.2
    simp only [treeE]
    rw [hle]
    split
    · rename_i hc
      have := rowE_const (d + 1) (e.lift b) (by rw [E.lift_short]; exact hs) (by rw [E.lift_dep]; exact hd) (e.lift b).n (fun x hx => by
        have h1 := hr.2 x hx
        have h2 := mostR_ge x hx
        omega)
      have h2 : e = .lf e.n := by
        cases e with
        | lf n => rfl
        | nd n l r => simp [E.lift] at this
      rw [E.lift_n, Nat.add_sub_cancel, ← h2]
    · rename_i hc
      cases e with
      | lf n =>
        exfalso; apply hc
        simp only [E.lift, E.n, rowE_lf]
        have : 0 < 2 ^ (d + 1) := Nat.pow_pos (by omega)
        rw [mostR_eq (n := n + b) (List.mem_replicate.2 ⟨by omega, rfl⟩) (fun x hx => by rw [List.eq_of_mem_replicate hx]; exact Nat.le_refl _)]
      | nd n l r =>
        simp only [E.short, Bool.and_eq_true] at hs
        simp only [E.dep] at hd
        have e1 : (rowE (d + 1) ((E.nd n l r).lift b)).take (2 ^ d) = rowE d (l.lift (n + b)) := by
          show (((rowE d l ++ rowE d r).map (n + b + ·))).take (2 ^ d) = _
          rw [List.map_append, List.take_append_of_le_length (by rw [List.length_map, rowE_len]; omega), List.take_of_length_le (by rw [List.length_map, rowE_len]; omega), rowE_lift]
        have e2 : (rowE (d + 1) ((E.nd n l r).lift b)).drop (2 ^ d) = rowE d (r.lift (n + b)) := by
          show (((rowE d l ++ rowE d r).map (n + b + ·))).drop (2 ^ d) = _
          rw [List.map_append, List.drop_append, List.length_map, rowE_len, Nat.sub_self, List.drop_zero, List.drop_of_length_le (by rw [List.length_map, rowE_len]; omega), List.nil_append, rowE_lift]
        rw [e1, e2]
        show E.nd (n + b - b) (treeE d _ (n + b)) (treeE d _ (n + b)) = _
        rw [Nat.add_sub_cancel, treeE_lift d l (n + b) hs.1.1.1 (by omega), treeE_lift d r (n + b) hs.1.1.2 (by omega)]
theorem treeE_row (d : Nat) (e : E) (hs : e.short = true) (hd : e.dep ≤ d + 1) : treeE d (rowE d e) 0 = e := by
  have := treeE_lift d e 0 hs hd
  rwa [E.lift_zero] at this
/-- The shortest tree of the greater counts is what join makes. -/
theorem tree_joinE (d : Nat) (a b : E) (ha : a.short = true) (hb : b.short = true) (da : a.dep ≤ d + 1) (db : b.dep ≤ d + 1) : treeE d (List.zipWith max (rowE d a) (rowE d b)) 0 = joinE d a b := by
  rw [← rows_joinE d a b da db]
  exact treeE_row d _ (joinE_short d ha hb) (joinE_dep d a b)

/-! ### a place's count -/
def valE : E → Nat → Nat → Nat
  | .lf n, _, _ => n
  | .nd n l r, p, b => n + (if p / b % 2 = 0 then valE l p (b / 2) else valE r p (b / 2))
theorem rowE_at : ∀ (d : Nat) (b : E) (p : Nat), b.dep ≤ d + 1 → (rowE d b)[p % 2 ^ d]? = some (valE b p (2 ^ d / 2))
  | d, .lf o, p, _ => by
    rw [rowE_lf, List.getElem?_replicate, if_pos (Nat.mod_lt _ (Nat.pow_pos (by omega)))]; rfl
  | 0, .nd n l r, p, hd => by
    have : 1 ≤ l.dep := l.dep_pos
    simp only [E.dep] at hd; omega
  | d + 1, .nd n l r, p, hd => by
    have e : 2 ^ (d + 1) / 2 = 2 ^ d := by rw [Nat.pow_succ]; omega
    simp only [E.dep] at hd
    have hl := rowE_at d l p (by omega)
    have hr := rowE_at d r p (by omega)
    have hpos : 0 < 2 ^ d := Nat.pow_pos (by omega)
    have hm : p % 2 ^ (d + 1) = p % 2 ^ d + 2 ^ d * (p / 2 ^ d % 2) := Nat.mod_pow_succ
    simp only [rowE, valE, e, List.getElem?_map]
    by_cases hz : p / 2 ^ d % 2 = 0
    · rw [if_pos hz, hm, hz, Nat.mul_zero, Nat.add_zero, List.getElem?_append_left (by rw [rowE_len]; exact Nat.mod_lt _ hpos), hl]; rfl
    · have h1 : p / 2 ^ d % 2 = 1 := by omega
      rw [if_neg hz, hm, h1, Nat.mul_one, List.getElem?_append_right (by rw [rowE_len]; omega), rowE_len, Nat.add_sub_cancel, hr]; rfl
theorem valE_top : ∀ (e : E) (p b : Nat), valE e p b ≤ e.top
  | .lf n, _, _ => by simp [valE, E.top]
  | .nd n l r, p, b => by
    simp only [valE, E.top]
    have := valE_top l p (b / 2)
    have := valE_top r p (b / 2)
    split <;> omega

/-! ### rows as values; rows that are filled -/
abbrev ivs (ns : List Nat) : List AV := ns.map fun n => .int .i64 (n : Nat)
theorem ivs_len (ns : List Nat) : (ivs ns).length = ns.length := by simp
theorem frz_ivs {α : Type} (n : Nat) (H : Heap) : ∀ (ns : List Nat) (ok : List AV → List (Nat × Nat) → α) (bd : α), mapK (frzK (n + 1) H) (ivs ns) ok bd = ok (ivs ns) []
  | [], ok, bd => by simp [mapK]
  | c :: cs, ok, bd => by
    show frzK (n + 1) H (.int .i64 (c : Nat)) (fun c' i => mapK (frzK (n + 1) H) (ivs cs) (fun cs' j => ok (c' :: cs') (i ++ j)) bd) bd = _
    rw [frzK_int, frz_ivs n H cs]; rfl
abbrev partR (L : List AV) (z : AV) (i : Nat) : List AV := L.take i ++ List.replicate (L.length - i) z
theorem partR_put (L : List AV) (z x : AV) (i : Nat) (h : L[i]? = some x) : (partR L z i).take i ++ [x] ++ (partR L z i).drop (i + 1) = partR L z (i + 1) := by
  have hi : i < L.length := (List.getElem?_eq_some_iff.1 h).1
  have h1 : (L.take i).length = i := by simp; omega
  have h2 : (partR L z i).take i = L.take i := by
    show List.take i (_ ++ _) = _
    rw [List.take_append_of_le_length (by omega), List.take_of_length_le (by omega)]
  have h3 : (partR L z i).drop (i + 1) = List.replicate (L.length - (i + 1)) z := by
    show List.drop (i + 1) (_ ++ _) = _
    rw [List.drop_append, List.drop_of_length_le (by omega), h1, show i + 1 - i = 1 by omega, List.drop_replicate, List.nil_append]
    congr 1
  rw [h2, h3]
  show _ = List.take (i + 1) L ++ _
  rw [List.take_add_one, h]; rfl
theorem partR_len (L : List AV) (z : AV) (i : Nat) (hi : i ≤ L.length) : (partR L z i).length = L.length := by simp; omega
theorem partR_all (L : List AV) (z : AV) : partR L z L.length = L := by
  show List.take _ _ ++ List.replicate _ _ = _
  rw [List.take_length, Nat.sub_self]; simp
end Go.Ev
/- The walk through comparing events, and the reference's rows. -/
-- short
namespace Go.Proofs.Ytmokhopjnjecbab
open Go.Ev
set_option linter.unusedVariables false
set_option linter.unusedSimpArgs false
set_option maxRecDepth 100000
variable {R : List AV → Heap → Ctr → Prop} {k : List It} {H : Heap} {nx : Ctr} {φ : Nat}

theorem xlift_calls (e : E) (m : Int) (n' : Nat) (hb : e.n < 2 ^ 60) (hm : (e.n : Int) + m = n') (hn : n' < 2 ^ 60) : PCalls Try.prog F_event_lift [xtv e.t, .int .i64 m] (.agg [.int .i64 n', .fz 2 (xtavs e.t.ps) none]) := by
  have w1 : IntKind.i64.wrap (e.t.n + m) = (n' : Int) := by rw [IntKind.wrap_i64, e.t_n]; omega
  refine calls_event_lift (walk0 100 trivial (fun A eA => ?_))
  simp (disch := first | omega | (simp only [avs_len, List.length_cons, List.length_append, List.length_nil, List.length_take, List.length_drop, List.length_map]; omega) | (simp only [cells, scal1, allSz, List.length_cons, List.length_nil, List.length_append, List.length_map, List.all_cons, List.all_nil, avs_len, beq_self_eq_true, Bool.and_self, and_self, or_true, true_or, reduceCtorEq, *]; done) | fail) only [c_event_lift, go_sem, Nat.reduceAdd, Nat.reduceSub, Nat.reduceMul, Nat.reduceLT, Nat.reduceLeDiff, Int.reduceToNat, Nat.reduceEqDiff, Nat.reduceBEq, ↓reduceIte, reduceCtorEq, eA, scal1, List.all_cons, List.all_nil, Bool.and_self, w1]
  exact doneG rfl
theorem xtv_lift (e : E) (m : Nat) : xtv (e.lift m).t = .agg [.int .i64 ((e.n + m : Nat) : Int), .fz 2 (xtavs e.t.ps) none] := by cases e <;> rfl
theorem xtv_sub (e : E) (m : Nat) : xtv (e.sub m).t = .agg [.int .i64 ((e.n - m : Nat) : Int), .fz 2 (xtavs e.t.ps) none] := by cases e <;> rfl
theorem xhalf_calls (e : E) (ht : e.top < 2 ^ 60) (k : Bool) : PCalls Try.prog F_event_half [xtv e.t, .int .i64 (if k then 1 else 0)] (xtv (e.half k).t) := by
  refine calls_event_half (walk0 100 trivial (fun A eA => ?_))
  simp (disch := first | omega | (simp only [avs_len, List.length_cons, List.length_append, List.length_nil, List.length_take, List.length_drop, List.length_map]; omega) | (simp only [cells, scal1, allSz, List.length_cons, List.length_nil, List.length_append, List.length_map, List.all_cons, List.all_nil, avs_len, beq_self_eq_true, Bool.and_self, and_self, or_true, true_or, reduceCtorEq, *]; done) | fail) only [c_event_half, go_sem, Nat.reduceAdd, Nat.reduceSub, Nat.reduceMul, Nat.reduceLT, Nat.reduceLeDiff, Int.reduceToNat, Nat.reduceEqDiff, Nat.reduceBEq, ↓reduceIte, reduceCtorEq, eA, scal1, List.all_cons, List.all_nil, Bool.and_self]
  refine call0 100 trivial trivial (xleaf_b e) (.inl rfl) (fun A eA => ?_)
  cases e with
  | lf n =>
    simp (disch := first | omega | (simp only [avs_len, List.length_cons, List.length_append, List.length_nil, List.length_take, List.length_drop, List.length_map]; omega) | (simp only [cells, scal1, allSz, List.length_cons, List.length_nil, List.length_append, List.length_map, List.all_cons, List.all_nil, avs_len, beq_self_eq_true, Bool.and_self, and_self, or_true, true_or, reduceCtorEq, *]; done) | fail) only [c_event_half, go_sem, Nat.reduceAdd, Nat.reduceSub, Nat.reduceMul, Nat.reduceLT, Nat.reduceLeDiff, Int.reduceToNat, Nat.reduceEqDiff, Nat.reduceBEq, ↓reduceIte, reduceCtorEq, eA, scal1, List.all_cons, List.all_nil, Bool.and_self, E.leaf, E.half]
    exact doneG rfl
  | nd n l r =>
    have h0 : (E.nd n l r).t.ps = [l.t, r.t] := rfl
    have hnn : (E.nd n l r).t.n = (n : Int) := rfl
    have g0 : (xtavs [l.t, r.t])[0]? = some (xtv l.t) := by rw [xtavs_get]; rfl
    have g1 : (xtavs [l.t, r.t])[1]? = some (xtv r.t) := by rw [xtavs_get]; rfl
    simp only [E.top] at ht
    have hl := l.top_n
    have hr := r.top_n
    cases k with
    | false =>
      have c := xlift_calls l (n : Nat) (l.n + n) (by omega) (by omega) (by omega)
      rw [← xtv_lift] at c
      simp (disch := first | omega | (simp only [avs_len, List.length_cons, List.length_append, List.length_nil, List.length_take, List.length_drop, List.length_map]; omega) | (simp only [cells, scal1, allSz, List.length_cons, List.length_nil, List.length_append, List.length_map, List.all_cons, List.all_nil, avs_len, beq_self_eq_true, Bool.and_self, and_self, or_true, true_or, reduceCtorEq, *]; done) | fail) only [c_event_half, go_sem, Nat.reduceAdd, Nat.reduceSub, Nat.reduceMul, Nat.reduceLT, Nat.reduceLeDiff, Int.reduceToNat, Nat.reduceEqDiff, Nat.reduceBEq, ↓reduceIte, reduceCtorEq, eA, scal1, List.all_cons, List.all_nil, Bool.and_self, E.leaf, E.half, h0, g0, hnn]
      refine call0 100 trivial trivial c (.inl rfl) (fun A eA => ?_)
      simp (disch := first | omega | (simp only [avs_len, List.length_cons, List.length_append, List.length_nil, List.length_take, List.length_drop, List.length_map]; omega) | (simp only [cells, scal1, allSz, List.length_cons, List.length_nil, List.length_append, List.length_map, List.all_cons, List.all_nil, avs_len, beq_self_eq_true, Bool.and_self, and_self, or_true, true_or, reduceCtorEq, *]; done) | fail) only [c_event_half, go_sem, Nat.reduceAdd, Nat.reduceSub, Nat.reduceMul, Nat.reduceLT, Nat.reduceLeDiff, Int.reduceToNat, Nat.reduceEqDiff, Nat.reduceBEq, ↓reduceIte, reduceCtorEq, eA, scal1, List.all_cons, List.all_nil, Bool.and_self, E.leaf, E.half]
      exact doneG rfl
    | true =>
      have c := xlift_calls r (n : Nat) (r.n + n) (by omega) (by omega) (by omega)
      rw [← xtv_lift] at c
      simp (disch := first | omega | (simp only [avs_len, List.length_cons, List.length_append, List.length_nil, List.length_take, List.length_drop, List.length_map]; omega) | (simp only [cells, scal1, allSz, List.length_cons, List.length_nil, List.length_append, List.length_map, List.all_cons, List.all_nil, avs_len, beq_self_eq_true, Bool.and_self, and_self, or_true, true_or, reduceCtorEq, *]; done) | fail) only [c_event_half, go_sem, Nat.reduceAdd, Nat.reduceSub, Nat.reduceMul, Nat.reduceLT, Nat.reduceLeDiff, Int.reduceToNat, Nat.reduceEqDiff, Nat.reduceBEq, ↓reduceIte, reduceCtorEq, eA, scal1, List.all_cons, List.all_nil, Bool.and_self, E.leaf, E.half, h0, g1, hnn]
      refine call0 100 trivial trivial c (.inl rfl) (fun A eA => ?_)
      simp (disch := first | omega | (simp only [avs_len, List.length_cons, List.length_append, List.length_nil, List.length_take, List.length_drop, List.length_map]; omega) | (simp only [cells, scal1, allSz, List.length_cons, List.length_nil, List.length_append, List.length_map, List.all_cons, List.all_nil, avs_len, beq_self_eq_true, Bool.and_self, and_self, or_true, true_or, reduceCtorEq, *]; done) | fail) only [c_event_half, go_sem, Nat.reduceAdd, Nat.reduceSub, Nat.reduceMul, Nat.reduceLT, Nat.reduceLeDiff, Int.reduceToNat, Nat.reduceEqDiff, Nat.reduceBEq, ↓reduceIte, reduceCtorEq, eA, scal1, List.all_cons, List.all_nil, Bool.and_self, E.leaf, E.half]
      exact doneG rfl
theorem xleq_calls : ∀ (d : Nat) (a b : E), a.dep ≤ d + 1 → b.dep ≤ d + 1 → a.top < 2 ^ 60 → b.top < 2 ^ 60 → PCalls Try.prog F_event_leq [xtv a.t, xtv b.t] (.bool (leqR (rowE d a) (rowE d b))) := by
  have leafs : ∀ (d : Nat) (a b : E), a.leaf = true → b.leaf = true → PCalls Try.prog F_event_leq [xtv a.t, xtv b.t] (.bool (leqR (rowE d a) (rowE d b))) := by
    intro d a b ha hb
    have ca := xleaf_b a
    have cb := xleaf_b b
    rw [ha] at ca
    rw [hb] at cb
    have ea := a.t_n
    have eb := b.t_n
    have e : leqR (rowE d a) (rowE d b) = decide (a.t.n ≤ b.t.n) := by
      rw [ea, eb, E.leaf_lf ha, E.leaf_lf hb, rowE_lf, rowE_lf, leqR_replicate _ _ _ (Nat.pow_pos (by omega)), decide_eq_decide]
      simp only [E.n]; omega
    rw [e]
    refine calls_event_leq (walk0 100 trivial (fun A eA => ?_))
    simp (disch := first | omega | (simp only [avs_len, List.length_cons, List.length_append, List.length_nil, List.length_take, List.length_drop, List.length_map]; omega) | (simp only [cells, scal1, allSz, List.length_cons, List.length_nil, List.length_append, List.length_map, List.all_cons, List.all_nil, avs_len, beq_self_eq_true, Bool.and_self, and_self, or_true, true_or, reduceCtorEq, *]; done) | fail) only [c_event_leq, go_sem, Nat.reduceAdd, Nat.reduceSub, Nat.reduceMul, Nat.reduceLT, Nat.reduceLeDiff, Int.reduceToNat, Nat.reduceEqDiff, Nat.reduceBEq, ↓reduceIte, reduceCtorEq, eA, scal1, List.all_cons, List.all_nil, Bool.and_self]
    repeat ((first | refine call0 100 trivial trivial (by first | exact ca | exact cb) (by first | exact .inl rfl | exact .inr rfl) (fun A eA => ?_) | refine call1 100 trivial trivial (by first | exact ca | exact cb) (fun A eA => ?_)); simp (disch := first | omega | (simp only [avs_len, List.length_cons, List.length_append, List.length_nil, List.length_take, List.length_drop, List.length_map]; omega) | (simp only [cells, scal1, allSz, List.length_cons, List.length_nil, List.length_append, List.length_map, List.all_cons, List.all_nil, avs_len, beq_self_eq_true, Bool.and_self, and_self, or_true, true_or, reduceCtorEq, *]; done) | fail) only [c_event_leq, go_sem, Nat.reduceAdd, Nat.reduceSub, Nat.reduceMul, Nat.reduceLT, Nat.reduceLeDiff, Int.reduceToNat, Nat.reduceEqDiff, Nat.reduceBEq, ↓reduceIte, reduceCtorEq, eA, scal1, List.all_cons, List.all_nil, Bool.and_self])
    exact doneG rfl
  intro d
  induction d with
  | zero => intro a b ha hb _ _; exact leafs 0 a b (E.dep_one ha) (E.dep_one hb)
  | succ d ih =>
    intro a b ha hb ta tb
    by_cases hl : a.leaf = true ∧ b.leaf = true
    · exact leafs _ a b hl.1 hl.2
    · have h1 := a.half_dep false
      have h2 := a.half_dep true
      have h3 := b.half_dep false
      have h4 := b.half_dep true
      have t1 := a.half_top false
      have t2 := a.half_top true
      have t3 := b.half_top false
      have t4 := b.half_top true
      have c1 := xhalf_calls a ta false
      have c2 := xhalf_calls a ta true
      have c3 := xhalf_calls b tb false
      have c4 := xhalf_calls b tb true
      have k1 := ih (a.half false) (b.half false) (by omega) (by omega) (by omega) (by omega)
      have k2 := ih (a.half true) (b.half true) (by omega) (by omega) (by omega) (by omega)
      rw [rowE_split d a, rowE_split d b, leqR_append _ _ _ _ (by rw [rowE_len, rowE_len])]
      generalize leqR (rowE d (a.half false)) (rowE d (b.half false)) = q1 at k1 ⊢
      generalize leqR (rowE d (a.half true)) (rowE d (b.half true)) = q2 at k2 ⊢
      have ca := xleaf_b a
      have cb := xleaf_b b
      have fin : ∀ (x y : Bool), ¬ (x = true ∧ y = true) → PCalls Try.prog F_event_leaf [xtv a.t] (.bool x) → PCalls Try.prog F_event_leaf [xtv b.t] (.bool y) → PCalls Try.prog F_event_leq [xtv a.t, xtv b.t] (.bool (q1 && q2)) := by
        intro x y hxy ca cb
        refine calls_event_leq (walk0 100 trivial (fun A eA => ?_))
        simp only [Bool.false_eq_true, if_false, if_true] at c1 c2 c3 c4
        cases x <;> cases y <;> cases q1
        all_goals first
          | (exfalso; exact hxy ⟨rfl, rfl⟩)
          | (simp (disch := first | omega | (simp only [avs_len, List.length_cons, List.length_append, List.length_nil, List.length_take, List.length_drop, List.length_map]; omega) | (simp only [cells, scal1, allSz, List.length_cons, List.length_nil, List.length_append, List.length_map, List.all_cons, List.all_nil, avs_len, beq_self_eq_true, Bool.and_self, and_self, or_true, true_or, reduceCtorEq, *]; done) | fail) only [c_event_leq, go_sem, Nat.reduceAdd, Nat.reduceSub, Nat.reduceMul, Nat.reduceLT, Nat.reduceLeDiff, Int.reduceToNat, Nat.reduceEqDiff, Nat.reduceBEq, ↓reduceIte, reduceCtorEq, eA, scal1, List.all_cons, List.all_nil, Bool.and_self]
             repeat ((first | refine call0 100 trivial trivial (by first | exact ca | exact cb | exact c1 | exact c3 | exact k1 | exact c2 | exact c4 | exact k2) (by first | exact .inl rfl | exact .inr rfl) (fun A eA => ?_) | refine call1 100 trivial trivial (by first | exact ca | exact cb | exact c1 | exact c3 | exact k1 | exact c2 | exact c4 | exact k2) (fun A eA => ?_)); simp (disch := first | omega | (simp only [avs_len, List.length_cons, List.length_append, List.length_nil, List.length_take, List.length_drop, List.length_map]; omega) | (simp only [cells, scal1, allSz, List.length_cons, List.length_nil, List.length_append, List.length_map, List.all_cons, List.all_nil, avs_len, beq_self_eq_true, Bool.and_self, and_self, or_true, true_or, reduceCtorEq, *]; done) | fail) only [c_event_leq, go_sem, Nat.reduceAdd, Nat.reduceSub, Nat.reduceMul, Nat.reduceLT, Nat.reduceLeDiff, Int.reduceToNat, Nat.reduceEqDiff, Nat.reduceBEq, ↓reduceIte, reduceCtorEq, eA, scal1, List.all_cons, List.all_nil, Bool.and_self, Bool.false_and, Bool.true_and])
             exact doneG rfl)
      exact fin _ _ hl ca cb
theorem xtop_rt {b : E} (h1 : b.dep ≤ 8) (h2 : b.small = true) : b.top < 2 ^ 60 := by
  have := E.top_small h2
  have : b.dep * 1099511627776 ≤ 8 * 1099511627776 := Nat.mul_le_mul_right _ h1
  omega
/-- Is it at most that one, at each place; both right. -/
noncomputable def xleqT (a b : ET) : Bool := @dite _ (XRt a ∧ XRt b) (Classical.propDecidable _) (fun h => leqR (rowE 7 h.1.choose) (rowE 7 h.2.choose)) (fun _ => false)
theorem xleqT_no {a b : ET} (h : ¬ (XRt a ∧ XRt b)) : xleqT a b = false := by simp only [xleqT]; rw [dif_neg h]
theorem xleqT_b {a b : E} (ha : XRt a.t) (hb : XRt b.t) : xleqT a.t b.t = leqR (rowE 7 a) (rowE 7 b) := by
  have h : XRt a.t ∧ XRt b.t := ⟨ha, hb⟩
  have e : xleqT a.t b.t = leqR (rowE 7 h.1.choose) (rowE 7 h.2.choose) := by simp only [xleqT]; rw [dif_pos h]
  have e1 := E.inj h.1.choose_spec.1
  have e2 := E.inj h.2.choose_spec.1
  rw [e, ← e1, ← e2]
theorem xLeq_calls (a b : ET) : PCalls Try.prog F_event_Leq [xtv a, xtv b] (.bool (xleqT a b)) := by
  have ca := xright_calls a
  have cb := xright_calls b
  refine calls_event_Leq (walk0 100 trivial (fun A eA => ?_))
  by_cases ha : XRt a
  · rw [xrtb_true.2 ha] at ca
    by_cases hb : XRt b
    · rw [xrtb_true.2 hb] at cb
      obtain ⟨x, rfl, x1, x2, x3, x4⟩ := id ha
      obtain ⟨y, rfl, y1, y2, y3, y4⟩ := id hb
      have c := xleq_calls 7 x y (by omega) (by omega) (xtop_rt x1 x4) (xtop_rt y1 y4)
      rw [xleqT_b ha hb]
      simp (disch := first | omega | (simp only [avs_len, List.length_cons, List.length_append, List.length_nil, List.length_take, List.length_drop, List.length_map]; omega) | (simp only [cells, scal1, allSz, List.length_cons, List.length_nil, List.length_append, List.length_map, List.all_cons, List.all_nil, avs_len, beq_self_eq_true, Bool.and_self, and_self, or_true, true_or, reduceCtorEq, *]; done) | fail) only [c_event_Leq, go_sem, Nat.reduceAdd, Nat.reduceSub, Nat.reduceMul, Nat.reduceLT, Nat.reduceLeDiff, Int.reduceToNat, Nat.reduceEqDiff, Nat.reduceBEq, ↓reduceIte, reduceCtorEq, eA, scal1, List.all_cons, List.all_nil, Bool.and_self]
      repeat ((first | refine call0 100 trivial trivial (by first | exact ca | exact cb | exact c) (by first | exact .inl rfl | exact .inr rfl) (fun A eA => ?_) | refine call1 100 trivial trivial (by first | exact ca | exact cb | exact c) (fun A eA => ?_)); simp (disch := first | omega | (simp only [avs_len, List.length_cons, List.length_append, List.length_nil, List.length_take, List.length_drop, List.length_map]; omega) | (simp only [cells, scal1, allSz, List.length_cons, List.length_nil, List.length_append, List.length_map, List.all_cons, List.all_nil, avs_len, beq_self_eq_true, Bool.and_self, and_self, or_true, true_or, reduceCtorEq, *]; done) | fail) only [c_event_Leq, go_sem, Nat.reduceAdd, Nat.reduceSub, Nat.reduceMul, Nat.reduceLT, Nat.reduceLeDiff, Int.reduceToNat, Nat.reduceEqDiff, Nat.reduceBEq, ↓reduceIte, reduceCtorEq, eA, scal1, List.all_cons, List.all_nil, Bool.and_self])
      exact doneG rfl
    · rw [show xrtb b = false by rw [Bool.eq_false_iff, ne_eq, xrtb_true]; exact hb] at cb
      rw [xleqT_no (fun h => hb h.2)]
      simp (disch := first | omega | (simp only [avs_len, List.length_cons, List.length_append, List.length_nil, List.length_take, List.length_drop, List.length_map]; omega) | (simp only [cells, scal1, allSz, List.length_cons, List.length_nil, List.length_append, List.length_map, List.all_cons, List.all_nil, avs_len, beq_self_eq_true, Bool.and_self, and_self, or_true, true_or, reduceCtorEq, *]; done) | fail) only [c_event_Leq, go_sem, Nat.reduceAdd, Nat.reduceSub, Nat.reduceMul, Nat.reduceLT, Nat.reduceLeDiff, Int.reduceToNat, Nat.reduceEqDiff, Nat.reduceBEq, ↓reduceIte, reduceCtorEq, eA, scal1, List.all_cons, List.all_nil, Bool.and_self]
      repeat ((first | refine call0 100 trivial trivial (by first | exact ca | exact cb) (by first | exact .inl rfl | exact .inr rfl) (fun A eA => ?_) | refine call1 100 trivial trivial (by first | exact ca | exact cb) (fun A eA => ?_)); simp (disch := first | omega | (simp only [avs_len, List.length_cons, List.length_append, List.length_nil, List.length_take, List.length_drop, List.length_map]; omega) | (simp only [cells, scal1, allSz, List.length_cons, List.length_nil, List.length_append, List.length_map, List.all_cons, List.all_nil, avs_len, beq_self_eq_true, Bool.and_self, and_self, or_true, true_or, reduceCtorEq, *]; done) | fail) only [c_event_Leq, go_sem, Nat.reduceAdd, Nat.reduceSub, Nat.reduceMul, Nat.reduceLT, Nat.reduceLeDiff, Int.reduceToNat, Nat.reduceEqDiff, Nat.reduceBEq, ↓reduceIte, reduceCtorEq, eA, scal1, List.all_cons, List.all_nil, Bool.and_self])
      exact doneG rfl
  · rw [show xrtb a = false by rw [Bool.eq_false_iff, ne_eq, xrtb_true]; exact ha] at ca
    rw [xleqT_no (fun h => ha h.1)]
    simp (disch := first | omega | (simp only [avs_len, List.length_cons, List.length_append, List.length_nil, List.length_take, List.length_drop, List.length_map]; omega) | (simp only [cells, scal1, allSz, List.length_cons, List.length_nil, List.length_append, List.length_map, List.all_cons, List.all_nil, avs_len, beq_self_eq_true, Bool.and_self, and_self, or_true, true_or, reduceCtorEq, *]; done) | fail) only [c_event_Leq, go_sem, Nat.reduceAdd, Nat.reduceSub, Nat.reduceMul, Nat.reduceLT, Nat.reduceLeDiff, Int.reduceToNat, Nat.reduceEqDiff, Nat.reduceBEq, ↓reduceIte, reduceCtorEq, eA, scal1, List.all_cons, List.all_nil, Bool.and_self]
    repeat ((first | refine call0 100 trivial trivial (by first | exact ca | exact cb) (by first | exact .inl rfl | exact .inr rfl) (fun A eA => ?_) | refine call1 100 trivial trivial (by first | exact ca | exact cb) (fun A eA => ?_)); simp (disch := first | omega | (simp only [avs_len, List.length_cons, List.length_append, List.length_nil, List.length_take, List.length_drop, List.length_map]; omega) | (simp only [cells, scal1, allSz, List.length_cons, List.length_nil, List.length_append, List.length_map, List.all_cons, List.all_nil, avs_len, beq_self_eq_true, Bool.and_self, and_self, or_true, true_or, reduceCtorEq, *]; done) | fail) only [c_event_Leq, go_sem, Nat.reduceAdd, Nat.reduceSub, Nat.reduceMul, Nat.reduceLT, Nat.reduceLeDiff, Int.reduceToNat, Nat.reduceEqDiff, Nat.reduceBEq, ↓reduceIte, reduceCtorEq, eA, scal1, List.all_cons, List.all_nil, Bool.and_self])
    exact doneG rfl
theorem refLeq_calls (p q : List Nat) (hl : p.length = q.length) (hs : p.length < 2 ^ 60) : PCalls Try.prog F_ref04_Leq [.fz 1 (ivs p) none, .fz 1 (ivs q) none] (.bool (leqR p q)) := by
  have key : ∀ (p2 q2 p1 q1 : List Nat), p = p1 ++ p2 → q = q1 ++ q2 → p1.length = q1.length → ∀ nx : Ctr, RunsX Try.prog 0 (Gives [.t 4] (.bool (leqR p2 q2))) (i_ref04_Leq_0 ++ [.c c_ref04_Leq_k0]) (s_ref04_Leq_0 (.fz 1 (ivs p) none) (.fz 1 (ivs q) none) (.int .i64 (p.length : Nat)) (.int .i64 (p1.length : Nat))) [] nx := by
    intro p2
    induction p2 with
    | nil =>
      intro q2 p1 q1 h1 h2 h3 nx
      have h5 : p.length = p1.length := by rw [h1]; simp
      refine round (its := [.blk 0 wb_ref04_Leq_0]) (k0 := [.c c_ref04_Leq_k0]) 100 trivial trivial (fun A eA => ?_)
      simp (disch := first | omega | (simp only [avs_len, List.length_cons, List.length_append, List.length_nil, List.length_take, List.length_drop, List.length_map]; omega) | (simp only [cells, scal1, allSz, List.length_cons, List.length_nil, List.length_append, List.length_map, List.all_cons, List.all_nil, avs_len, beq_self_eq_true, Bool.and_self, and_self, or_true, true_or, reduceCtorEq, *]; done) | fail) only [c_ref04_Leq, wl_ref04_Leq_0, s_ref04_Leq_0, c_ref04_Leq_l0, wb_ref04_Leq_0, c_ref04_Leq_k0, go_sem, Nat.reduceAdd, Nat.reduceSub, Nat.reduceMul, Nat.reduceLT, Nat.reduceLeDiff, Int.reduceToNat, Nat.reduceEqDiff, Nat.reduceBEq, ↓reduceIte, reduceCtorEq, eA]
      refine walk0 (its := [.c c_ref04_Leq_k0]) 100 trivial (fun A eA => ?_)
      simp (disch := first | omega | (simp only [avs_len, List.length_cons, List.length_append, List.length_nil, List.length_take, List.length_drop, List.length_map]; omega) | (simp only [cells, scal1, allSz, List.length_cons, List.length_nil, List.length_append, List.length_map, List.all_cons, List.all_nil, avs_len, beq_self_eq_true, Bool.and_self, and_self, or_true, true_or, reduceCtorEq, *]; done) | fail) only [c_ref04_Leq, wl_ref04_Leq_0, s_ref04_Leq_0, c_ref04_Leq_l0, wb_ref04_Leq_0, c_ref04_Leq_k0, go_sem, Nat.reduceAdd, Nat.reduceSub, Nat.reduceMul, Nat.reduceLT, Nat.reduceLeDiff, Int.reduceToNat, Nat.reduceEqDiff, Nat.reduceBEq, ↓reduceIte, reduceCtorEq, eA, leqR]
      exact doneG rfl
    | cons x p2 ih =>
      intro q2 p1 q1 h1 h2 h3 nx
      cases q2 with
      | nil => have := congrArg List.length h1; have := congrArg List.length h2; simp at *; omega
      | cons y q2 =>
        have hlt : p1.length < p.length := by rw [h1]; simp
        have g0 : (ivs p)[p1.length]? = some (.int .i64 (x : Nat)) := by rw [List.getElem?_map, h1]; simp
        have g1 : (ivs q)[p1.length]? = some (.int .i64 (y : Nat)) := by rw [List.getElem?_map, h2, h3]; simp
        have w1 : IntKind.i64.wrap ((p1.length : Int) + 1) = ((p1.length + 1 : Nat) : Int) := by rw [IntKind.wrap_i64]; omega
        refine round (its := [.blk 0 wb_ref04_Leq_0]) (k0 := [.c c_ref04_Leq_k0]) 100 trivial trivial (fun A eA => ?_)
        simp only [leqR]
        by_cases h : x ≤ y
        · rw [decide_eq_true h, Bool.true_and]
          simp (disch := first | omega | (simp only [avs_len, List.length_cons, List.length_append, List.length_nil, List.length_take, List.length_drop, List.length_map]; omega) | (simp only [cells, scal1, allSz, List.length_cons, List.length_nil, List.length_append, List.length_map, List.all_cons, List.all_nil, avs_len, beq_self_eq_true, Bool.and_self, and_self, or_true, true_or, reduceCtorEq, *]; done) | fail) only [c_ref04_Leq, wl_ref04_Leq_0, s_ref04_Leq_0, c_ref04_Leq_l0, wb_ref04_Leq_0, c_ref04_Leq_k0, go_sem, Nat.reduceAdd, Nat.reduceSub, Nat.reduceMul, Nat.reduceLT, Nat.reduceLeDiff, Int.reduceToNat, Nat.reduceEqDiff, Nat.reduceBEq, ↓reduceIte, reduceCtorEq, eA, Int.toNat_natCast, g0, g1, w1]
          have hih := ih q2 (p1 ++ [x]) (q1 ++ [y]) (by rw [h1]; simp) (by rw [h2]; simp) (by simp [h3]) nx
          rw [show (p1 ++ [x]).length = p1.length + 1 by simp] at hih
          exact hih
        · rw [decide_eq_false h, Bool.false_and]
          simp (disch := first | omega | (simp only [avs_len, List.length_cons, List.length_append, List.length_nil, List.length_take, List.length_drop, List.length_map]; omega) | (simp only [cells, scal1, allSz, List.length_cons, List.length_nil, List.length_append, List.length_map, List.all_cons, List.all_nil, avs_len, beq_self_eq_true, Bool.and_self, and_self, or_true, true_or, reduceCtorEq, *]; done) | fail) only [c_ref04_Leq, wl_ref04_Leq_0, s_ref04_Leq_0, c_ref04_Leq_l0, wb_ref04_Leq_0, c_ref04_Leq_k0, go_sem, Nat.reduceAdd, Nat.reduceSub, Nat.reduceMul, Nat.reduceLT, Nat.reduceLeDiff, Int.reduceToNat, Nat.reduceEqDiff, Nat.reduceBEq, ↓reduceIte, reduceCtorEq, eA, Int.toNat_natCast, g0, g1, w1]
          exact doneG rfl
  refine calls_ref04_Leq (walk0 100 trivial (fun A eA => ?_))
  simp (disch := first | omega | (simp only [avs_len, List.length_cons, List.length_append, List.length_nil, List.length_take, List.length_drop, List.length_map]; omega) | (simp only [cells, scal1, allSz, List.length_cons, List.length_nil, List.length_append, List.length_map, List.all_cons, List.all_nil, avs_len, beq_self_eq_true, Bool.and_self, and_self, or_true, true_or, reduceCtorEq, *]; done) | fail) only [c_ref04_Leq, wl_ref04_Leq_0, s_ref04_Leq_0, c_ref04_Leq_l0, wb_ref04_Leq_0, c_ref04_Leq_k0, go_sem, Nat.reduceAdd, Nat.reduceSub, Nat.reduceMul, Nat.reduceLT, Nat.reduceLeDiff, Int.reduceToNat, Nat.reduceEqDiff, Nat.reduceBEq, ↓reduceIte, reduceCtorEq, eA, ivs_len]
  exact key p q [] [] rfl rfl rfl zeroC
theorem refEqual_calls (p q : List Nat) (hl : p.length = q.length) (hs : p.length < 2 ^ 60) : PCalls Try.prog F_ref04_equal [.fz 1 (ivs p) none, .fz 1 (ivs q) none] (.bool (eqR p q)) := by
  have key : ∀ (p2 q2 p1 q1 : List Nat), p = p1 ++ p2 → q = q1 ++ q2 → p1.length = q1.length → ∀ nx : Ctr, RunsX Try.prog 0 (Gives [.t 4] (.bool (eqR p2 q2))) (i_ref04_equal_0 ++ [.c c_ref04_equal_k0]) (s_ref04_equal_0 (.fz 1 (ivs p) none) (.fz 1 (ivs q) none) (.int .i64 (p.length : Nat)) (.int .i64 (p1.length : Nat))) [] nx := by
    intro p2
    induction p2 with
    | nil =>
      intro q2 p1 q1 h1 h2 h3 nx
      have h5 : p.length = p1.length := by rw [h1]; simp
      refine round (its := [.blk 0 wb_ref04_equal_0]) (k0 := [.c c_ref04_equal_k0]) 100 trivial trivial (fun A eA => ?_)
      simp (disch := first | omega | (simp only [avs_len, List.length_cons, List.length_append, List.length_nil, List.length_take, List.length_drop, List.length_map]; omega) | (simp only [cells, scal1, allSz, List.length_cons, List.length_nil, List.length_append, List.length_map, List.all_cons, List.all_nil, avs_len, beq_self_eq_true, Bool.and_self, and_self, or_true, true_or, reduceCtorEq, *]; done) | fail) only [c_ref04_equal, wl_ref04_equal_0, s_ref04_equal_0, c_ref04_equal_l0, wb_ref04_equal_0, c_ref04_equal_k0, go_sem, Nat.reduceAdd, Nat.reduceSub, Nat.reduceMul, Nat.reduceLT, Nat.reduceLeDiff, Int.reduceToNat, Nat.reduceEqDiff, Nat.reduceBEq, ↓reduceIte, reduceCtorEq, eA]
      refine walk0 (its := [.c c_ref04_equal_k0]) 100 trivial (fun A eA => ?_)
      simp (disch := first | omega | (simp only [avs_len, List.length_cons, List.length_append, List.length_nil, List.length_take, List.length_drop, List.length_map]; omega) | (simp only [cells, scal1, allSz, List.length_cons, List.length_nil, List.length_append, List.length_map, List.all_cons, List.all_nil, avs_len, beq_self_eq_true, Bool.and_self, and_self, or_true, true_or, reduceCtorEq, *]; done) | fail) only [c_ref04_equal, wl_ref04_equal_0, s_ref04_equal_0, c_ref04_equal_l0, wb_ref04_equal_0, c_ref04_equal_k0, go_sem, Nat.reduceAdd, Nat.reduceSub, Nat.reduceMul, Nat.reduceLT, Nat.reduceLeDiff, Int.reduceToNat, Nat.reduceEqDiff, Nat.reduceBEq, ↓reduceIte, reduceCtorEq, eA, eqR]
      exact doneG rfl
    | cons x p2 ih =>
      intro q2 p1 q1 h1 h2 h3 nx
      cases q2 with
      | nil => have := congrArg List.length h1; have := congrArg List.length h2; simp at *; omega
      | cons y q2 =>
        have hlt : p1.length < p.length := by rw [h1]; simp
        have g0 : (ivs p)[p1.length]? = some (.int .i64 (x : Nat)) := by rw [List.getElem?_map, h1]; simp
        have g1 : (ivs q)[p1.length]? = some (.int .i64 (y : Nat)) := by rw [List.getElem?_map, h2, h3]; simp
        have w1 : IntKind.i64.wrap ((p1.length : Int) + 1) = ((p1.length + 1 : Nat) : Int) := by rw [IntKind.wrap_i64]; omega
        refine round (its := [.blk 0 wb_ref04_equal_0]) (k0 := [.c c_ref04_equal_k0]) 100 trivial trivial (fun A eA => ?_)
        simp only [eqR]
        by_cases h : x = y
        · rw [decide_eq_true h, Bool.true_and]
          simp (disch := first | omega | (simp only [avs_len, List.length_cons, List.length_append, List.length_nil, List.length_take, List.length_drop, List.length_map]; omega) | (simp only [cells, scal1, allSz, List.length_cons, List.length_nil, List.length_append, List.length_map, List.all_cons, List.all_nil, avs_len, beq_self_eq_true, Bool.and_self, and_self, or_true, true_or, reduceCtorEq, *]; done) | fail) only [c_ref04_equal, wl_ref04_equal_0, s_ref04_equal_0, c_ref04_equal_l0, wb_ref04_equal_0, c_ref04_equal_k0, go_sem, Nat.reduceAdd, Nat.reduceSub, Nat.reduceMul, Nat.reduceLT, Nat.reduceLeDiff, Int.reduceToNat, Nat.reduceEqDiff, Nat.reduceBEq, ↓reduceIte, reduceCtorEq, eA, Int.toNat_natCast, g0, g1, w1]
          have hih := ih q2 (p1 ++ [x]) (q1 ++ [y]) (by rw [h1]; simp) (by rw [h2]; simp) (by simp [h3]) nx
          rw [show (p1 ++ [x]).length = p1.length + 1 by simp] at hih
          exact hih
        · rw [decide_eq_false h, Bool.false_and]
          simp (disch := first | omega | (simp only [avs_len, List.length_cons, List.length_append, List.length_nil, List.length_take, List.length_drop, List.length_map]; omega) | (simp only [cells, scal1, allSz, List.length_cons, List.length_nil, List.length_append, List.length_map, List.all_cons, List.all_nil, avs_len, beq_self_eq_true, Bool.and_self, and_self, or_true, true_or, reduceCtorEq, *]; done) | fail) only [c_ref04_equal, wl_ref04_equal_0, s_ref04_equal_0, c_ref04_equal_l0, wb_ref04_equal_0, c_ref04_equal_k0, go_sem, Nat.reduceAdd, Nat.reduceSub, Nat.reduceMul, Nat.reduceLT, Nat.reduceLeDiff, Int.reduceToNat, Nat.reduceEqDiff, Nat.reduceBEq, ↓reduceIte, reduceCtorEq, eA, Int.toNat_natCast, g0, g1, w1]
          exact doneG rfl
  refine calls_ref04_equal (walk0 100 trivial (fun A eA => ?_))
  simp (disch := first | omega | (simp only [avs_len, List.length_cons, List.length_append, List.length_nil, List.length_take, List.length_drop, List.length_map]; omega) | (simp only [cells, scal1, allSz, List.length_cons, List.length_nil, List.length_append, List.length_map, List.all_cons, List.all_nil, avs_len, beq_self_eq_true, Bool.and_self, and_self, or_true, true_or, reduceCtorEq, *]; done) | fail) only [c_ref04_equal, wl_ref04_equal_0, s_ref04_equal_0, c_ref04_equal_l0, wb_ref04_equal_0, c_ref04_equal_k0, go_sem, Nat.reduceAdd, Nat.reduceSub, Nat.reduceMul, Nat.reduceLT, Nat.reduceLeDiff, Int.reduceToNat, Nat.reduceEqDiff, Nat.reduceBEq, ↓reduceIte, reduceCtorEq, eA, ivs_len]
  exact key p q [] [] rfl rfl rfl zeroC
end Go.Proofs.Ytmokhopjnjecbab
/- The walk through the reference's rows of events. -/
-- short
namespace Go.Proofs.Ytmokhopjnjecbab
open Go.Ev
set_option linter.unusedVariables false
set_option linter.unusedSimpArgs false
set_option maxRecDepth 100000
variable {R : List AV → Heap → Ctr → Prop} {k : List It} {H : Heap} {nx : Ctr} {φ : Nat}

theorem erow_inner (p : Nat) (hp : p < 128) (t1 t3 t10 t11 : AV) (g8 : Nat) (cs : List AV) (hk : flat k) (g5 : Nat) (nx : Ctr) : ∀ (b : E) (i Z : Nat), i + b.dep ≤ 8 → Z + b.top < 2 ^ 60 →
    (∀ x y : AV, RunsX Try.prog φ R k (e_ref04_ERow_2 t1 t3 (.int .i64 (p : Nat)) (.int .i64 ((Z + valE b p (64 / 2 ^ i) : Nat) : Int)) t10 t11) [(φ, 5, g5, some [x, y]), (φ, 8, g8, some cs)] nx) →
    RunsX Try.prog φ R (i_ref04_ERow_2 ++ k) (s_ref04_ERow_2 t1 t3 (.int .i64 (p : Nat)) (.ptr φ 5 g5 0) (.int .i64 ((Z + b.n : Nat) : Int)) (.int .i64 ((64 / 2 ^ i : Nat) : Int)) t10 t11) [(φ, 5, g5, some [.int .i64 b.t.n, .fz 2 (xtavs b.t.ps) none]), (φ, 8, g8, some cs)] nx := by
  intro b
  induction b with
  | lf o =>
    intro i Z hi hA h
    have h0 : (E.lf o).t.ps.length = 0 := rfl
    refine round (its := [.blk 2 wb_ref04_ERow_2]) 100 hk trivial (fun A eA => ?_)
    simp (disch := first | omega | (simp only [avs_len, List.length_cons, List.length_append, List.length_nil, List.length_take, List.length_drop, List.length_map]; omega) | (simp only [cells, scal1, allSz, List.length_cons, List.length_nil, List.length_append, List.length_map, List.all_cons, List.all_nil, avs_len, beq_self_eq_true, Bool.and_self, and_self, or_true, true_or, reduceCtorEq, *]; done) | fail) only [c_ref04_ERow, wl_ref04_ERow_2, s_ref04_ERow_2, c_ref04_ERow_l2, wb_ref04_ERow_2, c_ref04_ERow_k0, wb_ref04_ERow_1, c_ref04_ERow_k1, wl_ref04_ERow_0, s_ref04_ERow_0, c_ref04_ERow_l0, wb_ref04_ERow_0, c_ref04_ERow_k2, go_sem, Nat.reduceAdd, Nat.reduceSub, Nat.reduceMul, Nat.reduceLT, Nat.reduceLeDiff, Int.reduceToNat, Nat.reduceEqDiff, Nat.reduceBEq, ↓reduceIte, reduceCtorEq, eA, xtavs_len]
    exact h _ _
  | nd n l r ihl ihr =>
    intro i Z hi hA h
    have h0 : (E.nd n l r).t.ps = [l.t, r.t] := rfl
    have g0 : (xtavs [l.t, r.t])[0]? = some (xtv l.t) := by rw [xtavs_get]; rfl
    have g1 : (xtavs [l.t, r.t])[1]? = some (xtv r.t) := by rw [xtavs_get]; rfl
    simp only [E.dep] at hi
    simp only [E.top] at hA
    have htl := l.top_n
    have htr := r.top_n
    have hi6 : i ≤ 6 := by have : 1 ≤ l.dep := l.dep_pos
                           omega
    have hpow : 64 / 2 ^ i = 2 ^ (6 - i) := by
      match i, hi6 with
      | 0, _ => rfl
      | 1, _ => rfl
      | 2, _ => rfl
      | 3, _ => rfl
      | 4, _ => rfl
      | 5, _ => rfl
      | 6, _ => rfl
    have hpos : 0 < 2 ^ (6 - i) := Nat.pow_pos (by omega)
    have hle : 64 / 2 ^ i ≤ 64 := Nat.div_le_self _ _
    obtain ⟨q, hq⟩ : ∃ q, q = 64 / 2 ^ i := ⟨_, rfl⟩
    rw [← hpow] at hpos
    rw [← hq] at hpos hle h ⊢
    have hq2 : q / 2 = 64 / 2 ^ (i + 1) := by rw [hq, Nat.div_div_eq_div_mul, Nat.pow_succ]
    have hpq : p / q ≤ p := Nat.div_le_self _ _
    simp only [valE] at h
    have e1 : (p : Int).tdiv (q : Int) = ((p / q : Nat) : Int) := by rw [Int.tdiv_eq_ediv_of_nonneg (by omega)]; simp
    generalize p / q = m at h e1 hpq
    have e2 : IntKind.i64.wrap (m : Int) = (m : Int) := by rw [IntKind.wrap_i64]; omega
    have e3 : (m : Int).tmod 2 = ((m % 2 : Nat) : Int) := by rw [Int.tmod_eq_emod_of_nonneg (by omega)]; omega
    have e4 : (q : Int).tdiv 2 = ((q / 2 : Nat) : Int) := by rw [Int.tdiv_eq_ediv_of_nonneg (by omega)]; omega
    have e5 : IntKind.i64.wrap ((q / 2 : Nat) : Int) = ((q / 2 : Nat) : Int) := by rw [IntKind.wrap_i64]; omega
    have hnn : (E.nd n l r).n = n := rfl
    refine round (its := [.blk 2 wb_ref04_ERow_2]) 100 hk trivial (fun A eA => ?_)
    by_cases hz : m % 2 = 0
    · rw [if_pos hz, hq2] at h
      have e6 : IntKind.i64.wrap (((Z + n : Nat) : Int) + l.t.n) = ((Z + n + l.n : Nat) : Int) := by rw [IntKind.wrap_i64, l.t_n]; omega
      simp (disch := first | omega | (simp only [avs_len, List.length_cons, List.length_append, List.length_nil, List.length_take, List.length_drop, List.length_map]; omega) | (simp only [cells, scal1, allSz, List.length_cons, List.length_nil, List.length_append, List.length_map, List.all_cons, List.all_nil, avs_len, beq_self_eq_true, Bool.and_self, and_self, or_true, true_or, reduceCtorEq, *]; done) | fail) only [c_ref04_ERow, wl_ref04_ERow_2, s_ref04_ERow_2, c_ref04_ERow_l2, wb_ref04_ERow_2, c_ref04_ERow_k0, wb_ref04_ERow_1, c_ref04_ERow_k1, wl_ref04_ERow_0, s_ref04_ERow_0, c_ref04_ERow_l0, wb_ref04_ERow_0, c_ref04_ERow_k2, go_sem, Nat.reduceAdd, Nat.reduceSub, Nat.reduceMul, Nat.reduceLT, Nat.reduceLeDiff, Int.reduceToNat, Nat.reduceEqDiff, Nat.reduceBEq, ↓reduceIte, reduceCtorEq, eA, xtavs_len, h0, hnn, e1, e2, e3, hz, e4, e5, e6, Int.toNat_natCast, g0, scal1, List.all_cons, List.all_nil, Bool.and_self]
      rw [hq2]
      exact ihl (i + 1) (Z + n) (by omega) (by omega) (fun x y => by have := h x y; rwa [← Nat.add_assoc] at this)
    · rw [if_neg hz, hq2] at h
      have hz1 : m % 2 = 1 := by omega
      have e6 : IntKind.i64.wrap (((Z + n : Nat) : Int) + r.t.n) = ((Z + n + r.n : Nat) : Int) := by rw [IntKind.wrap_i64, r.t_n]; omega
      simp (disch := first | omega | (simp only [avs_len, List.length_cons, List.length_append, List.length_nil, List.length_take, List.length_drop, List.length_map]; omega) | (simp only [cells, scal1, allSz, List.length_cons, List.length_nil, List.length_append, List.length_map, List.all_cons, List.all_nil, avs_len, beq_self_eq_true, Bool.and_self, and_self, or_true, true_or, reduceCtorEq, *]; done) | fail) only [c_ref04_ERow, wl_ref04_ERow_2, s_ref04_ERow_2, c_ref04_ERow_l2, wb_ref04_ERow_2, c_ref04_ERow_k0, wb_ref04_ERow_1, c_ref04_ERow_k1, wl_ref04_ERow_0, s_ref04_ERow_0, c_ref04_ERow_l0, wb_ref04_ERow_0, c_ref04_ERow_k2, go_sem, Nat.reduceAdd, Nat.reduceSub, Nat.reduceMul, Nat.reduceLT, Nat.reduceLeDiff, Int.reduceToNat, Nat.reduceEqDiff, Nat.reduceBEq, ↓reduceIte, reduceCtorEq, eA, xtavs_len, h0, hnn, e1, e2, e3, hz1, e4, e5, e6, Int.toNat_natCast, g1, scal1, List.all_cons, List.all_nil, Bool.and_self]
      rw [hq2]
      exact ihr (i + 1) (Z + n) (by omega) (by omega) (fun x y => by have := h x y; rwa [← Nat.add_assoc] at this)
theorem erow_loop (e : E) (hd : e.dep ≤ 8) (ht : e.top < 2 ^ 60) : ∀ (n i : Nat), i + n = 128 → ∀ cs0 : List AV, cs0 = partR (ivs (rowE 7 e)) (.int .i64 0) i → ∀ nx : Ctr,
    RunsX Try.prog 0 (Gives [.t 2] (.fz 1 (ivs (rowE 7 e)) none)) (i_ref04_ERow_0 ++ [.c c_ref04_ERow_k2]) (s_ref04_ERow_0 (.ro [.int .i64 e.t.n, .fz 2 (xtavs e.t.ps) none]) (.sl 0 8 0 1 0 128) (.int .i64 128) (.int .i64 (i : Nat))) [(0, 8, 0, some cs0)] nx := by
  have hL : (ivs (rowE 7 e)).length = 128 := by rw [ivs_len, rowE_len]
  intro n
  induction n with
  | zero =>
    intro i hi cs0 hcs0 nx
    obtain rfl : i = 128 := by omega
    have e0 : cs0 = ivs (rowE 7 e) := by rw [hcs0]; have := partR_all (ivs (rowE 7 e)) (.int .i64 0); rwa [hL] at this
    subst e0
    refine round (its := [.blk 0 wb_ref04_ERow_0]) (k0 := [.c c_ref04_ERow_k2]) 100 trivial trivial (fun A eA => ?_)
    simp (disch := first | omega | (simp only [avs_len, List.length_cons, List.length_append, List.length_nil, List.length_take, List.length_drop, List.length_map]; omega) | (simp only [cells, scal1, allSz, List.length_cons, List.length_nil, List.length_append, List.length_map, List.all_cons, List.all_nil, avs_len, beq_self_eq_true, Bool.and_self, and_self, or_true, true_or, reduceCtorEq, *]; done) | fail) only [c_ref04_ERow, wl_ref04_ERow_2, s_ref04_ERow_2, c_ref04_ERow_l2, wb_ref04_ERow_2, c_ref04_ERow_k0, wb_ref04_ERow_1, c_ref04_ERow_k1, wl_ref04_ERow_0, s_ref04_ERow_0, c_ref04_ERow_l0, wb_ref04_ERow_0, c_ref04_ERow_k2, go_sem, Nat.reduceAdd, Nat.reduceSub, Nat.reduceMul, Nat.reduceLT, Nat.reduceLeDiff, Int.reduceToNat, Nat.reduceEqDiff, Nat.reduceBEq, ↓reduceIte, reduceCtorEq, eA]
    refine walk0 (its := [.c c_ref04_ERow_k2]) 100 trivial (fun A eA => ?_)
    simp (disch := first | omega | (simp only [avs_len, List.length_cons, List.length_append, List.length_nil, List.length_take, List.length_drop, List.length_map]; omega) | (simp only [cells, scal1, allSz, List.length_cons, List.length_nil, List.length_append, List.length_map, List.all_cons, List.all_nil, avs_len, beq_self_eq_true, Bool.and_self, and_self, or_true, true_or, reduceCtorEq, *]; done) | fail) only [c_ref04_ERow, wl_ref04_ERow_2, s_ref04_ERow_2, c_ref04_ERow_l2, wb_ref04_ERow_2, c_ref04_ERow_k0, wb_ref04_ERow_1, c_ref04_ERow_k1, wl_ref04_ERow_0, s_ref04_ERow_0, c_ref04_ERow_l0, wb_ref04_ERow_0, c_ref04_ERow_k2, go_sem, Nat.reduceAdd, Nat.reduceSub, Nat.reduceMul, Nat.reduceLT, Nat.reduceLeDiff, Int.reduceToNat, Nat.reduceEqDiff, Nat.reduceBEq, ↓reduceIte, reduceCtorEq, eA]
    refine doneG ?_
    have ht : List.take 128 (ivs (rowE 7 e)) = ivs (rowE 7 e) := List.take_of_length_le (by omega)
    simp (disch := first | omega | (simp only [avs_len, List.length_cons, List.length_append, List.length_nil, List.length_take, List.length_drop, List.length_map]; omega) | (simp only [cells, scal1, allSz, List.length_cons, List.length_nil, List.length_append, List.length_map, List.all_cons, List.all_nil, avs_len, beq_self_eq_true, Bool.and_self, and_self, or_true, true_or, reduceCtorEq, *]; done) | fail) only [go_sem, Nat.reduceAdd, Nat.reduceSub, Nat.reduceMul, Nat.reduceLT, Nat.reduceLeDiff, Int.reduceToNat, Nat.reduceEqDiff, Nat.reduceBEq, ↓reduceIte, reduceCtorEq, ht, hL, ↓frz_ivs, chunk]
  | succ n ih =>
    intro i hi cs0 hcs0 nx
    have hat := rowE_at 7 e i (by omega)
    rw [show (2 : Nat) ^ 7 = 128 from rfl, Nat.mod_eq_of_lt (by omega)] at hat
    have hat2 : (ivs (rowE 7 e))[i]? = some (.int .i64 ((valE e i 64 : Nat) : Int)) := by rw [List.getElem?_map, hat]; rfl
    have hput := partR_put (ivs (rowE 7 e)) (.int .i64 0) _ i hat2
    have hlen := partR_len (ivs (rowE 7 e)) (.int .i64 0) i (by omega)
    rw [← hcs0] at hput hlen
    have w1 : IntKind.i64.wrap ((i : Int) + 1) = ((i + 1 : Nat) : Int) := by rw [IntKind.wrap_i64]; omega
    have hih := ih (i + 1) (by omega) _ hput
    have htn := e.t_n
    refine round (its := [.blk 0 wb_ref04_ERow_0]) (k0 := [.c c_ref04_ERow_k2]) 100 trivial trivial (fun A eA => ?_)
    simp (disch := first | omega | (simp only [avs_len, List.length_cons, List.length_append, List.length_nil, List.length_take, List.length_drop, List.length_map]; omega) | (simp only [cells, scal1, allSz, List.length_cons, List.length_nil, List.length_append, List.length_map, List.all_cons, List.all_nil, avs_len, beq_self_eq_true, Bool.and_self, and_self, or_true, true_or, reduceCtorEq, *]; done) | fail) only [c_ref04_ERow, wl_ref04_ERow_2, s_ref04_ERow_2, c_ref04_ERow_l2, wb_ref04_ERow_2, c_ref04_ERow_k0, wb_ref04_ERow_1, c_ref04_ERow_k1, wl_ref04_ERow_0, s_ref04_ERow_0, c_ref04_ERow_l0, wb_ref04_ERow_0, c_ref04_ERow_k2, go_sem, Nat.reduceAdd, Nat.reduceSub, Nat.reduceMul, Nat.reduceLT, Nat.reduceLeDiff, Int.reduceToNat, Nat.reduceEqDiff, Nat.reduceBEq, ↓reduceIte, reduceCtorEq, eA, scal1, List.all_cons, List.all_nil, Bool.and_self]
    have hin := fun hh => erow_inner (φ := 0) (R := Gives [.t 2] (.fz 1 (ivs (rowE 7 e)) none)) i (by omega) (.ro [.int .i64 e.t.n, .fz 2 (xtavs e.t.ps) none]) (.sl 0 8 0 1 0 128) (.int .i64 128) (.int .i64 (i : Nat)) 0 cs0 (k := [.c c_ref04_ERow_k0, .blk 1 wb_ref04_ERow_1, .c c_ref04_ERow_k1, .lp wl_ref04_ERow_0 c_ref04_ERow_l0, .blk 0 wb_ref04_ERow_0, .c c_ref04_ERow_k2]) trivial (nx 5) (bump nx 5) e 0 0 (by omega) (by omega) hh
    simp only [Nat.zero_add, ← e.t_n] at hin
    refine hin (fun x y => ?_)
    refine walk 100 (its := [.c c_ref04_ERow_k0, .blk 1 wb_ref04_ERow_1, .c c_ref04_ERow_k1, .lp wl_ref04_ERow_0 c_ref04_ERow_l0, .blk 0 wb_ref04_ERow_0]) (k0 := [.c c_ref04_ERow_k2]) trivial trivial (fun A eA => ?_)
    have hcs : cs0.length = 128 := by omega
    simp (disch := first | omega | (simp only [avs_len, List.length_cons, List.length_append, List.length_nil, List.length_take, List.length_drop, List.length_map]; omega) | (simp only [cells, scal1, allSz, List.length_cons, List.length_nil, List.length_append, List.length_map, List.all_cons, List.all_nil, avs_len, beq_self_eq_true, Bool.and_self, and_self, or_true, true_or, reduceCtorEq, *]; done) | fail) only [c_ref04_ERow, wl_ref04_ERow_2, s_ref04_ERow_2, c_ref04_ERow_l2, wb_ref04_ERow_2, c_ref04_ERow_k0, wb_ref04_ERow_1, c_ref04_ERow_k1, wl_ref04_ERow_0, s_ref04_ERow_0, c_ref04_ERow_l0, wb_ref04_ERow_0, c_ref04_ERow_k2, go_sem, Nat.reduceAdd, Nat.reduceSub, Nat.reduceMul, Nat.reduceLT, Nat.reduceLeDiff, Int.reduceToNat, Nat.reduceEqDiff, Nat.reduceBEq, ↓reduceIte, reduceCtorEq, eA, scal1, List.all_cons, List.all_nil, Bool.and_self, Int.toNat_natCast, w1, hcs, Nat.pow_zero, Nat.div_one]
    exact hih _
theorem ERow_calls (e : E) (hd : e.dep ≤ 8) (ht : e.top < 2 ^ 60) : PCalls Try.prog F_ref04_ERow [xtv e.t] (.fz 1 (ivs (rowE 7 e)) none) := by
  have hp0 : List.replicate 128 (AV.int .i64 0) = partR (ivs (rowE 7 e)) (.int .i64 0) 0 := by
    show _ = List.take 0 _ ++ List.replicate (_ - 0) _
    rw [ivs_len, rowE_len]; rfl
  refine calls_ref04_ERow ?_
  simp only [List.replicate, List.length_cons, List.length_nil, Nat.reduceAdd, Nat.reduceSub, List.cons_append, List.nil_append]
  refine walk0 100 trivial (fun A eA => ?_)
  simp (disch := first | omega | (simp only [avs_len, List.length_cons, List.length_append, List.length_nil, List.length_take, List.length_drop, List.length_map]; omega) | (simp only [cells, scal1, allSz, List.length_cons, List.length_nil, List.length_append, List.length_map, List.all_cons, List.all_nil, avs_len, beq_self_eq_true, Bool.and_self, and_self, or_true, true_or, reduceCtorEq, *]; done) | fail) only [c_ref04_ERow, wl_ref04_ERow_2, s_ref04_ERow_2, c_ref04_ERow_l2, wb_ref04_ERow_2, c_ref04_ERow_k0, wb_ref04_ERow_1, c_ref04_ERow_k1, wl_ref04_ERow_0, s_ref04_ERow_0, c_ref04_ERow_l0, wb_ref04_ERow_0, c_ref04_ERow_k2, go_sem, Nat.reduceAdd, Nat.reduceSub, Nat.reduceMul, Nat.reduceLT, Nat.reduceLeDiff, Int.reduceToNat, Nat.reduceEqDiff, Nat.reduceBEq, ↓reduceIte, reduceCtorEq, eA, scal1, List.all_cons, List.all_nil, Bool.and_self]
  exact erow_loop e hd ht 128 0 rfl _ hp0 (bump zeroC 8)
end Go.Proofs.Ytmokhopjnjecbab
