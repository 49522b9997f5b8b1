/- The walk through the reference's Split and Split; what the law answers. -/
import Derived.Test.YtmokhopjnjecbabWSplit
import Derived.Test.YtmokhopjnjecbabWIdent6
namespace Go.Proofs.Ytmokhopjnjecbab
open Go.Ev
set_option linter.unusedVariables false
set_option linter.unusedSimpArgs false
set_option maxRecDepth 100000
variable {R : List AV → Heap → Ctr → Prop} {k : List It} {H : Heap} {nx : Ctr} {φ : Nat}

/-- Elements told less of, cell by cell. -/
theorem Wk1.elems {sz : Nat} {es es' : List AV} {c : Option Nat} (hl : es.length = es'.length) (h : ∀ (i : Nat) e e', es[i]? = some e → es'[i]? = some e' → (cells e).length = (cells e').length ∧ ∀ (j : Nat) x y, (cells e)[j]? = some x → (cells e')[j]? = some y → Wk1 x y) : Wk1 (.fz sz es c) (.fz sz es' none) := by
  intro L X nx w p v hr
  cases hr with
  | fz0 a b =>
    have : es' = [] := List.eq_nil_of_length_eq_zero (by simpa using hl.symm)
    subst this
    exact .fz0 (by simp) (fun e => ⟨(b e).1, rfl⟩)
  | @fz _ _ _ _ a c vv hne hle hcap hsz hc hr h1 ho =>
    have old : ∀ (i : Nat) e' (j : Nat) y, es'[i]? = some e' → (cells e')[j]? = some y → ∃ e x, es[i]? = some e ∧ (cells e)[j]? = some x ∧ Wk1 x y := by
      intro i e' j y he hy
      have hi := (List.getElem?_eq_some_iff.1 he).1
      have he0 : es[i]? = some es[i] := List.getElem?_eq_getElem (by omega)
      obtain ⟨h2, h3⟩ := h i _ _ he0 he
      have hj := (List.getElem?_eq_some_iff.1 hy).1
      have hx0 : (cells es[i])[j]? = some (cells es[i])[j] := List.getElem?_eq_getElem (by omega)
      exact ⟨_, _, he0, hx0, h3 _ _ _ hx0 hy⟩
    rw [hl]
    refine .fz vv (fun e => hne (List.eq_nil_of_length_eq_zero (by rw [hl, e]; rfl))) (by omega) (by simp) (fun i e' he => ?_) (fun i e' j y he hy => ?_) (fun i e' j y he hy => ?_) (fun i e' j y he hy => ?_) ho
    · have hi := (List.getElem?_eq_some_iff.1 he).1
      have he0 : es[i]? = some es[i] := List.getElem?_eq_getElem (by omega)
      rw [← (h i _ _ he0 he).1]; exact hsz _ _ he0
    · obtain ⟨e, x, h2, h3, _⟩ := old i e' j y he hy
      exact hc _ _ _ _ h2 h3
    · obtain ⟨e, x, h2, h3, h4⟩ := old i e' j y he hy
      exact h4 _ _ _ _ _ _ (hr _ _ _ _ h2 h3)
    · obtain ⟨e, x, h2, h3, _⟩ := old i e' j y he hy
      exact h1 _ _ _ _ h2 h3
/-- Cells that stand for a tree. -/
def isT (x : AV) (t : Tree) : Prop := ∃ p, x = .agg [.bool t.one, p] ∧ Wk1 p (.fz 2 (tavs t.ps) none)
theorem isT_tv (t : Tree) : isT (tv t) t := ⟨_, rfl, Wk1.refl _⟩
theorem isT_nil (o : Bool) : isT (.agg [.bool o, .nils]) (.mk o []) := ⟨_, rfl, by simp only [Tree.ps, tavs]; exact Wk1.nils 2⟩
theorem isT.wk {x : AV} {t : Tree} (h : isT x t) : Wk1 x (tv t) := by
  obtain ⟨p, rfl, hp⟩ := h
  refine Wk1.agg rfl (fun j a b ha hb => ?_)
  rcases j with _ | _ | j
  · simp at ha hb; subst ha hb; exact Wk1.refl _
  · simp at ha hb; subst ha hb; exact hp
  · simp at ha
theorem wk_nd {x y : AV} {l r : B} {c : Option Nat} (hx : isT x l.t) (hy : isT y r.t) : isT (.agg [.bool false, .fz 2 [x, y] c]) (B.nd l r).t := by
  refine ⟨_, rfl, ?_⟩
  show Wk1 _ (.fz 2 (tavs [l.t, r.t]) none)
  simp only [tavs, tav_tv]
  obtain ⟨p, rfl, hp⟩ := hx
  obtain ⟨q, rfl, hq⟩ := hy
  refine Wk1.elems rfl (fun i e e' he he' => ?_)
  rcases i with _ | _ | i
  · simp at he he'; subst he he'
    refine ⟨rfl, fun j x y hx hy => ?_⟩
    rcases j with _ | _ | j
    · simp [cells] at hx hy; subst hx hy; exact Wk1.refl _
    · simp [cells] at hx hy; subst hx hy; exact hp
    · simp [cells] at hx
  · simp at he he'; subst he he'
    refine ⟨rfl, fun j x y hx hy => ?_⟩
    rcases j with _ | _ | j
    · simp [cells] at hx hy; subst hx hy; exact Wk1.refl _
    · simp [cells] at hx hy; subst hx hy; exact hq
    · simp [cells] at hx
  · simp at he
theorem wk_tri {a b a' b' c : AV} (ha : Wk1 a a') (hb : Wk1 b b') : Wk1 (.tup [a, b, c]) (.tup [a', b', c]) := by
  refine Wk1.tup rfl (fun j x y hx hy => ?_)
  rcases j with _ | _ | _ | j
  · simp at hx hy; subst hx hy; exact ha
  · simp at hx hy; subst hx hy; exact hb
  · simp at hx hy; subst hx hy; exact Wk1.refl _
  · simp at hx
noncomputable def okB : B → Bool
  | .lf _ => true
  | .nd l r => rtb (splitB (.nd l r)).1.t && rtb (splitB (.nd l r)).2.t
set_option maxHeartbeats 3200000 in
theorem refSplit_calls : ∀ b : B, b.short = true → b.nodes < 2 ^ 50 → PCalls Try.prog F_ref04_Split [tv b.t] (.tup [tv (splitB b).1.t, tv (splitB b).2.t, .bool (okB b)]) := by
  intro b
  induction b with
  | lf o =>
    intro _ _
    refine calls_ref04_Split (walk0 100 trivial (fun A eA => ?_))
    simp (disch := first | omega | (simp only [avs_len, List.length_cons, List.length_append, List.length_nil, List.length_take, List.length_drop, List.length_map]; omega)) only [c_ref04_Split, ↓advStep, ↓execK, ↓opK, ↓binK, ↓intK, ↓strK, evs, ev, getT, setT, put, List.replicate, List.cons_append, List.nil_append, List.length_cons, List.length_nil, ↓mapK, ↓frzK_sl, ↓frzK_agg, ↓frzK_tup, ↓frzK_ifc, ↓frzK_func, ↓frzK_int, ↓frzK_bool, ↓frzK_str, ↓frzK_nilp, ↓frzK_nils, ↓frzK_nilm, ↓frzK_nilf, ↓frzK_nili, ↓frzK_fz, ↓frzK_any, ↓frzK_ptr, ↓frzK_ro, ↓getB, setB, kill, killM, dropK, keysOf, capOf_nn, zeroC, bump, frzT, thaw, gets, putAll, ↓getsK, ↓getR, ↓retK, retv, find, cells, ↓nilpK, ↓nilsK, ↓nilfK, ↓niliK, ↓bndK, ↓cutK, ↓fillK, ↓exitK, List.append_nil, List.drop, List.take, Nat.reduceAdd, Nat.reduceSub, Nat.reduceMul, Nat.reduceLT, Nat.reduceLeDiff, Nat.zero_add, Nat.add_zero, Nat.mul_one, Int.reduceToNat, Nat.reduceEqDiff, Nat.succ_ne_self, Nat.le_refl, Nat.one_ne_zero, Nat.reduceBEq, Nat.lt_irrefl, List.length_append, Int.toNat_zero, Int.toNat_one, List.take_zero, List.drop_zero, Nat.zero_mul, sel, rest, keyIn, ↓reduceIte, ↓if_pos, ↓if_neg, reduceCtorEq, Bool.not_true, Bool.not_false, Bool.false_eq_true, Bool.true_eq_false, and_self, and_true, true_and, false_and, and_false, decide_true, decide_false, decide_eq_true, decide_eq_false, decide_eq_true_eq, decide_eq_false_iff_not, Bool.not_eq_true, Bool.not_eq_false, Bool.not_eq_eq_eq_not, Decidable.not_not, eA, scal1, List.all_cons, List.all_nil, Bool.and_self, tavs_len, B.t, Tree.ps, allSz, cells, beq_self_eq_true]
    exact doneW rfl (wk_tri (wk_nd (l := .lf true) (r := .lf false) (isT_nil true) (isT_nil false)).wk (wk_nd (l := .lf false) (r := .lf true) (isT_nil false) (isT_nil true)).wk)
  | nd l r ihl ihr =>
    intro hs hn
    have hs' := hs
    simp only [B.short, Bool.and_eq_true, Bool.not_eq_true'] at hs'
    simp only [B.nodes] at hn
    have ihl := ihl hs'.1.1 (by omega)
    have ihr := ihr hs'.1.2 (by omega)
    have h0 : (B.nd l r).t.ps = [l.t, r.t] := rfl
    have g0 : (tavs [l.t, r.t])[0]? = some (tv l.t) := by rw [tavs_get]; rfl
    have g1 : (tavs [l.t, r.t])[1]? = some (tv r.t) := by rw [tavs_get]; rfl
    have sl := PCalls.arg [tv l.t] (post := []) (wk_leaf false) (refSame_calls l.t (by rw [b_size']; omega) (.mk false []))
    have sr := PCalls.arg [tv r.t] (post := []) (wk_leaf false) (refSame_calls r.t (by rw [b_size']; omega) (.mk false []))
    rw [B.isN_teq] at sl sr
    simp only [List.cons_append, List.nil_append] at sl sr
    have fin : ∀ (a c : B) (xa xc : AV), splitB (.nd l r) = (a, c) → isT xa a.t → isT xc c.t → a.nodes < 2 ^ 55 → c.nodes < 2 ^ 55 → PCalls Try.prog F_ref04_Right [xa] (.bool (rtb a.t)) ∧ PCalls Try.prog F_ref04_Right [xc] (.bool (rtb c.t)) := by
      intro a c xa xc e h1 h2 h3 h4
      exact ⟨PCalls.arg [] h1.wk (refRight_calls a.t (by rw [b_size']; omega)), PCalls.arg [] h2.wk (refRight_calls c.t (by rw [b_size']; omega))⟩
    have ok2 : ∀ a c, splitB (.nd l r) = (a, c) → okB (.nd l r) = (rtb a.t && rtb c.t) := by intro a c e; simp only [okB, e]
    have nl := splitB_nodes l
    have nr := splitB_nodes r
    cases hl : l.isN with
    | true =>
      have hr : r.isN = false := by
        cases hq : r.isN with
        | false => rfl
        | true => rw [B.isN_eq hl, B.isN_eq hq] at hs'; simp [lfEq, B.t, Tree.ps, Tree.one] at hs'
      rw [hl] at sl
      rw [hr] at sr
      have e : splitB (.nd l r) = (.nd (.lf false) (splitB r).1, .nd (.lf false) (splitB r).2) := by simp only [splitB, hl, if_true]
      have w1 := wk_nd (l := .lf false) (c := some 2) (isT_nil false) (isT_tv (splitB r).1.t)
      have w2 := wk_nd (l := .lf false) (c := some 2) (isT_nil false) (isT_tv (splitB r).2.t)
      obtain ⟨c1, c2⟩ := fin _ _ _ _ e w1 w2 (by simp only [B.nodes]; omega) (by simp only [B.nodes]; omega)
      rw [ok2 _ _ e, e]
      have ww := fun c => wk_tri (c := c) w1.wk w2.wk
      generalize rtb (B.nd (.lf false) (splitB r).2).t = q2 at c2 ⊢
      refine calls_ref04_Split (walk0 100 trivial (fun A eA => ?_))
      cases hq1 : rtb (B.nd (.lf false) (splitB r).1).t
      all_goals
        rw [hq1] at c1
        simp (disch := first | omega | (simp only [avs_len, List.length_cons, List.length_append, List.length_nil, List.length_take, List.length_drop, List.length_map]; omega)) only [c_ref04_Split, ↓advStep, ↓execK, ↓opK, ↓binK, ↓intK, ↓strK, evs, ev, getT, setT, put, List.replicate, List.cons_append, List.nil_append, List.length_cons, List.length_nil, ↓mapK, ↓frzK_sl, ↓frzK_agg, ↓frzK_tup, ↓frzK_ifc, ↓frzK_func, ↓frzK_int, ↓frzK_bool, ↓frzK_str, ↓frzK_nilp, ↓frzK_nils, ↓frzK_nilm, ↓frzK_nilf, ↓frzK_nili, ↓frzK_fz, ↓frzK_any, ↓frzK_ptr, ↓frzK_ro, ↓getB, setB, kill, killM, dropK, keysOf, capOf_nn, zeroC, bump, frzT, thaw, gets, putAll, ↓getsK, ↓getR, ↓retK, retv, find, cells, ↓nilpK, ↓nilsK, ↓nilfK, ↓niliK, ↓bndK, ↓cutK, ↓fillK, ↓exitK, List.append_nil, List.drop, List.take, Nat.reduceAdd, Nat.reduceSub, Nat.reduceMul, Nat.reduceLT, Nat.reduceLeDiff, Nat.zero_add, Nat.add_zero, Nat.mul_one, Int.reduceToNat, Nat.reduceEqDiff, Nat.succ_ne_self, Nat.le_refl, Nat.one_ne_zero, Nat.reduceBEq, Nat.lt_irrefl, List.length_append, Int.toNat_zero, Int.toNat_one, List.take_zero, List.drop_zero, Nat.zero_mul, sel, rest, keyIn, ↓reduceIte, ↓if_pos, ↓if_neg, reduceCtorEq, Bool.not_true, Bool.not_false, Bool.false_eq_true, Bool.true_eq_false, and_self, and_true, true_and, false_and, and_false, decide_true, decide_false, decide_eq_true, decide_eq_false, decide_eq_true_eq, decide_eq_false_iff_not, Bool.not_eq_true, Bool.not_eq_false, Bool.not_eq_eq_eq_not, Decidable.not_not, eA, scal1, List.all_cons, List.all_nil, Bool.and_self, tavs_len, h0, g0, g1, allSz, cells, beq_self_eq_true]
        repeat ((first | refine call0 100 trivial trivial (by first | exact sl | exact sr | exact ihr | exact c1 | exact c2) (by first | exact .inl rfl | exact .inr rfl) (fun A eA => ?_) | refine call1 100 trivial trivial (by first | exact sl | exact sr | exact ihr | exact c1 | exact c2) (fun A eA => ?_)); simp (disch := first | omega | (simp only [avs_len, List.length_cons, List.length_append, List.length_nil, List.length_take, List.length_drop, List.length_map]; omega)) only [c_ref04_Split, ↓advStep, ↓execK, ↓opK, ↓binK, ↓intK, ↓strK, evs, ev, getT, setT, put, List.replicate, List.cons_append, List.nil_append, List.length_cons, List.length_nil, ↓mapK, ↓frzK_sl, ↓frzK_agg, ↓frzK_tup, ↓frzK_ifc, ↓frzK_func, ↓frzK_int, ↓frzK_bool, ↓frzK_str, ↓frzK_nilp, ↓frzK_nils, ↓frzK_nilm, ↓frzK_nilf, ↓frzK_nili, ↓frzK_fz, ↓frzK_any, ↓frzK_ptr, ↓frzK_ro, ↓getB, setB, kill, killM, dropK, keysOf, capOf_nn, zeroC, bump, frzT, thaw, gets, putAll, ↓getsK, ↓getR, ↓retK, retv, find, cells, ↓nilpK, ↓nilsK, ↓nilfK, ↓niliK, ↓bndK, ↓cutK, ↓fillK, ↓exitK, List.append_nil, List.drop, List.take, Nat.reduceAdd, Nat.reduceSub, Nat.reduceMul, Nat.reduceLT, Nat.reduceLeDiff, Nat.zero_add, Nat.add_zero, Nat.mul_one, Int.reduceToNat, Nat.reduceEqDiff, Nat.succ_ne_self, Nat.le_refl, Nat.one_ne_zero, Nat.reduceBEq, Nat.lt_irrefl, List.length_append, Int.toNat_zero, Int.toNat_one, List.take_zero, List.drop_zero, Nat.zero_mul, sel, rest, keyIn, ↓reduceIte, ↓if_pos, ↓if_neg, reduceCtorEq, Bool.not_true, Bool.not_false, Bool.false_eq_true, Bool.true_eq_false, and_self, and_true, true_and, false_and, and_false, decide_true, decide_false, decide_eq_true, decide_eq_false, decide_eq_true_eq, decide_eq_false_iff_not, Bool.not_eq_true, Bool.not_eq_false, Bool.not_eq_eq_eq_not, Decidable.not_not, eA, scal1, List.all_cons, List.all_nil, Bool.and_self, allSz, cells, beq_self_eq_true, Bool.false_and, Bool.true_and])
        exact doneW rfl (ww _)
    | false =>
      rw [hl] at sl
      cases hr : r.isN with
      | true =>
        rw [hr] at sr
        have e : splitB (.nd l r) = (.nd (splitB l).1 (.lf false), .nd (splitB l).2 (.lf false)) := by simp only [splitB, hl, hr, if_true, Bool.false_eq_true, if_false]
        have w1 := wk_nd (r := .lf false) (c := some 2) (isT_tv (splitB l).1.t) (isT_nil false)
        have w2 := wk_nd (r := .lf false) (c := some 2) (isT_tv (splitB l).2.t) (isT_nil false)
        obtain ⟨c1, c2⟩ := fin _ _ _ _ e w1 w2 (by simp only [B.nodes]; omega) (by simp only [B.nodes]; omega)
        rw [ok2 _ _ e, e]
        have ww := fun c => wk_tri (c := c) w1.wk w2.wk
        generalize rtb (B.nd (splitB l).2 (.lf false)).t = q2 at c2 ⊢
        refine calls_ref04_Split (walk0 100 trivial (fun A eA => ?_))
        cases hq1 : rtb (B.nd (splitB l).1 (.lf false)).t
        all_goals
          rw [hq1] at c1
          simp (disch := first | omega | (simp only [avs_len, List.length_cons, List.length_append, List.length_nil, List.length_take, List.length_drop, List.length_map]; omega)) only [c_ref04_Split, ↓advStep, ↓execK, ↓opK, ↓binK, ↓intK, ↓strK, evs, ev, getT, setT, put, List.replicate, List.cons_append, List.nil_append, List.length_cons, List.length_nil, ↓mapK, ↓frzK_sl, ↓frzK_agg, ↓frzK_tup, ↓frzK_ifc, ↓frzK_func, ↓frzK_int, ↓frzK_bool, ↓frzK_str, ↓frzK_nilp, ↓frzK_nils, ↓frzK_nilm, ↓frzK_nilf, ↓frzK_nili, ↓frzK_fz, ↓frzK_any, ↓frzK_ptr, ↓frzK_ro, ↓getB, setB, kill, killM, dropK, keysOf, capOf_nn, zeroC, bump, frzT, thaw, gets, putAll, ↓getsK, ↓getR, ↓retK, retv, find, cells, ↓nilpK, ↓nilsK, ↓nilfK, ↓niliK, ↓bndK, ↓cutK, ↓fillK, ↓exitK, List.append_nil, List.drop, List.take, Nat.reduceAdd, Nat.reduceSub, Nat.reduceMul, Nat.reduceLT, Nat.reduceLeDiff, Nat.zero_add, Nat.add_zero, Nat.mul_one, Int.reduceToNat, Nat.reduceEqDiff, Nat.succ_ne_self, Nat.le_refl, Nat.one_ne_zero, Nat.reduceBEq, Nat.lt_irrefl, List.length_append, Int.toNat_zero, Int.toNat_one, List.take_zero, List.drop_zero, Nat.zero_mul, sel, rest, keyIn, ↓reduceIte, ↓if_pos, ↓if_neg, reduceCtorEq, Bool.not_true, Bool.not_false, Bool.false_eq_true, Bool.true_eq_false, and_self, and_true, true_and, false_and, and_false, decide_true, decide_false, decide_eq_true, decide_eq_false, decide_eq_true_eq, decide_eq_false_iff_not, Bool.not_eq_true, Bool.not_eq_false, Bool.not_eq_eq_eq_not, Decidable.not_not, eA, scal1, List.all_cons, List.all_nil, Bool.and_self, tavs_len, h0, g0, g1, allSz, cells, beq_self_eq_true]
          repeat ((first | refine call0 100 trivial trivial (by first | exact sl | exact sr | exact ihr | exact ihl | exact c1 | exact c2) (by first | exact .inl rfl | exact .inr rfl) (fun A eA => ?_) | refine call1 100 trivial trivial (by first | exact sl | exact sr | exact ihr | exact ihl | exact c1 | exact c2) (fun A eA => ?_)); simp (disch := first | omega | (simp only [avs_len, List.length_cons, List.length_append, List.length_nil, List.length_take, List.length_drop, List.length_map]; omega)) only [c_ref04_Split, ↓advStep, ↓execK, ↓opK, ↓binK, ↓intK, ↓strK, evs, ev, getT, setT, put, List.replicate, List.cons_append, List.nil_append, List.length_cons, List.length_nil, ↓mapK, ↓frzK_sl, ↓frzK_agg, ↓frzK_tup, ↓frzK_ifc, ↓frzK_func, ↓frzK_int, ↓frzK_bool, ↓frzK_str, ↓frzK_nilp, ↓frzK_nils, ↓frzK_nilm, ↓frzK_nilf, ↓frzK_nili, ↓frzK_fz, ↓frzK_any, ↓frzK_ptr, ↓frzK_ro, ↓getB, setB, kill, killM, dropK, keysOf, capOf_nn, zeroC, bump, frzT, thaw, gets, putAll, ↓getsK, ↓getR, ↓retK, retv, find, cells, ↓nilpK, ↓nilsK, ↓nilfK, ↓niliK, ↓bndK, ↓cutK, ↓fillK, ↓exitK, List.append_nil, List.drop, List.take, Nat.reduceAdd, Nat.reduceSub, Nat.reduceMul, Nat.reduceLT, Nat.reduceLeDiff, Nat.zero_add, Nat.add_zero, Nat.mul_one, Int.reduceToNat, Nat.reduceEqDiff, Nat.succ_ne_self, Nat.le_refl, Nat.one_ne_zero, Nat.reduceBEq, Nat.lt_irrefl, List.length_append, Int.toNat_zero, Int.toNat_one, List.take_zero, List.drop_zero, Nat.zero_mul, sel, rest, keyIn, ↓reduceIte, ↓if_pos, ↓if_neg, reduceCtorEq, Bool.not_true, Bool.not_false, Bool.false_eq_true, Bool.true_eq_false, and_self, and_true, true_and, false_and, and_false, decide_true, decide_false, decide_eq_true, decide_eq_false, decide_eq_true_eq, decide_eq_false_iff_not, Bool.not_eq_true, Bool.not_eq_false, Bool.not_eq_eq_eq_not, Decidable.not_not, eA, scal1, List.all_cons, List.all_nil, Bool.and_self, allSz, cells, beq_self_eq_true, Bool.false_and, Bool.true_and])
          exact doneW rfl (ww _)
      | false =>
        rw [hr] at sr
        have e : splitB (.nd l r) = (.nd l (.lf false), .nd (.lf false) r) := by simp only [splitB, hl, hr, Bool.false_eq_true, if_false]
        have w1 := wk_nd (r := .lf false) (c := some 2) (isT_tv l.t) (isT_nil false)
        have w2 := wk_nd (l := .lf false) (c := some 2) (isT_nil false) (isT_tv r.t)
        obtain ⟨c1, c2⟩ := fin _ _ _ _ e w1 w2 (by simp only [B.nodes]; omega) (by simp only [B.nodes]; omega)
        rw [ok2 _ _ e, e]
        have ww := fun c => wk_tri (c := c) w1.wk w2.wk
        generalize rtb (B.nd (.lf false) r).t = q2 at c2 ⊢
        refine calls_ref04_Split (walk0 100 trivial (fun A eA => ?_))
        cases hq1 : rtb (B.nd l (.lf false)).t
        all_goals
          rw [hq1] at c1
          simp (disch := first | omega | (simp only [avs_len, List.length_cons, List.length_append, List.length_nil, List.length_take, List.length_drop, List.length_map]; omega)) only [c_ref04_Split, ↓advStep, ↓execK, ↓opK, ↓binK, ↓intK, ↓strK, evs, ev, getT, setT, put, List.replicate, List.cons_append, List.nil_append, List.length_cons, List.length_nil, ↓mapK, ↓frzK_sl, ↓frzK_agg, ↓frzK_tup, ↓frzK_ifc, ↓frzK_func, ↓frzK_int, ↓frzK_bool, ↓frzK_str, ↓frzK_nilp, ↓frzK_nils, ↓frzK_nilm, ↓frzK_nilf, ↓frzK_nili, ↓frzK_fz, ↓frzK_any, ↓frzK_ptr, ↓frzK_ro, ↓getB, setB, kill, killM, dropK, keysOf, capOf_nn, zeroC, bump, frzT, thaw, gets, putAll, ↓getsK, ↓getR, ↓retK, retv, find, cells, ↓nilpK, ↓nilsK, ↓nilfK, ↓niliK, ↓bndK, ↓cutK, ↓fillK, ↓exitK, List.append_nil, List.drop, List.take, Nat.reduceAdd, Nat.reduceSub, Nat.reduceMul, Nat.reduceLT, Nat.reduceLeDiff, Nat.zero_add, Nat.add_zero, Nat.mul_one, Int.reduceToNat, Nat.reduceEqDiff, Nat.succ_ne_self, Nat.le_refl, Nat.one_ne_zero, Nat.reduceBEq, Nat.lt_irrefl, List.length_append, Int.toNat_zero, Int.toNat_one, List.take_zero, List.drop_zero, Nat.zero_mul, sel, rest, keyIn, ↓reduceIte, ↓if_pos, ↓if_neg, reduceCtorEq, Bool.not_true, Bool.not_false, Bool.false_eq_true, Bool.true_eq_false, and_self, and_true, true_and, false_and, and_false, decide_true, decide_false, decide_eq_true, decide_eq_false, decide_eq_true_eq, decide_eq_false_iff_not, Bool.not_eq_true, Bool.not_eq_false, Bool.not_eq_eq_eq_not, Decidable.not_not, eA, scal1, List.all_cons, List.all_nil, Bool.and_self, tavs_len, h0, g0, g1, allSz, cells, beq_self_eq_true]
          repeat ((first | refine call0 100 trivial trivial (by first | exact sl | exact sr | exact c1 | exact c2) (by first | exact .inl rfl | exact .inr rfl) (fun A eA => ?_) | refine call1 100 trivial trivial (by first | exact sl | exact sr | exact c1 | exact c2) (fun A eA => ?_)); simp (disch := first | omega | (simp only [avs_len, List.length_cons, List.length_append, List.length_nil, List.length_take, List.length_drop, List.length_map]; omega)) only [c_ref04_Split, ↓advStep, ↓execK, ↓opK, ↓binK, ↓intK, ↓strK, evs, ev, getT, setT, put, List.replicate, List.cons_append, List.nil_append, List.length_cons, List.length_nil, ↓mapK, ↓frzK_sl, ↓frzK_agg, ↓frzK_tup, ↓frzK_ifc, ↓frzK_func, ↓frzK_int, ↓frzK_bool, ↓frzK_str, ↓frzK_nilp, ↓frzK_nils, ↓frzK_nilm, ↓frzK_nilf, ↓frzK_nili, ↓frzK_fz, ↓frzK_any, ↓frzK_ptr, ↓frzK_ro, ↓getB, setB, kill, killM, dropK, keysOf, capOf_nn, zeroC, bump, frzT, thaw, gets, putAll, ↓getsK, ↓getR, ↓retK, retv, find, cells, ↓nilpK, ↓nilsK, ↓nilfK, ↓niliK, ↓bndK, ↓cutK, ↓fillK, ↓exitK, List.append_nil, List.drop, List.take, Nat.reduceAdd, Nat.reduceSub, Nat.reduceMul, Nat.reduceLT, Nat.reduceLeDiff, Nat.zero_add, Nat.add_zero, Nat.mul_one, Int.reduceToNat, Nat.reduceEqDiff, Nat.succ_ne_self, Nat.le_refl, Nat.one_ne_zero, Nat.reduceBEq, Nat.lt_irrefl, List.length_append, Int.toNat_zero, Int.toNat_one, List.take_zero, List.drop_zero, Nat.zero_mul, sel, rest, keyIn, ↓reduceIte, ↓if_pos, ↓if_neg, reduceCtorEq, Bool.not_true, Bool.not_false, Bool.false_eq_true, Bool.true_eq_false, and_self, and_true, true_and, false_and, and_false, decide_true, decide_false, decide_eq_true, decide_eq_false, decide_eq_true_eq, decide_eq_false_iff_not, Bool.not_eq_true, Bool.not_eq_false, Bool.not_eq_eq_eq_not, Decidable.not_not, eA, scal1, List.all_cons, List.all_nil, Bool.and_self, allSz, cells, beq_self_eq_true, Bool.false_and, Bool.true_and])
          exact doneW rfl (ww _)
end Go.Proofs.Ytmokhopjnjecbab
