/- The walk through joining events, and the reference's shortest trees. -/
import Derived.Test.YtmokhopjnjecbabM5
import Derived.SizedLaws
import Derived.ChangeSlices
-- short
namespace Go.Proofs.Ytmokhopjnjecbab
open Go.Ev
set_option linter.unusedVariables false
set_option linter.unusedSimpArgs false
set_option maxRecDepth 100000
variable {R : List AV → Heap → Ctr → Prop} {k : List It} {H : Heap} {nx : Ctr} {φ : Nat}

theorem E.sub_top' (e : E) (m : Nat) (h : m ≤ e.n) : (e.sub m).top + m = e.top := by
  cases e with
  | lf n => simp only [E.n] at h; simp only [E.sub, E.top]; omega
  | nd n l r => simp only [E.n] at h; simp only [E.sub, E.top]; omega
theorem nodeE_top (n : Nat) (l r : E) : (nodeE n l r).top = n + max l.top r.top := by
  unfold nodeE
  split
  · rename_i h
    obtain ⟨h1, h2, h3⟩ := h
    cases l with
    | nd => simp [E.leaf] at h1
    | lf a =>
      cases r with
      | nd => simp [E.leaf] at h2
      | lf b => simp only [E.n] at h3; simp only [E.top, E.n]; omega
  · have h1 := E.sub_top' l (min l.n r.n) (Nat.min_le_left _ _)
    have h2 := E.sub_top' r (min l.n r.n) (Nat.min_le_right _ _)
    simp only [E.top]; omega
theorem joinE_top : ∀ (d : Nat) (a b : E), (joinE d a b).top ≤ max a.top b.top
  | 0, a, b => by have := a.top_n; have := b.top_n; simp only [joinE, E.top]; omega
  | d + 1, a, b => by
    simp only [joinE]
    split
    · have := a.top_n; have := b.top_n; simp only [E.top]; omega
    · rw [nodeE_top]
      have := joinE_top d (a.half false) (b.half false)
      have := joinE_top d (a.half true) (b.half true)
      have := a.half_top false
      have := a.half_top true
      have := b.half_top false
      have := b.half_top true
      omega
theorem xnode_calls (n : Nat) (l r : E) (hn : n + max l.top r.top < 2 ^ 60) : PCalls Try.prog F_event_node [.int .i64 (n : Nat), xtv l.t, xtv r.t] (xtv (nodeE n l r).t) := by
  have tl := l.top_n
  have tr := r.top_n
  have nl := l.t_n
  have nr := r.t_n
  have e0 : (if r.t.n < l.t.n then r.t.n else l.t.n) = ((min l.n r.n : Nat) : Int) := by rw [nl, nr]; split <;> omega
  have w1 : IntKind.i64.wrap ((n : Int) + ((min l.n r.n : Nat) : Int)) = ((n + min l.n r.n : Nat) : Int) := by rw [IntKind.wrap_i64]; omega
  have w2 : IntKind.i64.wrap (0 - ((min l.n r.n : Nat) : Int)) = -((min l.n r.n : Nat) : Int) := by rw [IntKind.wrap_i64]; omega
  have c1 := xlift_calls l (-((min l.n r.n : Nat) : Int)) (l.n - min l.n r.n) (by omega) (by omega) (by omega)
  have c2 := xlift_calls r (-((min l.n r.n : Nat) : Int)) (r.n - min l.n r.n) (by omega) (by omega) (by omega)
  rw [← xtv_sub] at c1 c2
  have ca := xleaf_b l
  have cb := xleaf_b r
  unfold nodeE
  refine calls_event_node (walk0 100 trivial (fun A eA => ?_))
  by_cases h1 : l.leaf = true
  · rw [h1] at ca
    by_cases h2 : r.leaf = true
    · rw [h2] at cb
      by_cases h3 : l.n = r.n
      · rw [if_pos ⟨h1, h2, h3⟩]
        have h4 : l.t.n = r.t.n := by omega
        have w3 : IntKind.i64.wrap ((n : Int) + l.t.n) = ((n + min l.n r.n : Nat) : Int) := by rw [IntKind.wrap_i64]; omega
        simp (disch := first | omega | (simp only [avs_len, List.length_cons, List.length_append, List.length_nil, List.length_take, List.length_drop, List.length_map]; omega) | (simp only [cells, scal1, allSz, List.length_cons, List.length_nil, List.length_append, List.length_map, List.all_cons, List.all_nil, avs_len, beq_self_eq_true, Bool.and_self, and_self, or_true, true_or, reduceCtorEq, *]; done) | fail) only [c_event_node, go_sem, Nat.reduceAdd, Nat.reduceSub, Nat.reduceMul, Nat.reduceLT, Nat.reduceLeDiff, Int.reduceToNat, Nat.reduceEqDiff, Nat.reduceBEq, ↓reduceIte, reduceCtorEq, eA, scal1, List.all_cons, List.all_nil, Bool.and_self]
        repeat ((first | refine call0 100 trivial trivial (by first | exact ca | exact cb) (by first | exact .inl rfl | exact .inr rfl) (fun A eA => ?_) | refine call1 100 trivial trivial (by first | exact ca | exact cb) (fun A eA => ?_)); simp (disch := first | omega | (simp only [avs_len, List.length_cons, List.length_append, List.length_nil, List.length_take, List.length_drop, List.length_map]; omega) | (simp only [cells, scal1, allSz, List.length_cons, List.length_nil, List.length_append, List.length_map, List.all_cons, List.all_nil, avs_len, beq_self_eq_true, Bool.and_self, and_self, or_true, true_or, reduceCtorEq, *]; done) | fail) only [c_event_node, go_sem, Nat.reduceAdd, Nat.reduceSub, Nat.reduceMul, Nat.reduceLT, Nat.reduceLeDiff, Int.reduceToNat, Nat.reduceEqDiff, Nat.reduceBEq, ↓reduceIte, reduceCtorEq, eA, scal1, List.all_cons, List.all_nil, Bool.and_self, w3])
        exact doneW rfl (xwk_leaf _)
      · rw [if_neg (fun h => h3 h.2.2)]
        have h4 : ¬ l.t.n = r.t.n := by omega
        simp (disch := first | omega | (simp only [avs_len, List.length_cons, List.length_append, List.length_nil, List.length_take, List.length_drop, List.length_map]; omega) | (simp only [cells, scal1, allSz, List.length_cons, List.length_nil, List.length_append, List.length_map, List.all_cons, List.all_nil, avs_len, beq_self_eq_true, Bool.and_self, and_self, or_true, true_or, reduceCtorEq, *]; done) | fail) only [c_event_node, go_sem, Nat.reduceAdd, Nat.reduceSub, Nat.reduceMul, Nat.reduceLT, Nat.reduceLeDiff, Int.reduceToNat, Nat.reduceEqDiff, Nat.reduceBEq, ↓reduceIte, reduceCtorEq, eA, scal1, List.all_cons, List.all_nil, Bool.and_self, e0]
        repeat ((first | refine call0 100 trivial trivial (by first | exact ca | exact cb | exact c1 | exact c2) (by first | exact .inl rfl | exact .inr rfl) (fun A eA => ?_) | refine call1 100 trivial trivial (by first | exact ca | exact cb | exact c1 | exact c2) (fun A eA => ?_)); simp (disch := first | omega | (simp only [avs_len, List.length_cons, List.length_append, List.length_nil, List.length_take, List.length_drop, List.length_map]; omega) | (simp only [cells, scal1, allSz, List.length_cons, List.length_nil, List.length_append, List.length_map, List.all_cons, List.all_nil, avs_len, beq_self_eq_true, Bool.and_self, and_self, or_true, true_or, reduceCtorEq, *]; done) | fail) only [c_event_node, go_sem, Nat.reduceAdd, Nat.reduceSub, Nat.reduceMul, Nat.reduceLT, Nat.reduceLeDiff, Int.reduceToNat, Nat.reduceEqDiff, Nat.reduceBEq, ↓reduceIte, reduceCtorEq, eA, scal1, List.all_cons, List.all_nil, Bool.and_self, w1, w2, allSz, cells, beq_self_eq_true])
        exact doneW rfl (xwk_two _ _ _)
    · rw [if_neg (fun h => h2 h.2.1)]
      rw [Bool.not_eq_true] at h2
      rw [h2] at cb
      simp (disch := first | omega | (simp only [avs_len, List.length_cons, List.length_append, List.length_nil, List.length_take, List.length_drop, List.length_map]; omega) | (simp only [cells, scal1, allSz, List.length_cons, List.length_nil, List.length_append, List.length_map, List.all_cons, List.all_nil, avs_len, beq_self_eq_true, Bool.and_self, and_self, or_true, true_or, reduceCtorEq, *]; done) | fail) only [c_event_node, go_sem, Nat.reduceAdd, Nat.reduceSub, Nat.reduceMul, Nat.reduceLT, Nat.reduceLeDiff, Int.reduceToNat, Nat.reduceEqDiff, Nat.reduceBEq, ↓reduceIte, reduceCtorEq, eA, scal1, List.all_cons, List.all_nil, Bool.and_self, e0]
      repeat ((first | refine call0 100 trivial trivial (by first | exact ca | exact cb | exact c1 | exact c2) (by first | exact .inl rfl | exact .inr rfl) (fun A eA => ?_) | refine call1 100 trivial trivial (by first | exact ca | exact cb | exact c1 | exact c2) (fun A eA => ?_)); simp (disch := first | omega | (simp only [avs_len, List.length_cons, List.length_append, List.length_nil, List.length_take, List.length_drop, List.length_map]; omega) | (simp only [cells, scal1, allSz, List.length_cons, List.length_nil, List.length_append, List.length_map, List.all_cons, List.all_nil, avs_len, beq_self_eq_true, Bool.and_self, and_self, or_true, true_or, reduceCtorEq, *]; done) | fail) only [c_event_node, go_sem, Nat.reduceAdd, Nat.reduceSub, Nat.reduceMul, Nat.reduceLT, Nat.reduceLeDiff, Int.reduceToNat, Nat.reduceEqDiff, Nat.reduceBEq, ↓reduceIte, reduceCtorEq, eA, scal1, List.all_cons, List.all_nil, Bool.and_self, w1, w2, allSz, cells, beq_self_eq_true])
      exact doneW rfl (xwk_two _ _ _)
  · rw [if_neg (fun h => h1 h.1)]
    rw [Bool.not_eq_true] at h1
    rw [h1] at ca
    simp (disch := first | omega | (simp only [avs_len, List.length_cons, List.length_append, List.length_nil, List.length_take, List.length_drop, List.length_map]; omega) | (simp only [cells, scal1, allSz, List.length_cons, List.length_nil, List.length_append, List.length_map, List.all_cons, List.all_nil, avs_len, beq_self_eq_true, Bool.and_self, and_self, or_true, true_or, reduceCtorEq, *]; done) | fail) only [c_event_node, go_sem, Nat.reduceAdd, Nat.reduceSub, Nat.reduceMul, Nat.reduceLT, Nat.reduceLeDiff, Int.reduceToNat, Nat.reduceEqDiff, Nat.reduceBEq, ↓reduceIte, reduceCtorEq, eA, scal1, List.all_cons, List.all_nil, Bool.and_self, e0]
    repeat ((first | refine call0 100 trivial trivial (by first | exact ca | exact cb | exact c1 | exact c2) (by first | exact .inl rfl | exact .inr rfl) (fun A eA => ?_) | refine call1 100 trivial trivial (by first | exact ca | exact cb | exact c1 | exact c2) (fun A eA => ?_)); simp (disch := first | omega | (simp only [avs_len, List.length_cons, List.length_append, List.length_nil, List.length_take, List.length_drop, List.length_map]; omega) | (simp only [cells, scal1, allSz, List.length_cons, List.length_nil, List.length_append, List.length_map, List.all_cons, List.all_nil, avs_len, beq_self_eq_true, Bool.and_self, and_self, or_true, true_or, reduceCtorEq, *]; done) | fail) only [c_event_node, go_sem, Nat.reduceAdd, Nat.reduceSub, Nat.reduceMul, Nat.reduceLT, Nat.reduceLeDiff, Int.reduceToNat, Nat.reduceEqDiff, Nat.reduceBEq, ↓reduceIte, reduceCtorEq, eA, scal1, List.all_cons, List.all_nil, Bool.and_self, w1, w2, allSz, cells, beq_self_eq_true])
    exact doneW rfl (xwk_two _ _ _)
theorem xjoin_calls : ∀ (d : Nat) (a b : E), a.dep ≤ d + 1 → b.dep ≤ d + 1 → a.top < 2 ^ 60 → b.top < 2 ^ 60 → PCalls Try.prog F_event_join [xtv a.t, xtv b.t] (xtv (joinE d a b).t) := by
  have leafs : ∀ (a b : E), a.leaf = true → b.leaf = true → PCalls Try.prog F_event_join [xtv a.t, xtv b.t] (xtv (E.lf (max a.n b.n)).t) := by
    intro a b ha hb
    have ca := xleaf_b a
    have cb := xleaf_b b
    rw [ha] at ca
    rw [hb] at cb
    have ea := a.t_n
    have eb := b.t_n
    have e : (if b.t.n > a.t.n then b.t.n else a.t.n) = ((max a.n b.n : Nat) : Int) := by split <;> omega
    refine calls_event_join (walk0 100 trivial (fun A eA => ?_))
    simp (disch := first | omega | (simp only [avs_len, List.length_cons, List.length_append, List.length_nil, List.length_take, List.length_drop, List.length_map]; omega) | (simp only [cells, scal1, allSz, List.length_cons, List.length_nil, List.length_append, List.length_map, List.all_cons, List.all_nil, avs_len, beq_self_eq_true, Bool.and_self, and_self, or_true, true_or, reduceCtorEq, *]; done) | fail) only [c_event_join, go_sem, Nat.reduceAdd, Nat.reduceSub, Nat.reduceMul, Nat.reduceLT, Nat.reduceLeDiff, Int.reduceToNat, Nat.reduceEqDiff, Nat.reduceBEq, ↓reduceIte, reduceCtorEq, eA, scal1, List.all_cons, List.all_nil, Bool.and_self]
    repeat ((first | refine call0 100 trivial trivial (by first | exact ca | exact cb) (by first | exact .inl rfl | exact .inr rfl) (fun A eA => ?_) | refine call1 100 trivial trivial (by first | exact ca | exact cb) (fun A eA => ?_)); simp (disch := first | omega | (simp only [avs_len, List.length_cons, List.length_append, List.length_nil, List.length_take, List.length_drop, List.length_map]; omega) | (simp only [cells, scal1, allSz, List.length_cons, List.length_nil, List.length_append, List.length_map, List.all_cons, List.all_nil, avs_len, beq_self_eq_true, Bool.and_self, and_self, or_true, true_or, reduceCtorEq, *]; done) | fail) only [c_event_join, go_sem, Nat.reduceAdd, Nat.reduceSub, Nat.reduceMul, Nat.reduceLT, Nat.reduceLeDiff, Int.reduceToNat, Nat.reduceEqDiff, Nat.reduceBEq, ↓reduceIte, reduceCtorEq, eA, scal1, List.all_cons, List.all_nil, Bool.and_self, e])
    exact doneW rfl (xwk_leaf _)
  intro d
  induction d with
  | zero => intro a b ha hb _ _; exact leafs a b (E.dep_one ha) (E.dep_one hb)
  | succ d ih =>
    intro a b ha hb ta tb
    simp only [joinE]
    by_cases hl : a.leaf = true ∧ b.leaf = true
    · rw [if_pos hl]; exact leafs a b hl.1 hl.2
    · rw [if_neg hl]
      have h1 := a.half_dep false
      have h2 := a.half_dep true
      have h3 := b.half_dep false
      have h4 := b.half_dep true
      have t1 := a.half_top false
      have t2 := a.half_top true
      have t3 := b.half_top false
      have t4 := b.half_top true
      have c1 := xhalf_calls a ta false
      have c2 := xhalf_calls a ta true
      have c3 := xhalf_calls b tb false
      have c4 := xhalf_calls b tb true
      have k1 := ih (a.half false) (b.half false) (by omega) (by omega) (by omega) (by omega)
      have k2 := ih (a.half true) (b.half true) (by omega) (by omega) (by omega) (by omega)
      have j1 := joinE_top d (a.half false) (b.half false)
      have j2 := joinE_top d (a.half true) (b.half true)
      have cn := xnode_calls 0 (joinE d (a.half false) (b.half false)) (joinE d (a.half true) (b.half true)) (by omega)
      have ca := xleaf_b a
      have cb := xleaf_b b
      simp only [Bool.false_eq_true, if_false, if_true] at c1 c2 c3 c4
      have fin : ∀ (x y : Bool), ¬ (x = true ∧ y = true) → PCalls Try.prog F_event_leaf [xtv a.t] (.bool x) → PCalls Try.prog F_event_leaf [xtv b.t] (.bool y) → PCalls Try.prog F_event_join [xtv a.t, xtv b.t] (xtv (nodeE 0 (joinE d (a.half false) (b.half false)) (joinE d (a.half true) (b.half true))).t) := by
        intro x y hxy ca cb
        refine calls_event_join (walk0 100 trivial (fun A eA => ?_))
        cases x <;> cases y
        all_goals first
          | (exfalso; exact hxy ⟨rfl, rfl⟩)
          | (simp (disch := first | omega | (simp only [avs_len, List.length_cons, List.length_append, List.length_nil, List.length_take, List.length_drop, List.length_map]; omega) | (simp only [cells, scal1, allSz, List.length_cons, List.length_nil, List.length_append, List.length_map, List.all_cons, List.all_nil, avs_len, beq_self_eq_true, Bool.and_self, and_self, or_true, true_or, reduceCtorEq, *]; done) | fail) only [c_event_join, go_sem, Nat.reduceAdd, Nat.reduceSub, Nat.reduceMul, Nat.reduceLT, Nat.reduceLeDiff, Int.reduceToNat, Nat.reduceEqDiff, Nat.reduceBEq, ↓reduceIte, reduceCtorEq, eA, scal1, List.all_cons, List.all_nil, Bool.and_self]
             repeat ((first | refine call0 100 trivial trivial (by first | exact ca | exact cb | exact c1 | exact c3 | exact k1 | exact c2 | exact c4 | exact k2 | exact cn) (by first | exact .inl rfl | exact .inr rfl) (fun A eA => ?_) | refine call1 100 trivial trivial (by first | exact ca | exact cb | exact c1 | exact c3 | exact k1 | exact c2 | exact c4 | exact k2 | exact cn) (fun A eA => ?_)); simp (disch := first | omega | (simp only [avs_len, List.length_cons, List.length_append, List.length_nil, List.length_take, List.length_drop, List.length_map]; omega) | (simp only [cells, scal1, allSz, List.length_cons, List.length_nil, List.length_append, List.length_map, List.all_cons, List.all_nil, avs_len, beq_self_eq_true, Bool.and_self, and_self, or_true, true_or, reduceCtorEq, *]; done) | fail) only [c_event_join, go_sem, Nat.reduceAdd, Nat.reduceSub, Nat.reduceMul, Nat.reduceLT, Nat.reduceLeDiff, Int.reduceToNat, Nat.reduceEqDiff, Nat.reduceBEq, ↓reduceIte, reduceCtorEq, eA, scal1, List.all_cons, List.all_nil, Bool.and_self])
             exact doneG rfl)
      exact fin _ _ hl ca cb
/-- What Join answers. -/
noncomputable def xjoinT (a b : ET) : ET := @dite _ (XRt a ∧ XRt b) (Classical.propDecidable _) (fun h => (joinE 7 h.1.choose h.2.choose).t) (fun _ => .mk 0 [])
theorem xjoinT_b {a b : E} (ha : XRt a.t) (hb : XRt b.t) : xjoinT a.t b.t = (joinE 7 a b).t := by
  have h : XRt a.t ∧ XRt b.t := ⟨ha, hb⟩
  have e : xjoinT a.t b.t = (joinE 7 h.1.choose h.2.choose).t := by simp only [xjoinT]; rw [dif_pos h]
  have e1 := E.inj h.1.choose_spec.1
  have e2 := E.inj h.2.choose_spec.1
  rw [e, ← e1, ← e2]
theorem xwk_pair (n : Nat) : Wk1 (.tup [.agg [.int .i64 0, .nils], .int .i64 (n : Nat)]) (.tup [xtv (.mk 0 []), .int .i64 (n : Nat)]) := by
  refine Wk1.tup rfl (fun j x y hx hy => ?_)
  rcases j with _ | _ | j
  · simp at hx hy; subst hx hy; exact xwk_leaf 0
  · simp at hx hy; subst hx hy; exact Wk1.refl _
  · simp at hx
theorem xtold_yes {t : ET} (h : XRt t) : PCalls Try.prog F_event_told [xtv t] (.tup [xtv t, .int .i64 0]) := by
  have c1 := xright_calls t
  rw [xrtb_true.2 h] at c1
  have c2 := xClone_calls t (by obtain ⟨x, rfl, _, h2, _⟩ := h; rw [E.t_size]; omega)
  have e : xcloneT t = t := by
    obtain ⟨x, rfl, h1, _⟩ := h
    simp [xcloneT, xflatb_true.2 ((xflat_dep 8 x).2 h1)]
  rw [e] at c2
  refine calls_event_told (walk0 100 trivial (fun A eA => ?_))
  simp (disch := first | omega | (simp only [avs_len, List.length_cons, List.length_append, List.length_nil, List.length_take, List.length_drop, List.length_map]; omega) | (simp only [cells, scal1, allSz, List.length_cons, List.length_nil, List.length_append, List.length_map, List.all_cons, List.all_nil, avs_len, beq_self_eq_true, Bool.and_self, and_self, or_true, true_or, reduceCtorEq, *]; done) | fail) only [c_event_told, go_sem, Nat.reduceAdd, Nat.reduceSub, Nat.reduceMul, Nat.reduceLT, Nat.reduceLeDiff, Int.reduceToNat, Nat.reduceEqDiff, Nat.reduceBEq, ↓reduceIte, reduceCtorEq, eA, scal1, List.all_cons, List.all_nil, Bool.and_self]
  repeat ((first | refine call0 100 trivial trivial (by first | exact c1 | exact c2) (by first | exact .inl rfl | exact .inr rfl) (fun A eA => ?_) | refine call1 100 trivial trivial (by first | exact c1 | exact c2) (fun A eA => ?_)); simp (disch := first | omega | (simp only [avs_len, List.length_cons, List.length_append, List.length_nil, List.length_take, List.length_drop, List.length_map]; omega) | (simp only [cells, scal1, allSz, List.length_cons, List.length_nil, List.length_append, List.length_map, List.all_cons, List.all_nil, avs_len, beq_self_eq_true, Bool.and_self, and_self, or_true, true_or, reduceCtorEq, *]; done) | fail) only [c_event_told, go_sem, Nat.reduceAdd, Nat.reduceSub, Nat.reduceMul, Nat.reduceLT, Nat.reduceLeDiff, Int.reduceToNat, Nat.reduceEqDiff, Nat.reduceBEq, ↓reduceIte, reduceCtorEq, eA, scal1, List.all_cons, List.all_nil, Bool.and_self])
  exact doneG rfl
theorem xtold_no {t : ET} (h : ¬ XRt t) : PCalls Try.prog F_event_told [xtv t] (.tup [xtv (.mk 0 []), .int .i64 9]) := by
  have c1 := xright_calls t
  rw [xrtb_no h] at c1
  refine calls_event_told (walk0 100 trivial (fun A eA => ?_))
  simp (disch := first | omega | (simp only [avs_len, List.length_cons, List.length_append, List.length_nil, List.length_take, List.length_drop, List.length_map]; omega) | (simp only [cells, scal1, allSz, List.length_cons, List.length_nil, List.length_append, List.length_map, List.all_cons, List.all_nil, avs_len, beq_self_eq_true, Bool.and_self, and_self, or_true, true_or, reduceCtorEq, *]; done) | fail) only [c_event_told, go_sem, Nat.reduceAdd, Nat.reduceSub, Nat.reduceMul, Nat.reduceLT, Nat.reduceLeDiff, Int.reduceToNat, Nat.reduceEqDiff, Nat.reduceBEq, ↓reduceIte, reduceCtorEq, eA, scal1, List.all_cons, List.all_nil, Bool.and_self]
  repeat ((first | refine call0 100 trivial trivial (by first | exact c1) (by first | exact .inl rfl | exact .inr rfl) (fun A eA => ?_) | refine call1 100 trivial trivial (by first | exact c1) (fun A eA => ?_)); simp (disch := first | omega | (simp only [avs_len, List.length_cons, List.length_append, List.length_nil, List.length_take, List.length_drop, List.length_map]; omega) | (simp only [cells, scal1, allSz, List.length_cons, List.length_nil, List.length_append, List.length_map, List.all_cons, List.all_nil, avs_len, beq_self_eq_true, Bool.and_self, and_self, or_true, true_or, reduceCtorEq, *]; done) | fail) only [c_event_told, go_sem, Nat.reduceAdd, Nat.reduceSub, Nat.reduceMul, Nat.reduceLT, Nat.reduceLeDiff, Int.reduceToNat, Nat.reduceEqDiff, Nat.reduceBEq, ↓reduceIte, reduceCtorEq, eA, scal1, List.all_cons, List.all_nil, Bool.and_self])
  exact doneW rfl (xwk_pair 9)
theorem xJoin_odd (a b : ET) (h : ¬ (XRt a ∧ XRt b)) : PCalls Try.prog F_event_Join [xtv a, xtv b] (.tup [xtv (.mk 0 []), .int .i64 1]) := by
  have ca := xright_calls a
  have cb := xright_calls b
  refine calls_event_Join (walk0 100 trivial (fun A eA => ?_))
  by_cases ha : XRt a
  · rw [xrtb_true.2 ha] at ca
    rw [xrtb_no (fun hb => h ⟨ha, hb⟩)] at cb
    simp (disch := first | omega | (simp only [avs_len, List.length_cons, List.length_append, List.length_nil, List.length_take, List.length_drop, List.length_map]; omega) | (simp only [cells, scal1, allSz, List.length_cons, List.length_nil, List.length_append, List.length_map, List.all_cons, List.all_nil, avs_len, beq_self_eq_true, Bool.and_self, and_self, or_true, true_or, reduceCtorEq, *]; done) | fail) only [c_event_Join, go_sem, Nat.reduceAdd, Nat.reduceSub, Nat.reduceMul, Nat.reduceLT, Nat.reduceLeDiff, Int.reduceToNat, Nat.reduceEqDiff, Nat.reduceBEq, ↓reduceIte, reduceCtorEq, eA, scal1, List.all_cons, List.all_nil, Bool.and_self]
    repeat ((first | refine call0 100 trivial trivial (by first | exact ca | exact cb) (by first | exact .inl rfl | exact .inr rfl) (fun A eA => ?_) | refine call1 100 trivial trivial (by first | exact ca | exact cb) (fun A eA => ?_)); simp (disch := first | omega | (simp only [avs_len, List.length_cons, List.length_append, List.length_nil, List.length_take, List.length_drop, List.length_map]; omega) | (simp only [cells, scal1, allSz, List.length_cons, List.length_nil, List.length_append, List.length_map, List.all_cons, List.all_nil, avs_len, beq_self_eq_true, Bool.and_self, and_self, or_true, true_or, reduceCtorEq, *]; done) | fail) only [c_event_Join, go_sem, Nat.reduceAdd, Nat.reduceSub, Nat.reduceMul, Nat.reduceLT, Nat.reduceLeDiff, Int.reduceToNat, Nat.reduceEqDiff, Nat.reduceBEq, ↓reduceIte, reduceCtorEq, eA, scal1, List.all_cons, List.all_nil, Bool.and_self])
    exact doneW rfl (xwk_pair 1)
  · rw [xrtb_no ha] at ca
    simp (disch := first | omega | (simp only [avs_len, List.length_cons, List.length_append, List.length_nil, List.length_take, List.length_drop, List.length_map]; omega) | (simp only [cells, scal1, allSz, List.length_cons, List.length_nil, List.length_append, List.length_map, List.all_cons, List.all_nil, avs_len, beq_self_eq_true, Bool.and_self, and_self, or_true, true_or, reduceCtorEq, *]; done) | fail) only [c_event_Join, go_sem, Nat.reduceAdd, Nat.reduceSub, Nat.reduceMul, Nat.reduceLT, Nat.reduceLeDiff, Int.reduceToNat, Nat.reduceEqDiff, Nat.reduceBEq, ↓reduceIte, reduceCtorEq, eA, scal1, List.all_cons, List.all_nil, Bool.and_self]
    repeat ((first | refine call0 100 trivial trivial (by first | exact ca | exact cb) (by first | exact .inl rfl | exact .inr rfl) (fun A eA => ?_) | refine call1 100 trivial trivial (by first | exact ca | exact cb) (fun A eA => ?_)); simp (disch := first | omega | (simp only [avs_len, List.length_cons, List.length_append, List.length_nil, List.length_take, List.length_drop, List.length_map]; omega) | (simp only [cells, scal1, allSz, List.length_cons, List.length_nil, List.length_append, List.length_map, List.all_cons, List.all_nil, avs_len, beq_self_eq_true, Bool.and_self, and_self, or_true, true_or, reduceCtorEq, *]; done) | fail) only [c_event_Join, go_sem, Nat.reduceAdd, Nat.reduceSub, Nat.reduceMul, Nat.reduceLT, Nat.reduceLeDiff, Int.reduceToNat, Nat.reduceEqDiff, Nat.reduceBEq, ↓reduceIte, reduceCtorEq, eA, scal1, List.all_cons, List.all_nil, Bool.and_self])
    exact doneW rfl (xwk_pair 1)
theorem xJoin_calls (a b : E) (ha : XRt a.t) (hb : XRt b.t) {r : ET} {e : Nat} (hj : (XRt (joinE 7 a b).t ∧ r = (joinE 7 a b).t ∧ e = 0) ∨ (¬ XRt (joinE 7 a b).t ∧ r = .mk 0 [] ∧ e = 9)) : PCalls Try.prog F_event_Join [xtv a.t, xtv b.t] (.tup [xtv r, .int .i64 (e : Nat)]) := by
  obtain ⟨x, hx, x1, x2, x3, x4⟩ := id ha
  obtain rfl := E.inj hx
  obtain ⟨y, hy, y1, y2, y3, y4⟩ := id hb
  obtain rfl := E.inj hy
  have ca := xright_calls a.t
  have cb := xright_calls b.t
  rw [xrtb_true.2 ha] at ca
  rw [xrtb_true.2 hb] at cb
  have cj := xjoin_calls 7 a b (by omega) (by omega) (xtop_rt x1 x4) (xtop_rt y1 y4)
  refine calls_event_Join (walk0 100 trivial (fun A eA => ?_))
  rcases hj with ⟨h1, rfl, rfl⟩ | ⟨h1, rfl, rfl⟩
  · have ct := xtold_yes h1
    simp (disch := first | omega | (simp only [avs_len, List.length_cons, List.length_append, List.length_nil, List.length_take, List.length_drop, List.length_map]; omega) | (simp only [cells, scal1, allSz, List.length_cons, List.length_nil, List.length_append, List.length_map, List.all_cons, List.all_nil, avs_len, beq_self_eq_true, Bool.and_self, and_self, or_true, true_or, reduceCtorEq, *]; done) | fail) only [c_event_Join, go_sem, Nat.reduceAdd, Nat.reduceSub, Nat.reduceMul, Nat.reduceLT, Nat.reduceLeDiff, Int.reduceToNat, Nat.reduceEqDiff, Nat.reduceBEq, ↓reduceIte, reduceCtorEq, eA, scal1, List.all_cons, List.all_nil, Bool.and_self]
    repeat ((first | refine call0 100 trivial trivial (by first | exact ca | exact cb | exact cj | exact ct) (by first | exact .inl rfl | exact .inr rfl) (fun A eA => ?_) | refine call1 100 trivial trivial (by first | exact ca | exact cb | exact cj | exact ct) (fun A eA => ?_)); simp (disch := first | omega | (simp only [avs_len, List.length_cons, List.length_append, List.length_nil, List.length_take, List.length_drop, List.length_map]; omega) | (simp only [cells, scal1, allSz, List.length_cons, List.length_nil, List.length_append, List.length_map, List.all_cons, List.all_nil, avs_len, beq_self_eq_true, Bool.and_self, and_self, or_true, true_or, reduceCtorEq, *]; done) | fail) only [c_event_Join, go_sem, Nat.reduceAdd, Nat.reduceSub, Nat.reduceMul, Nat.reduceLT, Nat.reduceLeDiff, Int.reduceToNat, Nat.reduceEqDiff, Nat.reduceBEq, ↓reduceIte, reduceCtorEq, eA, scal1, List.all_cons, List.all_nil, Bool.and_self])
    exact doneG rfl
  · have ct := xtold_no h1
    simp (disch := first | omega | (simp only [avs_len, List.length_cons, List.length_append, List.length_nil, List.length_take, List.length_drop, List.length_map]; omega) | (simp only [cells, scal1, allSz, List.length_cons, List.length_nil, List.length_append, List.length_map, List.all_cons, List.all_nil, avs_len, beq_self_eq_true, Bool.and_self, and_self, or_true, true_or, reduceCtorEq, *]; done) | fail) only [c_event_Join, go_sem, Nat.reduceAdd, Nat.reduceSub, Nat.reduceMul, Nat.reduceLT, Nat.reduceLeDiff, Int.reduceToNat, Nat.reduceEqDiff, Nat.reduceBEq, ↓reduceIte, reduceCtorEq, eA, scal1, List.all_cons, List.all_nil, Bool.and_self]
    repeat ((first | refine call0 100 trivial trivial (by first | exact ca | exact cb | exact cj | exact ct) (by first | exact .inl rfl | exact .inr rfl) (fun A eA => ?_) | refine call1 100 trivial trivial (by first | exact ca | exact cb | exact cj | exact ct) (fun A eA => ?_)); simp (disch := first | omega | (simp only [avs_len, List.length_cons, List.length_append, List.length_nil, List.length_take, List.length_drop, List.length_map]; omega) | (simp only [cells, scal1, allSz, List.length_cons, List.length_nil, List.length_append, List.length_map, List.all_cons, List.all_nil, avs_len, beq_self_eq_true, Bool.and_self, and_self, or_true, true_or, reduceCtorEq, *]; done) | fail) only [c_event_Join, go_sem, Nat.reduceAdd, Nat.reduceSub, Nat.reduceMul, Nat.reduceLT, Nat.reduceLeDiff, Int.reduceToNat, Nat.reduceEqDiff, Nat.reduceBEq, ↓reduceIte, reduceCtorEq, eA, scal1, List.all_cons, List.all_nil, Bool.and_self])
    exact doneG rfl
theorem refLeast_calls (row : List Nat) (hne : row ≠ []) (hs : row.length < 2 ^ 60) : PCalls Try.prog F_ref04_least [.fz 1 (ivs row) none] (.int .i64 (leastR row : Nat)) := by
  have g0 : (ivs row)[0]? = some (.int .i64 ((row.headD 0 : Nat) : Int)) := by cases row with | nil => exact absurd rfl hne | cons x l => rfl
  have key : ∀ (post pre : List Nat), row = pre ++ post → ∀ nx : Ctr, RunsX Try.prog 0 (Gives [.t 2] (.int .i64 (leastR row : Nat))) (i_ref04_least_0 ++ [.c c_ref04_least_k0]) (s_ref04_least_0 (.fz 1 (ivs row) none) (.int .i64 ((pre.foldl min (row.headD 0) : Nat) : Int)) (.int .i64 (row.length : Nat)) (.int .i64 (pre.length : Nat))) [] nx := by
    intro post
    induction post with
    | nil =>
      intro pre h1 nx
      rw [List.append_nil] at h1
      subst h1
      refine round (its := [.blk 0 wb_ref04_least_0]) (k0 := [.c c_ref04_least_k0]) 100 trivial trivial (fun A eA => ?_)
      simp (disch := first | omega | (simp only [avs_len, List.length_cons, List.length_append, List.length_nil, List.length_take, List.length_drop, List.length_map]; omega) | (simp only [cells, scal1, allSz, List.length_cons, List.length_nil, List.length_append, List.length_map, List.all_cons, List.all_nil, avs_len, beq_self_eq_true, Bool.and_self, and_self, or_true, true_or, reduceCtorEq, *]; done) | fail) only [c_ref04_least, wl_ref04_least_0, s_ref04_least_0, c_ref04_least_l0, wb_ref04_least_0, c_ref04_least_k0, go_sem, Nat.reduceAdd, Nat.reduceSub, Nat.reduceMul, Nat.reduceLT, Nat.reduceLeDiff, Int.reduceToNat, Nat.reduceEqDiff, Nat.reduceBEq, ↓reduceIte, reduceCtorEq, eA]
      refine walk0 (its := [.c c_ref04_least_k0]) 100 trivial (fun A eA => ?_)
      simp (disch := first | omega | (simp only [avs_len, List.length_cons, List.length_append, List.length_nil, List.length_take, List.length_drop, List.length_map]; omega) | (simp only [cells, scal1, allSz, List.length_cons, List.length_nil, List.length_append, List.length_map, List.all_cons, List.all_nil, avs_len, beq_self_eq_true, Bool.and_self, and_self, or_true, true_or, reduceCtorEq, *]; done) | fail) only [c_ref04_least, wl_ref04_least_0, s_ref04_least_0, c_ref04_least_l0, wb_ref04_least_0, c_ref04_least_k0, go_sem, Nat.reduceAdd, Nat.reduceSub, Nat.reduceMul, Nat.reduceLT, Nat.reduceLeDiff, Int.reduceToNat, Nat.reduceEqDiff, Nat.reduceBEq, ↓reduceIte, reduceCtorEq, eA]
      exact doneG rfl
    | cons x post ih =>
      intro pre h1 nx
      have hlt : pre.length < row.length := by rw [h1]; simp
      have g1 : (ivs row)[pre.length]? = some (.int .i64 (x : Nat)) := by rw [List.getElem?_map, h1]; simp
      have w1 : IntKind.i64.wrap ((pre.length : Int) + 1) = ((pre.length + 1 : Nat) : Int) := by rw [IntKind.wrap_i64]; omega
      have hih := ih (pre ++ [x]) (by rw [h1]; simp) nx
      rw [show (pre ++ [x]).length = pre.length + 1 by simp, List.foldl_append] at hih
      generalize pre.foldl min (row.headD 0) = acc at hih ⊢
      have e : (if (x : Int) < (acc : Int) then (x : Int) else (acc : Int)) = ((min acc x : Nat) : Int) := by split <;> omega
      refine round (its := [.blk 0 wb_ref04_least_0]) (k0 := [.c c_ref04_least_k0]) 100 trivial trivial (fun A eA => ?_)
      simp (disch := first | omega | (simp only [avs_len, List.length_cons, List.length_append, List.length_nil, List.length_take, List.length_drop, List.length_map]; omega) | (simp only [cells, scal1, allSz, List.length_cons, List.length_nil, List.length_append, List.length_map, List.all_cons, List.all_nil, avs_len, beq_self_eq_true, Bool.and_self, and_self, or_true, true_or, reduceCtorEq, *]; done) | fail) only [c_ref04_least, wl_ref04_least_0, s_ref04_least_0, c_ref04_least_l0, wb_ref04_least_0, c_ref04_least_k0, go_sem, Nat.reduceAdd, Nat.reduceSub, Nat.reduceMul, Nat.reduceLT, Nat.reduceLeDiff, Int.reduceToNat, Nat.reduceEqDiff, Nat.reduceBEq, ↓reduceIte, reduceCtorEq, eA, Int.toNat_natCast, g1, w1, e]
      exact hih
  refine calls_ref04_least (walk0 100 trivial (fun A eA => ?_))
  simp (disch := first | omega | (simp only [avs_len, List.length_cons, List.length_append, List.length_nil, List.length_take, List.length_drop, List.length_map]; omega) | (simp only [cells, scal1, allSz, List.length_cons, List.length_nil, List.length_append, List.length_map, List.all_cons, List.all_nil, avs_len, beq_self_eq_true, Bool.and_self, and_self, or_true, true_or, reduceCtorEq, *]; done) | fail) only [c_ref04_least, wl_ref04_least_0, s_ref04_least_0, c_ref04_least_l0, wb_ref04_least_0, c_ref04_least_k0, go_sem, Nat.reduceAdd, Nat.reduceSub, Nat.reduceMul, Nat.reduceLT, Nat.reduceLeDiff, Int.reduceToNat, Nat.reduceEqDiff, Nat.reduceBEq, ↓reduceIte, reduceCtorEq, eA, ivs_len, g0]
  exact key row [] rfl zeroC
theorem refMost_calls (row : List Nat) (hne : row ≠ []) (hs : row.length < 2 ^ 60) : PCalls Try.prog F_ref04_most [.fz 1 (ivs row) none] (.int .i64 (mostR row : Nat)) := by
  have g0 : (ivs row)[0]? = some (.int .i64 ((row.headD 0 : Nat) : Int)) := by cases row with | nil => exact absurd rfl hne | cons x l => rfl
  have key : ∀ (post pre : List Nat), row = pre ++ post → ∀ nx : Ctr, RunsX Try.prog 0 (Gives [.t 2] (.int .i64 (mostR row : Nat))) (i_ref04_most_0 ++ [.c c_ref04_most_k0]) (s_ref04_most_0 (.fz 1 (ivs row) none) (.int .i64 ((pre.foldl max (row.headD 0) : Nat) : Int)) (.int .i64 (row.length : Nat)) (.int .i64 (pre.length : Nat))) [] nx := by
    intro post
    induction post with
    | nil =>
      intro pre h1 nx
      rw [List.append_nil] at h1
      subst h1
      refine round (its := [.blk 0 wb_ref04_most_0]) (k0 := [.c c_ref04_most_k0]) 100 trivial trivial (fun A eA => ?_)
      simp (disch := first | omega | (simp only [avs_len, List.length_cons, List.length_append, List.length_nil, List.length_take, List.length_drop, List.length_map]; omega) | (simp only [cells, scal1, allSz, List.length_cons, List.length_nil, List.length_append, List.length_map, List.all_cons, List.all_nil, avs_len, beq_self_eq_true, Bool.and_self, and_self, or_true, true_or, reduceCtorEq, *]; done) | fail) only [c_ref04_most, wl_ref04_most_0, s_ref04_most_0, c_ref04_most_l0, wb_ref04_most_0, c_ref04_most_k0, go_sem, Nat.reduceAdd, Nat.reduceSub, Nat.reduceMul, Nat.reduceLT, Nat.reduceLeDiff, Int.reduceToNat, Nat.reduceEqDiff, Nat.reduceBEq, ↓reduceIte, reduceCtorEq, eA]
      refine walk0 (its := [.c c_ref04_most_k0]) 100 trivial (fun A eA => ?_)
      simp (disch := first | omega | (simp only [avs_len, List.length_cons, List.length_append, List.length_nil, List.length_take, List.length_drop, List.length_map]; omega) | (simp only [cells, scal1, allSz, List.length_cons, List.length_nil, List.length_append, List.length_map, List.all_cons, List.all_nil, avs_len, beq_self_eq_true, Bool.and_self, and_self, or_true, true_or, reduceCtorEq, *]; done) | fail) only [c_ref04_most, wl_ref04_most_0, s_ref04_most_0, c_ref04_most_l0, wb_ref04_most_0, c_ref04_most_k0, go_sem, Nat.reduceAdd, Nat.reduceSub, Nat.reduceMul, Nat.reduceLT, Nat.reduceLeDiff, Int.reduceToNat, Nat.reduceEqDiff, Nat.reduceBEq, ↓reduceIte, reduceCtorEq, eA]
      exact doneG rfl
    | cons x post ih =>
      intro pre h1 nx
      have hlt : pre.length < row.length := by rw [h1]; simp
      have g1 : (ivs row)[pre.length]? = some (.int .i64 (x : Nat)) := by rw [List.getElem?_map, h1]; simp
      have w1 : IntKind.i64.wrap ((pre.length : Int) + 1) = ((pre.length + 1 : Nat) : Int) := by rw [IntKind.wrap_i64]; omega
      have hih := ih (pre ++ [x]) (by rw [h1]; simp) nx
      rw [show (pre ++ [x]).length = pre.length + 1 by simp, List.foldl_append] at hih
      generalize pre.foldl max (row.headD 0) = acc at hih ⊢
      have e : (if (x : Int) > (acc : Int) then (x : Int) else (acc : Int)) = ((max acc x : Nat) : Int) := by split <;> omega
      refine round (its := [.blk 0 wb_ref04_most_0]) (k0 := [.c c_ref04_most_k0]) 100 trivial trivial (fun A eA => ?_)
      simp (disch := first | omega | (simp only [avs_len, List.length_cons, List.length_append, List.length_nil, List.length_take, List.length_drop, List.length_map]; omega) | (simp only [cells, scal1, allSz, List.length_cons, List.length_nil, List.length_append, List.length_map, List.all_cons, List.all_nil, avs_len, beq_self_eq_true, Bool.and_self, and_self, or_true, true_or, reduceCtorEq, *]; done) | fail) only [c_ref04_most, wl_ref04_most_0, s_ref04_most_0, c_ref04_most_l0, wb_ref04_most_0, c_ref04_most_k0, go_sem, Nat.reduceAdd, Nat.reduceSub, Nat.reduceMul, Nat.reduceLT, Nat.reduceLeDiff, Int.reduceToNat, Nat.reduceEqDiff, Nat.reduceBEq, ↓reduceIte, reduceCtorEq, eA, Int.toNat_natCast, g1, w1, e]
      exact hih
  refine calls_ref04_most (walk0 100 trivial (fun A eA => ?_))
  simp (disch := first | omega | (simp only [avs_len, List.length_cons, List.length_append, List.length_nil, List.length_take, List.length_drop, List.length_map]; omega) | (simp only [cells, scal1, allSz, List.length_cons, List.length_nil, List.length_append, List.length_map, List.all_cons, List.all_nil, avs_len, beq_self_eq_true, Bool.and_self, and_self, or_true, true_or, reduceCtorEq, *]; done) | fail) only [c_ref04_most, wl_ref04_most_0, s_ref04_most_0, c_ref04_most_l0, wb_ref04_most_0, c_ref04_most_k0, go_sem, Nat.reduceAdd, Nat.reduceSub, Nat.reduceMul, Nat.reduceLT, Nat.reduceLeDiff, Int.reduceToNat, Nat.reduceEqDiff, Nat.reduceBEq, ↓reduceIte, reduceCtorEq, eA, ivs_len, g0]
  exact key row [] rfl zeroC
end Go.Proofs.Ytmokhopjnjecbab
/- The walk through the reference's Max and its shortest event trees. -/
-- short
namespace Go.Proofs.Ytmokhopjnjecbab
open Go.Ev
set_option linter.unusedVariables false
set_option linter.unusedSimpArgs false
set_option maxRecDepth 100000
variable {R : List AV → Heap → Ctr → Prop} {k : List It} {H : Heap} {nx : Ctr} {φ : Nat}

theorem refMax_calls (p q : List Nat) (hl : p.length = q.length) (hs : p.length < 2 ^ 30) : PCalls Try.prog F_ref04_Max [.fz 1 (ivs p) none, .fz 1 (ivs q) none] (.fz 1 (ivs (List.zipWith max p q)) none) := by
  have hz : (List.zipWith max p q).length = p.length := by simp [hl]
  have hL : (ivs (List.zipWith max p q)).length = p.length := by rw [ivs_len, hz]
  have key : ∀ (n i : Nat), i + n = p.length → ∀ cs0 : List AV, cs0 = partR (ivs (List.zipWith max p q)) (.int .i64 0) i → ∀ nx : Ctr,
      RunsX Try.prog 0 (Gives [.t 4] (.fz 1 (ivs (List.zipWith max p q)) none)) (i_ref04_Max_0 ++ [.c c_ref04_Max_k0]) (s_ref04_Max_0 (.fz 1 (ivs p) none) (.fz 1 (ivs q) none) (.sl 0 9 0 1 0 p.length) (.int .i64 (p.length : Nat)) (.int .i64 (i : Nat))) [(0, 9, 0, some cs0)] nx := by
    intro n
    induction n with
    | zero =>
      intro i hi cs0 hcs0 nx
      obtain rfl : i = p.length := by omega
      have e0 : cs0 = ivs (List.zipWith max p q) := by rw [hcs0]; have := partR_all (ivs (List.zipWith max p q)) (.int .i64 0); rwa [hL] at this
      subst e0
      refine round (its := [.blk 0 wb_ref04_Max_0]) (k0 := [.c c_ref04_Max_k0]) 100 trivial trivial (fun A eA => ?_)
      simp (disch := first | omega | (simp only [avs_len, List.length_cons, List.length_append, List.length_nil, List.length_take, List.length_drop, List.length_map]; omega) | (simp only [cells, scal1, allSz, List.length_cons, List.length_nil, List.length_append, List.length_map, List.all_cons, List.all_nil, avs_len, beq_self_eq_true, Bool.and_self, and_self, or_true, true_or, reduceCtorEq, *]; done) | fail) only [c_ref04_Max, wl_ref04_Max_0, s_ref04_Max_0, c_ref04_Max_l0, wb_ref04_Max_0, c_ref04_Max_k0, go_sem, Nat.reduceAdd, Nat.reduceSub, Nat.reduceMul, Nat.reduceLT, Nat.reduceLeDiff, Int.reduceToNat, Nat.reduceEqDiff, Nat.reduceBEq, ↓reduceIte, reduceCtorEq, eA]
      refine walk0 (its := [.c c_ref04_Max_k0]) 100 trivial (fun A eA => ?_)
      simp (disch := first | omega | (simp only [avs_len, List.length_cons, List.length_append, List.length_nil, List.length_take, List.length_drop, List.length_map]; omega) | (simp only [cells, scal1, allSz, List.length_cons, List.length_nil, List.length_append, List.length_map, List.all_cons, List.all_nil, avs_len, beq_self_eq_true, Bool.and_self, and_self, or_true, true_or, reduceCtorEq, *]; done) | fail) only [c_ref04_Max, wl_ref04_Max_0, s_ref04_Max_0, c_ref04_Max_l0, wb_ref04_Max_0, c_ref04_Max_k0, go_sem, Nat.reduceAdd, Nat.reduceSub, Nat.reduceMul, Nat.reduceLT, Nat.reduceLeDiff, Int.reduceToNat, Nat.reduceEqDiff, Nat.reduceBEq, ↓reduceIte, reduceCtorEq, eA]
      refine doneG ?_
      have ht : List.take p.length (ivs (List.zipWith max p q)) = ivs (List.zipWith max p q) := List.take_of_length_le (by omega)
      simp (disch := first | omega | (simp only [avs_len, List.length_cons, List.length_append, List.length_nil, List.length_take, List.length_drop, List.length_map]; omega) | (simp only [cells, scal1, allSz, List.length_cons, List.length_nil, List.length_append, List.length_map, List.all_cons, List.all_nil, avs_len, beq_self_eq_true, Bool.and_self, and_self, or_true, true_or, reduceCtorEq, *]; done) | fail) only [go_sem, Nat.reduceAdd, Nat.reduceSub, Nat.reduceMul, Nat.reduceLT, Nat.reduceLeDiff, Int.reduceToNat, Nat.reduceEqDiff, Nat.reduceBEq, ↓reduceIte, reduceCtorEq, ht, hL, ↓frz_ivs, chunk]
    | succ n ih =>
      intro i hi cs0 hcs0 nx
      obtain ⟨x, hx⟩ : ∃ x, p[i]? = some x := ⟨_, List.getElem?_eq_getElem (by omega)⟩
      obtain ⟨y, hy⟩ : ∃ y, q[i]? = some y := ⟨_, List.getElem?_eq_getElem (by omega)⟩
      have g1 : (ivs p)[i]? = some (.int .i64 (x : Nat)) := by rw [List.getElem?_map, hx]; rfl
      have g2 : (ivs q)[i]? = some (.int .i64 (y : Nat)) := by rw [List.getElem?_map, hy]; rfl
      have hat : (ivs (List.zipWith max p q))[i]? = some (.int .i64 ((max x y : Nat) : Int)) := by rw [List.getElem?_map, List.getElem?_zipWith, hx, hy]; rfl
      have hput := partR_put (ivs (List.zipWith max p q)) (.int .i64 0) _ i hat
      have hlen := partR_len (ivs (List.zipWith max p q)) (.int .i64 0) i (by omega)
      rw [← hcs0] at hput hlen
      have e : (if (y : Int) > (x : Int) then (y : Int) else (x : Int)) = ((max x y : Nat) : Int) := by split <;> omega
      have w1 : IntKind.i64.wrap ((i : Int) + 1) = ((i + 1 : Nat) : Int) := by rw [IntKind.wrap_i64]; omega
      have hih := ih (i + 1) (by omega) _ hput
      have hcs : cs0.length = p.length := by omega
      refine round (its := [.blk 0 wb_ref04_Max_0]) (k0 := [.c c_ref04_Max_k0]) 100 trivial trivial (fun A eA => ?_)
      simp (disch := first | omega | (simp only [avs_len, List.length_cons, List.length_append, List.length_nil, List.length_take, List.length_drop, List.length_map]; omega) | (simp only [cells, scal1, allSz, List.length_cons, List.length_nil, List.length_append, List.length_map, List.all_cons, List.all_nil, avs_len, beq_self_eq_true, Bool.and_self, and_self, or_true, true_or, reduceCtorEq, *]; done) | fail) only [c_ref04_Max, wl_ref04_Max_0, s_ref04_Max_0, c_ref04_Max_l0, wb_ref04_Max_0, c_ref04_Max_k0, go_sem, Nat.reduceAdd, Nat.reduceSub, Nat.reduceMul, Nat.reduceLT, Nat.reduceLeDiff, Int.reduceToNat, Nat.reduceEqDiff, Nat.reduceBEq, ↓reduceIte, reduceCtorEq, eA, scal1, List.all_cons, List.all_nil, Bool.and_self, Int.toNat_natCast, w1, hcs, g1, g2, e]
      exact hih _
  have hp0 : List.replicate p.length (AV.int .i64 0) = partR (ivs (List.zipWith max p q)) (.int .i64 0) 0 := by
    show _ = List.take 0 _ ++ List.replicate (_ - 0) _
    rw [hL]; rfl
  refine calls_ref04_Max ?_
  simp only [List.replicate, List.length_cons, List.length_nil, Nat.reduceAdd, Nat.reduceSub, List.cons_append, List.nil_append]
  refine walk0 100 trivial (fun A eA => ?_)
  simp (disch := first | omega | (simp only [avs_len, List.length_cons, List.length_append, List.length_nil, List.length_take, List.length_drop, List.length_map]; omega) | (simp only [cells, scal1, allSz, List.length_cons, List.length_nil, List.length_append, List.length_map, List.all_cons, List.all_nil, avs_len, beq_self_eq_true, Bool.and_self, and_self, or_true, true_or, reduceCtorEq, *]; done) | fail) only [c_ref04_Max, wl_ref04_Max_0, s_ref04_Max_0, c_ref04_Max_l0, wb_ref04_Max_0, c_ref04_Max_k0, go_sem, Nat.reduceAdd, Nat.reduceSub, Nat.reduceMul, Nat.reduceLT, Nat.reduceLeDiff, Int.reduceToNat, Nat.reduceEqDiff, Nat.reduceBEq, ↓reduceIte, reduceCtorEq, eA, scal1, List.all_cons, List.all_nil, Bool.and_self, ivs_len, Int.toNat_natCast]
  exact key p.length 0 (by omega) _ hp0 (bump zeroC 9)
theorem leastR_le_take {row : List Nat} {K : Nat} (h : row.take K ≠ []) : leastR row ≤ leastR (row.take K) := leastR_le _ (List.mem_of_mem_take (leastR_mem h))
theorem leastR_le_drop {row : List Nat} {K : Nat} (h : row.drop K ≠ []) : leastR row ≤ leastR (row.drop K) := leastR_le _ (List.mem_of_mem_drop (leastR_mem h))
theorem ETree_calls : ∀ (d : Nat) (row : List Nat) (below : Nat), d ≤ 20 → row.length = 2 ^ d → below ≤ leastR row → (∀ x ∈ row, x < 2 ^ 60) → PCalls Try.prog F_ref04_ETree [.fz 1 (ivs row) none, .int .i64 (below : Nat)] (xtv (treeE d row below).t) := by
  have flat : ∀ (d : Nat) (row : List Nat) (below : Nat), d ≤ 20 → row.length = 2 ^ d → below ≤ leastR row → (∀ x ∈ row, x < 2 ^ 60) → leastR row = mostR row → PCalls Try.prog F_ref04_ETree [.fz 1 (ivs row) none, .int .i64 (below : Nat)] (xtv (E.lf (leastR row - below)).t) := by
    intro d row below hd hl hb hx hc
    have hpos : 0 < 2 ^ d := Nat.pow_pos (by omega)
    have hle : (2 : Nat) ^ d ≤ 2 ^ 20 := Nat.pow_le_pow_right (by omega) hd
    have hne : row ≠ [] := by intro h; rw [h] at hl; simp at hl; omega
    have c1 := refLeast_calls row hne (by omega)
    have c2 := refMost_calls row hne (by omega)
    have hlt := hx _ (leastR_mem hne)
    rw [← hc] at c2
    have w1 : IntKind.i64.wrap (((leastR row : Nat) : Int) - (below : Nat)) = ((leastR row - below : Nat) : Int) := by rw [IntKind.wrap_i64]; omega
    refine calls_ref04_ETree (walk0 100 trivial (fun A eA => ?_))
    simp (disch := first | omega | (simp only [avs_len, List.length_cons, List.length_append, List.length_nil, List.length_take, List.length_drop, List.length_map]; omega) | (simp only [cells, scal1, allSz, List.length_cons, List.length_nil, List.length_append, List.length_map, List.all_cons, List.all_nil, avs_len, beq_self_eq_true, Bool.and_self, and_self, or_true, true_or, reduceCtorEq, *]; done) | fail) only [c_ref04_ETree, go_sem, Nat.reduceAdd, Nat.reduceSub, Nat.reduceMul, Nat.reduceLT, Nat.reduceLeDiff, Int.reduceToNat, Nat.reduceEqDiff, Nat.reduceBEq, ↓reduceIte, reduceCtorEq, eA, scal1, List.all_cons, List.all_nil, Bool.and_self]
    repeat ((first | refine call0 100 trivial trivial (by first | exact c1 | exact c2) (by first | exact .inl rfl | exact .inr rfl) (fun A eA => ?_) | refine call1 100 trivial trivial (by first | exact c1 | exact c2) (fun A eA => ?_)); simp (disch := first | omega | (simp only [avs_len, List.length_cons, List.length_append, List.length_nil, List.length_take, List.length_drop, List.length_map]; omega) | (simp only [cells, scal1, allSz, List.length_cons, List.length_nil, List.length_append, List.length_map, List.all_cons, List.all_nil, avs_len, beq_self_eq_true, Bool.and_self, and_self, or_true, true_or, reduceCtorEq, *]; done) | fail) only [c_ref04_ETree, go_sem, Nat.reduceAdd, Nat.reduceSub, Nat.reduceMul, Nat.reduceLT, Nat.reduceLeDiff, Int.reduceToNat, Nat.reduceEqDiff, Nat.reduceBEq, ↓reduceIte, reduceCtorEq, eA, scal1, List.all_cons, List.all_nil, Bool.and_self, w1])
    exact doneW rfl (xwk_leaf _)
  intro d
  induction d with
  | zero =>
    intro row below hd hl hb hx
    match row, hl with
    | [x], _ => exact flat 0 [x] below hd rfl hb hx (by simp [leastR, mostR])
  | succ d ih =>
    intro row below hd hl hb hx
    by_cases hc : leastR row = mostR row
    · simp only [treeE]
      rw [if_pos hc]
      exact flat (d + 1) row below hd hl hb hx hc
    · simp only [treeE]
      rw [if_neg hc]
      have hpos : 0 < 2 ^ d := Nat.pow_pos (by omega)
      have hle : (2 : Nat) ^ (d + 1) ≤ 2 ^ 20 := Nat.pow_le_pow_right (by omega) hd
      have e : 2 ^ (d + 1) / 2 = 2 ^ d := by rw [Nat.pow_succ]; omega
      have e2 : 2 ^ (d + 1) - 2 ^ d = 2 ^ d := by rw [Nat.pow_succ]; omega
      have e3 : 2 ^ d ≤ 2 ^ (d + 1) := Nat.pow_le_pow_right (by omega) (by omega)
      have hne : row ≠ [] := by intro h; rw [h] at hl; simp at hl; omega
      have lt1 : (row.take (2 ^ d)).length = 2 ^ d := by rw [List.length_take]; omega
      have lt2 : (row.drop (2 ^ d)).length = 2 ^ d := by rw [List.length_drop]; omega
      have ne1 : row.take (2 ^ d) ≠ [] := by intro h; rw [h] at lt1; simp at lt1; omega
      have ne2 : row.drop (2 ^ d) ≠ [] := by intro h; rw [h] at lt2; simp at lt2; omega
      have c1 := refLeast_calls row hne (by omega)
      have c2 := refMost_calls row hne (by omega)
      have k1 := ih (row.take (2 ^ d)) (leastR row) (by omega) lt1 (leastR_le_take ne1) (fun x h => hx x (List.mem_of_mem_take h))
      have k2 := ih (row.drop (2 ^ d)) (leastR row) (by omega) lt2 (leastR_le_drop ne2) (fun x h => hx x (List.mem_of_mem_drop h))
      simp only [ivs, List.map_take] at k1
      simp only [ivs, List.map_drop] at k2
      have hlt := hx _ (leastR_mem hne)
      have w1 : IntKind.i64.wrap (((leastR row : Nat) : Int) - (below : Nat)) = ((leastR row - below : Nat) : Int) := by rw [IntKind.wrap_i64]; omega
      have q1 : (row.length : Int).tdiv 2 = ((2 ^ d : Nat) : Int) := by rw [Int.tdiv_eq_ediv_of_nonneg (by omega), hl, ← e]; omega
      generalize hK : (2 : Nat) ^ d = K at *
      have q2 : IntKind.i64.wrap (K : Int) = (K : Int) := by rw [IntKind.wrap_i64]; omega
      have hKl : K ≤ row.length := by omega
      have ht : List.take row.length (ivs row) = ivs row := by rw [List.take_of_length_le (by simp)]
      refine calls_ref04_ETree (walk0 100 trivial (fun A eA => ?_))
      simp (disch := first | omega | (simp only [avs_len, List.length_cons, List.length_append, List.length_nil, List.length_take, List.length_drop, List.length_map]; omega) | (simp only [cells, scal1, allSz, List.length_cons, List.length_nil, List.length_append, List.length_map, List.all_cons, List.all_nil, avs_len, beq_self_eq_true, Bool.and_self, and_self, or_true, true_or, reduceCtorEq, *]; done) | fail) only [c_ref04_ETree, go_sem, Nat.reduceAdd, Nat.reduceSub, Nat.reduceMul, Nat.reduceLT, Nat.reduceLeDiff, Int.reduceToNat, Nat.reduceEqDiff, Nat.reduceBEq, ↓reduceIte, reduceCtorEq, eA, scal1, List.all_cons, List.all_nil, Bool.and_self]
      refine call0 100 trivial trivial c1 (.inl rfl) (fun A eA => ?_)
      simp (disch := first | omega | (simp only [avs_len, List.length_cons, List.length_append, List.length_nil, List.length_take, List.length_drop, List.length_map]; omega) | (simp only [cells, scal1, allSz, List.length_cons, List.length_nil, List.length_append, List.length_map, List.all_cons, List.all_nil, avs_len, beq_self_eq_true, Bool.and_self, and_self, or_true, true_or, reduceCtorEq, *]; done) | fail) only [c_ref04_ETree, go_sem, Nat.reduceAdd, Nat.reduceSub, Nat.reduceMul, Nat.reduceLT, Nat.reduceLeDiff, Int.reduceToNat, Nat.reduceEqDiff, Nat.reduceBEq, ↓reduceIte, reduceCtorEq, eA, scal1, List.all_cons, List.all_nil, Bool.and_self]
      refine call0 100 trivial trivial c2 (.inl rfl) (fun A eA => ?_)
      simp (disch := first | omega | (simp only [avs_len, List.length_cons, List.length_append, List.length_nil, List.length_take, List.length_drop, List.length_map]; omega) | (simp only [cells, scal1, allSz, List.length_cons, List.length_nil, List.length_append, List.length_map, List.all_cons, List.all_nil, avs_len, beq_self_eq_true, Bool.and_self, and_self, or_true, true_or, reduceCtorEq, *]; done) | fail) only [c_ref04_ETree, go_sem, Nat.reduceAdd, Nat.reduceSub, Nat.reduceMul, Nat.reduceLT, Nat.reduceLeDiff, Int.reduceToNat, Nat.reduceEqDiff, Nat.reduceBEq, ↓reduceIte, reduceCtorEq, eA, scal1, List.all_cons, List.all_nil, Bool.and_self, w1, List.length_map, q1, q2, Int.toNat_natCast]
      refine call0 100 trivial trivial k1 (.inl rfl) (fun A eA => ?_)
      simp (disch := first | omega | (simp only [avs_len, List.length_cons, List.length_append, List.length_nil, List.length_take, List.length_drop, List.length_map]; omega) | (simp only [cells, scal1, allSz, List.length_cons, List.length_nil, List.length_append, List.length_map, List.all_cons, List.all_nil, avs_len, beq_self_eq_true, Bool.and_self, and_self, or_true, true_or, reduceCtorEq, *]; done) | fail) only [c_ref04_ETree, go_sem, Nat.reduceAdd, Nat.reduceSub, Nat.reduceMul, Nat.reduceLT, Nat.reduceLeDiff, Int.reduceToNat, Nat.reduceEqDiff, Nat.reduceBEq, ↓reduceIte, reduceCtorEq, eA, scal1, List.all_cons, List.all_nil, Bool.and_self, w1, List.length_map, q1, q2, Int.toNat_natCast, ht]
      refine call0 100 trivial trivial k2 (.inl rfl) (fun A eA => ?_)
      simp (disch := first | omega | (simp only [avs_len, List.length_cons, List.length_append, List.length_nil, List.length_take, List.length_drop, List.length_map]; omega) | (simp only [cells, scal1, allSz, List.length_cons, List.length_nil, List.length_append, List.length_map, List.all_cons, List.all_nil, avs_len, beq_self_eq_true, Bool.and_self, and_self, or_true, true_or, reduceCtorEq, *]; done) | fail) only [c_ref04_ETree, go_sem, Nat.reduceAdd, Nat.reduceSub, Nat.reduceMul, Nat.reduceLT, Nat.reduceLeDiff, Int.reduceToNat, Nat.reduceEqDiff, Nat.reduceBEq, ↓reduceIte, reduceCtorEq, eA, scal1, List.all_cons, List.all_nil, Bool.and_self, allSz, cells, beq_self_eq_true]
      exact doneW rfl (xwk_two _ _ _)
theorem xtree_join (a b : E) (x1 : a.dep ≤ 8) (x3 : a.short = true) (x4 : a.small = true) (y1 : b.dep ≤ 8) (y3 : b.short = true) (y4 : b.small = true) : PCalls Try.prog F_ref04_ETree [.fz 1 (ivs (List.zipWith max (rowE 7 a) (rowE 7 b))) none, .int .i64 0] (xtv (joinE 7 a b).t) := by
  have h := ETree_calls 7 (List.zipWith max (rowE 7 a) (rowE 7 b)) 0 (by omega) (by simp [rowE_len]) (by omega) (fun x hx => by
    rw [← rows_joinE 7 a b (by omega) (by omega)] at hx
    have := rowE_top 7 _ x hx
    have := joinE_top 7 a b
    have := xtop_rt x1 x4
    have := xtop_rt y1 y4
    omega)
  rwa [tree_joinE 7 a b x3 y3 (by omega) (by omega)] at h
end Go.Proofs.Ytmokhopjnjecbab
/- Filling and growing: trees against rows: plain. -/
namespace Go.Ev
set_option linter.unusedVariables false
set_option linter.unnecessarySimpa false
set_option linter.unusedSimpArgs false

def B.one : B → Bool
  | .lf o => o
  | .nd _ _ => false
def B.none : B → Bool
  | .lf o => !o
  | .nd _ _ => false
theorem B.one_lf {b : B} (h : b.one = true) : b = .lf true := by cases b <;> simp_all [B.one]
theorem B.none_lf {b : B} (h : b.none = true) : b = .lf false := by cases b <;> simp_all [B.none]
theorem E.lift_lift (e : E) (a b : Nat) : (e.lift a).lift b = e.lift (a + b) := by cases e <;> simp [E.lift, Nat.add_assoc]
theorem E.lift_lf (n m : Nat) : (E.lf n).lift m = .lf (n + m) := rfl
theorem E.lift_nd (n m : Nat) (l r : E) : (E.nd n l r).lift m = .nd (n + m) l r := rfl
theorem nodeE_lift (n m : Nat) (l r : E) : nodeE (n + m) l r = (nodeE n l r).lift m := by
  unfold nodeE; split <;> simp only [E.lift] <;> congr 1 <;> omega
def fillE : B → E → E
  | .lf o, e => if o = true then .lf e.top else e
  | .nd _ _, .lf n => .lf n
  | .nd il ir, .nd n l r =>
    if il.one = true then nodeE n (.lf (max l.top (fillE ir r).n)) (fillE ir r)
    else if ir.one = true then nodeE n (fillE il l) (.lf (max r.top (fillE il l).n))
    else nodeE n (fillE il l) (fillE ir r)
def splitE : E → Nat × Nat × E × E
  | .lf n => (1000, n, .lf 0, .lf 0)
  | .nd n l r => (0, n, l, r)
def growE : B → E → E × Nat
  | .lf _, e => (e.lift 1, 0)
  | .nd il ir, e =>
    let s := splitE e
    if il.none = true then (nodeE s.2.1 s.2.2.1 (growE ir s.2.2.2).1, (growE ir s.2.2.2).2 + 1 + s.1)
    else if ir.none = true then (nodeE s.2.1 (growE il s.2.2.1).1 s.2.2.2, (growE il s.2.2.1).2 + 1 + s.1)
    else if (growE il s.2.2.1).2 < (growE ir s.2.2.2).2 then (nodeE s.2.1 (growE il s.2.2.1).1 s.2.2.2, (growE il s.2.2.1).2 + 1 + s.1)
    else (nodeE s.2.1 s.2.2.1 (growE ir s.2.2.2).1, (growE ir s.2.2.2).2 + 1 + s.1)
def fillR : B → List Nat → List Nat
  | .lf o, row => if o = true then List.replicate row.length (mostR row) else row
  | .nd il ir, row => if leastR row = mostR row then row else
    let h := row.length / 2
    if il.one = true then List.replicate h (max (mostR (row.take h)) (leastR (fillR ir (row.drop h)))) ++ fillR ir (row.drop h)
    else if ir.one = true then fillR il (row.take h) ++ List.replicate h (max (mostR (row.drop h)) (leastR (fillR il (row.take h))))
    else fillR il (row.take h) ++ fillR ir (row.drop h)
def growR : B → List Nat → List Nat × Nat
  | .lf _, row => (List.replicate row.length (row.headD 0 + 1), 0)
  | .nd il ir, row =>
    let c := if leastR row = mostR row then 1001 else 1
    let h := row.length / 2
    if il.none = true then (row.take h ++ (growR ir (row.drop h)).1, c + (growR ir (row.drop h)).2)
    else if ir.none = true then ((growR il (row.take h)).1 ++ row.drop h, c + (growR il (row.take h)).2)
    else if (growR ir (row.drop h)).2 ≤ (growR il (row.take h)).2 then (row.take h ++ (growR ir (row.drop h)).1, c + (growR ir (row.drop h)).2)
    else ((growR il (row.take h)).1 ++ row.drop h, c + (growR il (row.take h)).2)
/-! ### what lifting does -/
theorem fillE_lift (i : B) (e : E) (m : Nat) : fillE i (e.lift m) = (fillE i e).lift m := by
  cases i with
  | lf o =>
    cases o with
    | true => simp only [fillE, if_true, E.lift_top, E.lift_lf]
    | false => simp only [fillE, Bool.false_eq_true, if_false]
  | nd il ir =>
    cases e with
    | lf n => rfl
    | nd n l r =>
      rw [E.lift_nd]
      simp only [fillE]
      by_cases h1 : il.one = true
      · rw [if_pos h1, if_pos h1, nodeE_lift]
      · by_cases h2 : ir.one = true
        · rw [if_neg h1, if_neg h1, if_pos h2, if_pos h2, nodeE_lift]
        · rw [if_neg h1, if_neg h1, if_neg h2, if_neg h2, nodeE_lift]
theorem growE_lift (i : B) (e : E) (m : Nat) : growE i (e.lift m) = ((growE i e).1.lift m, (growE i e).2) := by
  cases i with
  | lf o => simp only [growE, E.lift_lift]; rw [Nat.add_comm]
  | nd il ir =>
    have hs : splitE (e.lift m) = ((splitE e).1, (splitE e).2.1 + m, (splitE e).2.2.1, (splitE e).2.2.2) := by cases e <;> rfl
    simp only [growE, hs]
    by_cases h1 : il.none = true
    · simp only [if_pos h1, nodeE_lift]
    · by_cases h2 : ir.none = true
      · simp only [if_neg h1, if_pos h2, nodeE_lift]
      · by_cases h3 : (growE il (splitE e).2.2.1).2 < (growE ir (splitE e).2.2.2).2
        · simp only [if_neg h1, if_neg h2, if_pos h3, nodeE_lift]
        · simp only [if_neg h1, if_neg h2, if_neg h3, nodeE_lift]
theorem E.top_mem : ∀ (d : Nat) (e : E), e.dep ≤ d + 1 → e.top ∈ rowE d e
  | d, .lf n, _ => by rw [rowE_lf]; simp [E.top]
  | 0, .nd n l r, h => by have := l.dep_pos; simp only [E.dep] at h; omega
  | d + 1, .nd n l r, h => by
    simp only [E.dep] at h
    have hl := E.top_mem d l (by omega)
    have hr := E.top_mem d r (by omega)
    simp only [rowE, E.top, List.mem_map, List.mem_append]
    rcases Nat.le_total l.top r.top with h1 | h1
    · exact ⟨r.top, .inr hr, by omega⟩
    · exact ⟨l.top, .inl hl, by omega⟩
theorem mostR_row (d : Nat) (e : E) (h : e.dep ≤ d + 1) : mostR (rowE d e) = e.top := mostR_eq (E.top_mem d e h) (rowE_top d e)
theorem leastR_row (d : Nat) (e : E) (hs : e.short = true) (h : e.dep ≤ d + 1) : leastR (rowE d e) = e.n := leastR_eq (rowE_least d e hs h).1 (rowE_least d e hs h).2
theorem const_leaf (d : Nat) (e : E) (hs : e.short = true) (h : e.dep ≤ d + 1) : (leastR (rowE d e) = mostR (rowE d e)) ↔ e.leaf = true := by
  constructor
  · intro q
    have := rowE_const d e hs h (leastR (rowE d e)) (fun x hx => by
      have a := leastR_le x hx
      have b := mostR_ge x hx
      omega)
    rw [this]; rfl
  · intro q
    rw [E.leaf_lf q, mostR_row d _ (by simp [E.dep]), leastR_row d _ rfl (by simp [E.dep])]
    rfl
theorem rowE_take (d : Nat) (e : E) : (rowE (d + 1) e).take ((rowE (d + 1) e).length / 2) = rowE d (e.half false) := by
  rw [rowE_len, rowE_split, show 2 ^ (d + 1) / 2 = (rowE d (e.half false)).length by rw [rowE_len, Nat.pow_succ]; omega, List.take_left]
theorem rowE_drop (d : Nat) (e : E) : (rowE (d + 1) e).drop ((rowE (d + 1) e).length / 2) = rowE d (e.half true) := by
  rw [rowE_len, rowE_split, show 2 ^ (d + 1) / 2 = (rowE d (e.half false)).length by rw [rowE_len, Nat.pow_succ]; omega, List.drop_left]
theorem rowE_h (d : Nat) (e : E) : (rowE (d + 1) e).length / 2 = 2 ^ d := by rw [rowE_len, Nat.pow_succ]; omega
theorem rows_node (d n : Nat) (l r : E) : rowE (d + 1) (nodeE n l r) = rowE d (l.lift n) ++ rowE d (r.lift n) := by
  rw [rows_nodeE, List.map_append, rowE_lift, rowE_lift]
/-! ### filling -/
theorem fillE_short : ∀ (i : B) (e : E), e.short = true → (fillE i e).short = true
  | .lf o, e, h => by simp only [fillE]; split
                      · rfl
                      · exact h
  | .nd il ir, .lf n, h => rfl
  | .nd il ir, .nd n l r, h => by
    simp only [E.short, Bool.and_eq_true] at h
    have hl := fillE_short il l h.1.1.1
    have hr := fillE_short ir r h.1.1.2
    simp only [fillE]
    split
    · exact nodeE_short rfl hr
    · split
      · exact nodeE_short hl rfl
      · exact nodeE_short hl hr
theorem fillE_dep : ∀ (i : B) (e : E), (fillE i e).dep ≤ e.dep
  | .lf o, e => by simp only [fillE]; split
                   · have := e.dep_pos; simp [E.dep]; omega
                   · exact Nat.le_refl _
  | .nd il ir, .lf n => Nat.le_refl _
  | .nd il ir, .nd n l r => by
    have hl := fillE_dep il l
    have hr := fillE_dep ir r
    have pl := l.dep_pos
    have pr := r.dep_pos
    simp only [fillE]
    split
    · refine Nat.le_trans (nodeE_dep _ _ _) ?_; simp only [E.dep]; omega
    · split
      · refine Nat.le_trans (nodeE_dep _ _ _) ?_; simp only [E.dep]; omega
      · refine Nat.le_trans (nodeE_dep _ _ _) ?_; simp only [E.dep]; omega
theorem half_nd (n : Nat) (l r : E) : (E.nd n l r).half false = l.lift n ∧ (E.nd n l r).half true = r.lift n := ⟨rfl, rfl⟩
theorem fill_rows : ∀ (d : Nat) (i : B) (e : E), i.dep ≤ d + 1 → e.short = true → e.dep ≤ d + 1 → rowE d (fillE i e) = fillR i (rowE d e)
  | d, .lf o, e, _, hs, hd => by
    simp only [fillE, fillR]
    split
    · rw [rowE_lf, rowE_len, mostR_row d e hd]
    · rfl
  | 0, .nd il ir, e, hi, _, _ => by
    have : 1 ≤ il.dep := by cases il <;> simp [B.dep]
    simp only [B.dep] at hi; omega
  | d + 1, .nd il ir, .lf n, hi, hs, hd => by
    simp only [fillE, fillR]
    rw [if_pos]
    rw [const_leaf (d + 1) (.lf n) hs hd]; rfl
  | d + 1, .nd il ir, .nd n l r, hi, hs, hd => by
    have hc : ¬ (leastR (rowE (d + 1) (.nd n l r)) = mostR (rowE (d + 1) (.nd n l r))) := by
      rw [const_leaf (d + 1) _ hs hd]; simp [E.leaf]
    have hs' := hs
    simp only [E.short, Bool.and_eq_true] at hs'
    simp only [E.dep] at hd
    simp only [B.dep] at hi
    have il1 := fill_rows d il (l.lift n) (by omega) (by rw [E.lift_short]; exact hs'.1.1.1) (by rw [E.lift_dep]; omega)
    have ir1 := fill_rows d ir (r.lift n) (by omega) (by rw [E.lift_short]; exact hs'.1.1.2) (by rw [E.lift_dep]; omega)
    rw [fillE_lift] at il1 ir1
    simp only [fillR]
    rw [if_neg hc, rowE_take, rowE_drop, rowE_h, (half_nd n l r).1, (half_nd n l r).2]
    simp only [fillE]
    split
    · rw [rows_node, ir1, E.lift, rowE_lf]
      congr 2
      rw [← ir1, mostR_row d _ (by rw [E.lift_dep]; omega), E.lift_top, leastR_row d _ (by rw [E.lift_short]; exact fillE_short _ _ hs'.1.1.2) (by rw [E.lift_dep]; have := fillE_dep ir r; omega), E.lift_n]
      omega
    · split
      · rw [rows_node, il1, E.lift, rowE_lf]
        congr 2
        rw [← il1, mostR_row d _ (by rw [E.lift_dep]; omega), E.lift_top, leastR_row d _ (by rw [E.lift_short]; exact fillE_short _ _ hs'.1.1.1) (by rw [E.lift_dep]; have := fillE_dep il l; omega), E.lift_n]
        omega
      · rw [rows_node, il1, ir1]
/-! ### growing -/
/-- Where the identity has all, the row is flat. -/
def flatR : B → List Nat → Prop
  | .lf o, row => o = true → leastR row = mostR row
  | .nd l r, row => flatR l (row.take (row.length / 2)) ∧ flatR r (row.drop (row.length / 2))
theorem splitE_half (e : E) : (splitE e).2.2.1.lift (splitE e).2.1 = e.half false ∧ (splitE e).2.2.2.lift (splitE e).2.1 = e.half true := by
  cases e with
  | lf n => simp [splitE, E.lift, E.half]
  | nd n l r => exact ⟨rfl, rfl⟩
theorem splitE_more (e : E) : (splitE e).1 = if e.leaf = true then 1000 else 0 := by cases e <;> rfl
theorem splitE_short (e : E) (h : e.short = true) : (splitE e).2.2.1.short = true ∧ (splitE e).2.2.2.short = true := by
  cases e with
  | lf n => exact ⟨rfl, rfl⟩
  | nd n l r => simp only [E.short, Bool.and_eq_true] at h; exact ⟨h.1.1.1, h.1.1.2⟩
theorem splitE_dep (e : E) (d : Nat) (h : e.dep ≤ d + 1) (hd : 1 ≤ d) : (splitE e).2.2.1.dep ≤ d ∧ (splitE e).2.2.2.dep ≤ d := by
  cases e with
  | lf n => simp [splitE, E.dep]; omega
  | nd n l r => simp only [E.dep] at h; simp only [splitE]; omega
theorem splitE_top (e : E) : (splitE e).2.1 + (splitE e).2.2.1.top ≤ e.top ∧ (splitE e).2.1 + (splitE e).2.2.2.top ≤ e.top := by
  cases e with
  | lf n => simp [splitE, E.top]
  | nd n l r => simp only [splitE, E.top]; omega
theorem B.dep_pos (b : B) : 1 ≤ b.dep := by cases b <;> simp [B.dep]
theorem growE_short : ∀ (i : B) (e : E), e.short = true → (growE i e).1.short = true
  | .lf o, e, h => by simp only [growE, E.lift_short]; exact h
  | .nd il ir, e, h => by
    obtain ⟨h1, h2⟩ := splitE_short e h
    have hl := growE_short il _ h1
    have hr := growE_short ir _ h2
    simp only [growE]
    split
    · exact nodeE_short h1 hr
    · split
      · exact nodeE_short hl h2
      · split
        · exact nodeE_short hl h2
        · exact nodeE_short h1 hr
theorem growE_dep : ∀ (d : Nat) (i : B) (e : E), i.dep ≤ d + 1 → e.dep ≤ d + 1 → (growE i e).1.dep ≤ d + 1
  | d, .lf o, e, _, h => by simp only [growE, E.lift_dep]; exact h
  | 0, .nd il ir, e, hi, _ => by have := il.dep_pos; simp only [B.dep] at hi; omega
  | d + 1, .nd il ir, e, hi, h => by
    simp only [B.dep] at hi
    obtain ⟨h1, h2⟩ := splitE_dep e (d + 1) h (by omega)
    have hl := growE_dep d il _ (by omega) h1
    have hr := growE_dep d ir _ (by omega) h2
    simp only [growE]
    split
    · refine Nat.le_trans (nodeE_dep _ _ _) ?_; omega
    · split
      · refine Nat.le_trans (nodeE_dep _ _ _) ?_; omega
      · split
        · refine Nat.le_trans (nodeE_dep _ _ _) ?_; omega
        · refine Nat.le_trans (nodeE_dep _ _ _) ?_; omega
theorem growE_price : ∀ (d : Nat) (i : B) (e : E), i.dep ≤ d → (growE i e).2 ≤ 1001 * d
  | 0, i, e, h => by have := i.dep_pos; omega
  | d + 1, .lf o, e, _ => by simp [growE]
  | d + 1, .nd il ir, e, h => by
    simp only [B.dep] at h
    have hl := growE_price d il (splitE e).2.2.1 (by omega)
    have hr := growE_price d ir (splitE e).2.2.2 (by omega)
    have hm : (splitE e).1 ≤ 1000 := by rw [splitE_more]; split <;> omega
    simp only [growE]
    split
    · show _ + 1 + _ ≤ _; omega
    · split
      · show _ + 1 + _ ≤ _; omega
      · split
        · show _ + 1 + _ ≤ _; omega
        · show _ + 1 + _ ≤ _; omega
theorem short_none {il ir : B} (h : (B.nd il ir).short = true) (h1 : il.none = true) : ir.none = false := by
  have := B.none_lf h1
  subst this
  cases hn : ir.none with
  | false => rfl
  | true => rw [B.none_lf hn] at h; exact absurd h (by decide)
theorem grow_rows : ∀ (d : Nat) (i : B) (e : E), i.short = true → i.dep ≤ d + 1 → i.none = false → e.short = true → e.dep ≤ d + 1 → flatR i (rowE d e) → rowE d (growE i e).1 = (growR i (rowE d e)).1 ∧ (growE i e).2 = (growR i (rowE d e)).2
  | d, .lf o, e, _, _, hn, hs, hd, hf => by
    have ho : o = true := by simpa [B.none] using hn
    have := (const_leaf d e hs hd).1 (hf ho)
    rw [E.leaf_lf this]
    have hp : 2 ^ d ≠ 0 := Nat.pos_iff_ne_zero.1 (Nat.pow_pos (by omega))
    obtain ⟨m, hm⟩ := Nat.exists_eq_succ_of_ne_zero hp
    simp only [growE, growR, E.lift_lf, rowE_lf, hm, List.replicate_succ, List.headD_cons, List.length_cons, List.length_replicate, and_self]
  | 0, .nd il ir, e, _, hi, _, _, _, _ => by have := il.dep_pos; simp only [B.dep] at hi; omega
  | d + 1, .nd il ir, e, his, hi, _, hs, hd, hf => by
    simp only [B.dep] at hi
    have his' := his
    simp only [B.short, Bool.and_eq_true] at his'
    obtain ⟨h1, h2⟩ := splitE_short e hs
    obtain ⟨d1, d2⟩ := splitE_dep e (d + 1) hd (by omega)
    obtain ⟨q1, q2⟩ := splitE_half e
    simp only [flatR] at hf
    rw [rowE_take, rowE_drop, ← q1, ← q2] at hf
    have il1 := fun q => grow_rows d il _ his'.1.1 (by omega) q (by rw [E.lift_short]; exact h1) (by rw [E.lift_dep]; exact d1) hf.1
    have ir1 := fun q => grow_rows d ir _ his'.1.2 (by omega) q (by rw [E.lift_short]; exact h2) (by rw [E.lift_dep]; exact d2) hf.2
    rw [growE_lift] at il1 ir1
    have hc : (if leastR (rowE (d + 1) e) = mostR (rowE (d + 1) e) then 1001 else 1) = 1 + (splitE e).1 := by
      rw [splitE_more]
      by_cases q : e.leaf = true
      · rw [if_pos q, if_pos ((const_leaf (d + 1) e hs hd).2 q)]
      · rw [if_neg q, if_neg (fun w => q ((const_leaf (d + 1) e hs hd).1 w))]
    simp only [growE, growR]
    rw [hc, rowE_take, rowE_drop, ← q1, ← q2]
    by_cases n1 : il.none = true
    · obtain ⟨a, b⟩ := ir1 (short_none his n1)
      simp only at a b
      rw [if_pos n1, if_pos n1]
      simp only
      rw [rows_node, a, b]
      exact ⟨rfl, by omega⟩
    · by_cases n2 : ir.none = true
      · obtain ⟨a, b⟩ := il1 (by simpa using n1)
        simp only at a b
        rw [if_neg n1, if_neg n1, if_pos n2, if_pos n2]
        simp only
        rw [rows_node, a, b]
        exact ⟨rfl, by omega⟩
      · obtain ⟨a, b⟩ := il1 (by simpa using n1)
        obtain ⟨a', b'⟩ := ir1 (by simpa using n2)
        simp only at a b a' b'
        rw [if_neg n1, if_neg n1, if_neg n2, if_neg n2, b, b']
        by_cases n3 : (growR il (rowE d ((splitE e).2.2.1.lift (splitE e).2.1))).2 < (growR ir (rowE d ((splitE e).2.2.2.lift (splitE e).2.1))).2
        · rw [if_pos n3, if_neg (by omega)]
          simp only
          rw [rows_node, a]
          exact ⟨rfl, by omega⟩
        · rw [if_neg n3, if_pos (by omega)]
          simp only
          rw [rows_node, a']
          exact ⟨rfl, by omega⟩
end Go.Ev
/- The walks through greatest and fill. -/
-- short
namespace Go.Proofs.Ytmokhopjnjecbab
open Go.Ev
set_option linter.unusedVariables false
set_option linter.unusedSimpArgs false
set_option maxRecDepth 100000
set_option maxHeartbeats 1600000

theorem xtv_nd (n : Nat) (l r : E) : xtv (E.nd n l r).t = .agg [.int .i64 (n : Nat), .fz 2 [xtv l.t, xtv r.t] none] := by
  show AV.agg [.int .i64 (n : Int), .fz 2 (xtavs [l.t, r.t]) none] = _
  simp only [xtavs, xtav_tv]
theorem xtv_lf (n : Nat) : xtv (E.lf n).t = .agg [.int .i64 (n : Nat), .fz 2 [] none] := by
  show AV.agg [.int .i64 (n : Int), .fz 2 (xtavs []) none] = _
  simp only [xtavs]
theorem tv_nd (l r : B) : tv (B.nd l r).t = .agg [.bool false, .fz 2 [tv l.t, tv r.t] none] := by
  show AV.agg [.bool false, .fz 2 (tavs [l.t, r.t]) none] = _
  simp only [tavs, tav_tv]
theorem tv_lf (o : Bool) : tv (B.lf o).t = .agg [.bool o, .fz 2 [] none] := by
  show AV.agg [.bool o, .fz 2 (tavs []) none] = _
  simp only [tavs]
theorem tv_of {t : Tree} {o : Bool} (h : t.one = o) : tv t = .agg [.bool o, .fz 2 (tavs t.ps) none] := by subst h; rfl
theorem B.t_one (b : B) : b.t.one = b.one := by cases b <;> rfl
theorem fillE_top : ∀ (i : B) (e : E), (fillE i e).top ≤ e.top
  | .lf o, e => by simp only [fillE]; split <;> simp [E.top]
  | .nd il ir, .lf n => Nat.le_refl _
  | .nd il ir, .nd n l r => by
    have hl := fillE_top il l
    have hr := fillE_top ir r
    have hln := (fillE il l).top_n
    have hrn := (fillE ir r).top_n
    simp only [fillE]
    split
    · rw [nodeE_top]; simp only [E.top]; omega
    · split
      · rw [nodeE_top]; simp only [E.top]; omega
      · rw [nodeE_top]; simp only [E.top]; omega
theorem xgreat_calls : ∀ (e : E), e.top < 2 ^ 60 → PCalls Try.prog F_event_greatest [xtv e.t] (.int .i64 (e.top : Nat)) := by
  intro e
  induction e with
  | lf n =>
    intro h
    have ca := xleaf_b (E.lf n)
    rw [xtv_lf] at ca ⊢
    refine calls_event_greatest (walk0 100 trivial (fun A eA => ?_))
    simp (disch := first | omega | (simp only [avs_len, List.length_cons, List.length_append, List.length_nil, List.length_take, List.length_drop, List.length_map]; omega) | (simp only [cells, scal1, allSz, List.length_cons, List.length_nil, List.length_append, List.length_map, List.all_cons, List.all_nil, avs_len, beq_self_eq_true, Bool.and_self, and_self, or_true, true_or, reduceCtorEq, *]; done) | fail) only [c_event_greatest, go_sem, Nat.reduceAdd, Nat.reduceSub, Nat.reduceMul, Nat.reduceLT, Nat.reduceLeDiff, Int.reduceToNat, Nat.reduceEqDiff, Nat.reduceBEq, ↓reduceIte, reduceCtorEq, eA]
    repeat ((first | refine call0 100 trivial trivial (by first | exact ca) (by first | exact .inl rfl | exact .inr rfl) (fun A eA => ?_) | refine call1 100 trivial trivial (by first | exact ca) (fun A eA => ?_)); simp (disch := first | omega | (simp only [avs_len, List.length_cons, List.length_append, List.length_nil, List.length_take, List.length_drop, List.length_map]; omega) | (simp only [cells, scal1, allSz, List.length_cons, List.length_nil, List.length_append, List.length_map, List.all_cons, List.all_nil, avs_len, beq_self_eq_true, Bool.and_self, and_self, or_true, true_or, reduceCtorEq, *]; done) | fail) only [c_event_greatest, go_sem, Nat.reduceAdd, Nat.reduceSub, Nat.reduceMul, Nat.reduceLT, Nat.reduceLeDiff, Int.reduceToNat, Nat.reduceEqDiff, Nat.reduceBEq, ↓reduceIte, reduceCtorEq, eA, E.leaf])
    exact doneG rfl
  | nd n l r ihl ihr =>
    intro h
    simp only [E.top] at h
    have cl := ihl (by omega)
    have cr := ihr (by omega)
    have ca := xleaf_b (E.nd n l r)
    rw [xtv_nd] at ca ⊢
    have emx : (if ((r.top : Nat) : Int) > ((l.top : Nat) : Int) then ((r.top : Nat) : Int) else ((l.top : Nat) : Int)) = ((max l.top r.top : Nat) : Int) := by split <;> omega
    have w : IntKind.i64.wrap ((n : Int) + ((max l.top r.top : Nat) : Int)) = (((E.nd n l r).top : Nat) : Int) := by simp only [E.top]; rw [IntKind.wrap_i64]; omega
    refine calls_event_greatest (walk0 100 trivial (fun A eA => ?_))
    simp (disch := first | omega | (simp only [avs_len, List.length_cons, List.length_append, List.length_nil, List.length_take, List.length_drop, List.length_map]; omega) | (simp only [cells, scal1, allSz, List.length_cons, List.length_nil, List.length_append, List.length_map, List.all_cons, List.all_nil, avs_len, beq_self_eq_true, Bool.and_self, and_self, or_true, true_or, reduceCtorEq, *]; done) | fail) only [c_event_greatest, go_sem, Nat.reduceAdd, Nat.reduceSub, Nat.reduceMul, Nat.reduceLT, Nat.reduceLeDiff, Int.reduceToNat, Nat.reduceEqDiff, Nat.reduceBEq, ↓reduceIte, reduceCtorEq, eA]
    repeat ((first | refine call0 100 trivial trivial (by first | exact ca | exact cl | exact cr) (by first | exact .inl rfl | exact .inr rfl) (fun A eA => ?_) | refine call1 100 trivial trivial (by first | exact ca | exact cl | exact cr) (fun A eA => ?_)); simp (disch := first | omega | (simp only [avs_len, List.length_cons, List.length_append, List.length_nil, List.length_take, List.length_drop, List.length_map]; omega) | (simp only [cells, scal1, allSz, List.length_cons, List.length_nil, List.length_append, List.length_map, List.all_cons, List.all_nil, avs_len, beq_self_eq_true, Bool.and_self, and_self, or_true, true_or, reduceCtorEq, *]; done) | fail) only [c_event_greatest, go_sem, Nat.reduceAdd, Nat.reduceSub, Nat.reduceMul, Nat.reduceLT, Nat.reduceLeDiff, Int.reduceToNat, Nat.reduceEqDiff, Nat.reduceBEq, ↓reduceIte, reduceCtorEq, eA, E.leaf, emx, w])
    exact doneG rfl
theorem xfill_calls : ∀ (i : B) (e : E), e.top < 2 ^ 60 → PCalls Try.prog F_event_fill [tv i.t, xtv e.t] (xtv (fillE i e).t) := by
  intro i
  induction i with
  | lf o =>
    intro e he
    rw [tv_lf]
    have cg := xgreat_calls e he
    refine calls_event_fill (walk0 100 trivial (fun A eA => ?_))
    cases o with
    | true =>
      simp (disch := first | omega | (simp only [avs_len, List.length_cons, List.length_append, List.length_nil, List.length_take, List.length_drop, List.length_map]; omega) | (simp only [cells, scal1, allSz, List.length_cons, List.length_nil, List.length_append, List.length_map, List.all_cons, List.all_nil, avs_len, beq_self_eq_true, Bool.and_self, and_self, or_true, true_or, reduceCtorEq, *]; done) | fail) only [c_event_fill, go_sem, Nat.reduceAdd, Nat.reduceSub, Nat.reduceMul, Nat.reduceLT, Nat.reduceLeDiff, Int.reduceToNat, Nat.reduceEqDiff, Nat.reduceBEq, ↓reduceIte, reduceCtorEq, eA]
      repeat ((first | refine call0 100 trivial trivial (by first | exact cg) (by first | exact .inl rfl | exact .inr rfl) (fun A eA => ?_) | refine call1 100 trivial trivial (by first | exact cg) (fun A eA => ?_)); simp (disch := first | omega | (simp only [avs_len, List.length_cons, List.length_append, List.length_nil, List.length_take, List.length_drop, List.length_map]; omega) | (simp only [cells, scal1, allSz, List.length_cons, List.length_nil, List.length_append, List.length_map, List.all_cons, List.all_nil, avs_len, beq_self_eq_true, Bool.and_self, and_self, or_true, true_or, reduceCtorEq, *]; done) | fail) only [c_event_fill, go_sem, Nat.reduceAdd, Nat.reduceSub, Nat.reduceMul, Nat.reduceLT, Nat.reduceLeDiff, Int.reduceToNat, Nat.reduceEqDiff, Nat.reduceBEq, ↓reduceIte, reduceCtorEq, eA])
      exact doneW rfl (xwk_leaf _)
    | false =>
      simp (disch := first | omega | (simp only [avs_len, List.length_cons, List.length_append, List.length_nil, List.length_take, List.length_drop, List.length_map]; omega) | (simp only [cells, scal1, allSz, List.length_cons, List.length_nil, List.length_append, List.length_map, List.all_cons, List.all_nil, avs_len, beq_self_eq_true, Bool.and_self, and_self, or_true, true_or, reduceCtorEq, *]; done) | fail) only [c_event_fill, go_sem, Nat.reduceAdd, Nat.reduceSub, Nat.reduceMul, Nat.reduceLT, Nat.reduceLeDiff, Int.reduceToNat, Nat.reduceEqDiff, Nat.reduceBEq, ↓reduceIte, reduceCtorEq, eA]
      exact doneG rfl
  | nd il ir ihl ihr =>
    intro e he
    rw [tv_nd]
    have o1 := B.t_one il
    have o2 := B.t_one ir
    cases e with
    | lf n =>
      have ca := xleaf_b (E.lf n)
      show PCalls Try.prog F_event_fill _ (xtv (E.lf n).t)
      rw [xtv_lf] at ca ⊢
      refine calls_event_fill (walk0 100 trivial (fun A eA => ?_))
      simp (disch := first | omega | (simp only [avs_len, List.length_cons, List.length_append, List.length_nil, List.length_take, List.length_drop, List.length_map]; omega) | (simp only [cells, scal1, allSz, List.length_cons, List.length_nil, List.length_append, List.length_map, List.all_cons, List.all_nil, avs_len, beq_self_eq_true, Bool.and_self, and_self, or_true, true_or, reduceCtorEq, *]; done) | fail) only [c_event_fill, go_sem, Nat.reduceAdd, Nat.reduceSub, Nat.reduceMul, Nat.reduceLT, Nat.reduceLeDiff, Int.reduceToNat, Nat.reduceEqDiff, Nat.reduceBEq, ↓reduceIte, reduceCtorEq, eA]
      repeat ((first | refine call0 100 trivial trivial (by first | exact ca) (by first | exact .inl rfl | exact .inr rfl) (fun A eA => ?_) | refine call1 100 trivial trivial (by first | exact ca) (fun A eA => ?_)); simp (disch := first | omega | (simp only [avs_len, List.length_cons, List.length_append, List.length_nil, List.length_take, List.length_drop, List.length_map]; omega) | (simp only [cells, scal1, allSz, List.length_cons, List.length_nil, List.length_append, List.length_map, List.all_cons, List.all_nil, avs_len, beq_self_eq_true, Bool.and_self, and_self, or_true, true_or, reduceCtorEq, *]; done) | fail) only [c_event_fill, go_sem, Nat.reduceAdd, Nat.reduceSub, Nat.reduceMul, Nat.reduceLT, Nat.reduceLeDiff, Int.reduceToNat, Nat.reduceEqDiff, Nat.reduceBEq, ↓reduceIte, reduceCtorEq, eA, E.leaf])
      exact doneG rfl
    | nd n l r =>
      simp only [E.top] at he
      have ca := xleaf_b (E.nd n l r)
      have tl := fillE_top il l
      have tr := fillE_top ir r
      have nl := (fillE il l).top_n
      have nr := (fillE ir r).top_n
      have cl := ihl l (by omega)
      have cr := ihr r (by omega)
      have gl := xgreat_calls l (by omega)
      have gr := xgreat_calls r (by omega)
      rw [xtv_nd] at ca ⊢
      simp only [fillE]
      refine calls_event_fill (walk0 100 trivial (fun A eA => ?_))
      by_cases h1 : il.one = true
      · rw [if_pos h1]
        rw [h1] at o1
        have cn := xnode_calls n (.lf (max l.top (fillE ir r).n)) (fillE ir r) (by simp only [E.top]; omega)
        have cn2 : PCalls Try.prog F_event_node [.int .i64 (n : Nat), .agg [.int .i64 ((max l.top (fillE ir r).n : Nat) : Int), .nils], xtv (fillE ir r).t] _ := PCalls.arg [.int .i64 (n : Nat)] (xwk_leaf _) cn
        have emx : (if (fillE ir r).t.n > ((l.top : Nat) : Int) then (fillE ir r).t.n else ((l.top : Nat) : Int)) = ((max l.top (fillE ir r).n : Nat) : Int) := by rw [E.t_n]; split <;> omega
        simp (disch := first | omega | (simp only [avs_len, List.length_cons, List.length_append, List.length_nil, List.length_take, List.length_drop, List.length_map]; omega) | (simp only [cells, scal1, allSz, List.length_cons, List.length_nil, List.length_append, List.length_map, List.all_cons, List.all_nil, avs_len, beq_self_eq_true, Bool.and_self, and_self, or_true, true_or, reduceCtorEq, *]; done) | fail) only [c_event_fill, go_sem, Nat.reduceAdd, Nat.reduceSub, Nat.reduceMul, Nat.reduceLT, Nat.reduceLeDiff, Int.reduceToNat, Nat.reduceEqDiff, Nat.reduceBEq, ↓reduceIte, reduceCtorEq, eA, o1]
        repeat ((first | refine call0 100 trivial trivial (by first | exact ca | exact cr | exact gl | exact cn2) (by first | exact .inl rfl | exact .inr rfl) (fun A eA => ?_) | refine call1 100 trivial trivial (by first | exact ca | exact cr | exact gl | exact cn2) (fun A eA => ?_)); simp (disch := first | omega | (simp only [avs_len, List.length_cons, List.length_append, List.length_nil, List.length_take, List.length_drop, List.length_map]; omega) | (simp only [cells, scal1, allSz, List.length_cons, List.length_nil, List.length_append, List.length_map, List.all_cons, List.all_nil, avs_len, beq_self_eq_true, Bool.and_self, and_self, or_true, true_or, reduceCtorEq, *]; done) | fail) only [c_event_fill, go_sem, Nat.reduceAdd, Nat.reduceSub, Nat.reduceMul, Nat.reduceLT, Nat.reduceLeDiff, Int.reduceToNat, Nat.reduceEqDiff, Nat.reduceBEq, ↓reduceIte, reduceCtorEq, eA, E.leaf, o1, emx])
        exact doneG rfl
      · rw [if_neg h1]
        rw [Bool.not_eq_true] at h1
        rw [h1] at o1
        by_cases h2 : ir.one = true
        · rw [if_pos h2]
          rw [h2] at o2
          have cn := xnode_calls n (fillE il l) (.lf (max r.top (fillE il l).n)) (by simp only [E.top]; omega)
          have cn2 : PCalls Try.prog F_event_node [.int .i64 (n : Nat), xtv (fillE il l).t, .agg [.int .i64 ((max r.top (fillE il l).n : Nat) : Int), .nils]] _ := PCalls.arg [.int .i64 (n : Nat), xtv (fillE il l).t] (xwk_leaf _) cn
          have emx : (if (fillE il l).t.n > ((r.top : Nat) : Int) then (fillE il l).t.n else ((r.top : Nat) : Int)) = ((max r.top (fillE il l).n : Nat) : Int) := by rw [E.t_n]; split <;> omega
          rw [tv_of o1] at cl
          simp (disch := first | omega | (simp only [avs_len, List.length_cons, List.length_append, List.length_nil, List.length_take, List.length_drop, List.length_map]; omega) | (simp only [cells, scal1, allSz, List.length_cons, List.length_nil, List.length_append, List.length_map, List.all_cons, List.all_nil, avs_len, beq_self_eq_true, Bool.and_self, and_self, or_true, true_or, reduceCtorEq, *]; done) | fail) only [c_event_fill, go_sem, Nat.reduceAdd, Nat.reduceSub, Nat.reduceMul, Nat.reduceLT, Nat.reduceLeDiff, Int.reduceToNat, Nat.reduceEqDiff, Nat.reduceBEq, ↓reduceIte, reduceCtorEq, eA, o1, o2]
          repeat ((first | refine call0 100 trivial trivial (by first | exact ca | exact cl | exact gr | exact cn2) (by first | exact .inl rfl | exact .inr rfl) (fun A eA => ?_) | refine call1 100 trivial trivial (by first | exact ca | exact cl | exact gr | exact cn2) (fun A eA => ?_)); simp (disch := first | omega | (simp only [avs_len, List.length_cons, List.length_append, List.length_nil, List.length_take, List.length_drop, List.length_map]; omega) | (simp only [cells, scal1, allSz, List.length_cons, List.length_nil, List.length_append, List.length_map, List.all_cons, List.all_nil, avs_len, beq_self_eq_true, Bool.and_self, and_self, or_true, true_or, reduceCtorEq, *]; done) | fail) only [c_event_fill, go_sem, Nat.reduceAdd, Nat.reduceSub, Nat.reduceMul, Nat.reduceLT, Nat.reduceLeDiff, Int.reduceToNat, Nat.reduceEqDiff, Nat.reduceBEq, ↓reduceIte, reduceCtorEq, eA, E.leaf, o1, o2, emx])
          exact doneG rfl
        · rw [if_neg h2]
          rw [Bool.not_eq_true] at h2
          rw [h2] at o2
          have cn := xnode_calls n (fillE il l) (fillE ir r) (by omega)
          rw [tv_of o1] at cl
          rw [tv_of o2] at cr
          simp (disch := first | omega | (simp only [avs_len, List.length_cons, List.length_append, List.length_nil, List.length_take, List.length_drop, List.length_map]; omega) | (simp only [cells, scal1, allSz, List.length_cons, List.length_nil, List.length_append, List.length_map, List.all_cons, List.all_nil, avs_len, beq_self_eq_true, Bool.and_self, and_self, or_true, true_or, reduceCtorEq, *]; done) | fail) only [c_event_fill, go_sem, Nat.reduceAdd, Nat.reduceSub, Nat.reduceMul, Nat.reduceLT, Nat.reduceLeDiff, Int.reduceToNat, Nat.reduceEqDiff, Nat.reduceBEq, ↓reduceIte, reduceCtorEq, eA, o1, o2]
          repeat ((first | refine call0 100 trivial trivial (by first | exact ca | exact cl | exact cr | exact cn) (by first | exact .inl rfl | exact .inr rfl) (fun A eA => ?_) | refine call1 100 trivial trivial (by first | exact ca | exact cl | exact cr | exact cn) (fun A eA => ?_)); simp (disch := first | omega | (simp only [avs_len, List.length_cons, List.length_append, List.length_nil, List.length_take, List.length_drop, List.length_map]; omega) | (simp only [cells, scal1, allSz, List.length_cons, List.length_nil, List.length_append, List.length_map, List.all_cons, List.all_nil, avs_len, beq_self_eq_true, Bool.and_self, and_self, or_true, true_or, reduceCtorEq, *]; done) | fail) only [c_event_fill, go_sem, Nat.reduceAdd, Nat.reduceSub, Nat.reduceMul, Nat.reduceLT, Nat.reduceLeDiff, Int.reduceToNat, Nat.reduceEqDiff, Nat.reduceBEq, ↓reduceIte, reduceCtorEq, eA, E.leaf, o1, o2])
          exact doneG rfl
end Go.Proofs.Ytmokhopjnjecbab
/- The walk through grow. -/
-- short
-- fuel 300
namespace Go.Proofs.Ytmokhopjnjecbab
open Go.Ev
set_option linter.unusedVariables false
set_option linter.unusedSimpArgs false
set_option maxRecDepth 100000
set_option maxHeartbeats 3200000

theorem growE_top : ∀ (i : B) (e : E), (growE i e).1.top ≤ e.top + 1
  | .lf o, e => by simp only [growE, E.lift_top]; exact Nat.le_refl _
  | .nd il ir, e => by
    obtain ⟨h1, h2⟩ := splitE_top e
    have hl := growE_top il (splitE e).2.2.1
    have hr := growE_top ir (splitE e).2.2.2
    simp only [growE]
    split
    · rw [nodeE_top]; omega
    · split
      · rw [nodeE_top]; omega
      · split
        · rw [nodeE_top]; omega
        · rw [nodeE_top]; omega
theorem growE_1 {il ir : B} {e : E} (h1 : il.none = true) : growE (.nd il ir) e = (nodeE (splitE e).2.1 (splitE e).2.2.1 (growE ir (splitE e).2.2.2).1, (growE ir (splitE e).2.2.2).2 + 1 + (splitE e).1) := by
  simp only [growE]; rw [if_pos h1]
theorem growE_2 {il ir : B} {e : E} (h1 : ¬ il.none = true) (h2 : ir.none = true) : growE (.nd il ir) e = (nodeE (splitE e).2.1 (growE il (splitE e).2.2.1).1 (splitE e).2.2.2, (growE il (splitE e).2.2.1).2 + 1 + (splitE e).1) := by
  simp only [growE]; rw [if_neg h1, if_pos h2]
theorem growE_3 {il ir : B} {e : E} (h1 : ¬ il.none = true) (h2 : ¬ ir.none = true) (h3 : (growE il (splitE e).2.2.1).2 < (growE ir (splitE e).2.2.2).2) : growE (.nd il ir) e = (nodeE (splitE e).2.1 (growE il (splitE e).2.2.1).1 (splitE e).2.2.2, (growE il (splitE e).2.2.1).2 + 1 + (splitE e).1) := by
  simp only [growE]; rw [if_neg h1, if_neg h2, if_pos h3]
theorem growE_4 {il ir : B} {e : E} (h1 : ¬ il.none = true) (h2 : ¬ ir.none = true) (h3 : ¬ (growE il (splitE e).2.2.1).2 < (growE ir (splitE e).2.2.2).2) : growE (.nd il ir) e = (nodeE (splitE e).2.1 (splitE e).2.2.1 (growE ir (splitE e).2.2.2).1, (growE ir (splitE e).2.2.2).2 + 1 + (splitE e).1) := by
  simp only [growE]; rw [if_neg h1, if_neg h2, if_neg h3]
theorem wrap_two (a : Nat) (m : Int) (n : Nat) (h : a ≤ 8008) (hm : m = (n : Int)) (hn : n ≤ 1000) : IntKind.i64.wrap (IntKind.i64.wrap ((a : Int) + 1) + m) = ((a + 1 + n : Nat) : Int) := by
  rw [wrap64 (z := (a : Int) + 1) (by omega) (by omega), wrap64 (by omega) (by omega)]; omega
theorem nothing_b (b : B) : PCalls Try.prog F_ident_Nothing [tv b.t] (.bool b.none) := by
  have h := nothing_calls b.t
  cases b with
  | lf o => exact h
  | nd l r => exact h
theorem xlift1 (e : E) (h : e.top < 2 ^ 59) : PCalls Try.prog F_event_lift [xtv e.t, .int .i64 1] (xtv (e.lift 1).t) := by
  have := e.top_n
  have c := xlift_calls e 1 (e.n + 1) (by omega) (by omega) (by omega)
  rw [← xtv_lift] at c
  exact c
theorem xgrow_calls : ∀ (d : Nat) (i : B) (e : E), d ≤ 8 → i.dep ≤ d → e.top < 2 ^ 59 → PCalls Try.prog F_event_grow [tv i.t, xtv e.t] (.tup [xtv (growE i e).1.t, .int .i64 ((growE i e).2 : Nat)]) := by
  intro d
  induction d with
  | zero => intro i e _ h; have := i.dep_pos; omega
  | succ d ih =>
    intro i e hd8 hd he
    cases i with
    | lf o =>
      rw [tv_lf]
      have cl := xlift1 e he
      show PCalls Try.prog F_event_grow _ (.tup [xtv (e.lift 1).t, .int .i64 0])
      refine calls_event_grow (walk0 300 trivial (fun A eA => ?_))
      simp (disch := first | omega | (simp only [avs_len, List.length_cons, List.length_append, List.length_nil, List.length_take, List.length_drop, List.length_map]; omega) | (simp only [cells, scal1, allSz, List.length_cons, List.length_nil, List.length_append, List.length_map, List.all_cons, List.all_nil, avs_len, beq_self_eq_true, Bool.and_self, and_self, or_true, true_or, reduceCtorEq, *]; done) | fail) only [c_event_grow, go_sem, Nat.reduceAdd, Nat.reduceSub, Nat.reduceMul, Nat.reduceLT, Nat.reduceLeDiff, Int.reduceToNat, Nat.reduceEqDiff, Nat.reduceBEq, ↓reduceIte, reduceCtorEq, eA]
      repeat ((first | refine call0 300 trivial trivial (by first | exact cl) (by first | exact .inl rfl | exact .inr rfl) (fun A eA => ?_) | refine call1 300 trivial trivial (by first | exact cl) (fun A eA => ?_)); simp (disch := first | omega | (simp only [avs_len, List.length_cons, List.length_append, List.length_nil, List.length_take, List.length_drop, List.length_map]; omega) | (simp only [cells, scal1, allSz, List.length_cons, List.length_nil, List.length_append, List.length_map, List.all_cons, List.all_nil, avs_len, beq_self_eq_true, Bool.and_self, and_self, or_true, true_or, reduceCtorEq, *]; done) | fail) only [c_event_grow, go_sem, Nat.reduceAdd, Nat.reduceSub, Nat.reduceMul, Nat.reduceLT, Nat.reduceLeDiff, Int.reduceToNat, Nat.reduceEqDiff, Nat.reduceBEq, ↓reduceIte, reduceCtorEq, eA])
      exact doneG rfl
    | nd il ir =>
      simp only [B.dep] at hd
      rw [tv_nd]
      obtain ⟨s1, s2⟩ := splitE_top e
      have cl := ih il (splitE e).2.2.1 (by omega) (by omega) (by omega)
      have cr := ih ir (splitE e).2.2.2 (by omega) (by omega) (by omega)
      have tl := growE_top il (splitE e).2.2.1
      have tr := growE_top ir (splitE e).2.2.2
      have pl := growE_price d il (splitE e).2.2.1 (by omega)
      have pr := growE_price d ir (splitE e).2.2.2 (by omega)
      have n1 := nothing_b il
      have n2 := nothing_b ir
      have ca := xleaf_b e
      have kl := xnode_calls (splitE e).2.1 (growE il (splitE e).2.2.1).1 (splitE e).2.2.2 (by omega)
      have kr := xnode_calls (splitE e).2.1 (splitE e).2.2.1 (growE ir (splitE e).2.2.2).1 (by omega)
      have bl : (growE il (splitE e).2.2.1).2 ≤ 8008 := by omega
      have br : (growE ir (splitE e).2.2.2).2 ≤ 8008 := by omega
      cases e with
      | lf n =>
        simp only [splitE] at cl cr kl kr bl br
        have wl := wrap_two _ 1000 1000 bl rfl (by omega)
        have wr := wrap_two _ 1000 1000 br rfl (by omega)
        rw [xtv_lf] at ca
        show PCalls Try.prog F_event_grow [_, AV.agg [.int .i64 (n : Nat), .fz 2 (xtavs []) none]] _
        simp only [xtavs]
        have cl : PCalls Try.prog F_event_grow [tv il.t, .agg [.int .i64 0, .nils]] _ := PCalls.arg [tv il.t] (xwk_leaf 0) cl
        have cr : PCalls Try.prog F_event_grow [tv ir.t, .agg [.int .i64 0, .nils]] _ := PCalls.arg [tv ir.t] (xwk_leaf 0) cr
        have kl : PCalls Try.prog F_event_node [.int .i64 (n : Nat), xtv (growE il (E.lf 0)).1.t, .agg [.int .i64 0, .nils]] _ := PCalls.arg [.int .i64 (n : Nat), xtv (growE il (E.lf 0)).1.t] (xwk_leaf 0) kl
        have kr : PCalls Try.prog F_event_node [.int .i64 (n : Nat), .agg [.int .i64 0, .nils], xtv (growE ir (E.lf 0)).1.t] _ := PCalls.arg [.int .i64 (n : Nat)] (xwk_leaf 0) kr
        refine calls_event_grow (walk0 300 trivial (fun A eA => ?_))
        by_cases h1 : il.none = true
        · rw [growE_1 h1]
          rw [h1] at n1
          simp (disch := first | omega | (simp only [avs_len, List.length_cons, List.length_append, List.length_nil, List.length_take, List.length_drop, List.length_map]; omega) | (simp only [cells, scal1, allSz, List.length_cons, List.length_nil, List.length_append, List.length_map, List.all_cons, List.all_nil, avs_len, beq_self_eq_true, Bool.and_self, and_self, or_true, true_or, reduceCtorEq, *]; done) | fail) only [c_event_grow, go_sem, Nat.reduceAdd, Nat.reduceSub, Nat.reduceMul, Nat.reduceLT, Nat.reduceLeDiff, Int.reduceToNat, Nat.reduceEqDiff, Nat.reduceBEq, ↓reduceIte, reduceCtorEq, eA]
          repeat ((first | refine call0 300 trivial trivial (by first | exact ca | exact n1 | exact cr | exact kr) (by first | exact .inl rfl | exact .inr rfl) (fun A eA => ?_) | refine call1 300 trivial trivial (by first | exact ca | exact n1 | exact cr | exact kr) (fun A eA => ?_)); simp (disch := first | omega | (simp only [avs_len, List.length_cons, List.length_append, List.length_nil, List.length_take, List.length_drop, List.length_map]; omega) | (simp only [cells, scal1, allSz, List.length_cons, List.length_nil, List.length_append, List.length_map, List.all_cons, List.all_nil, avs_len, beq_self_eq_true, Bool.and_self, and_self, or_true, true_or, reduceCtorEq, *]; done) | fail) only [c_event_grow, go_sem, Nat.reduceAdd, Nat.reduceSub, Nat.reduceMul, Nat.reduceLT, Nat.reduceLeDiff, Int.reduceToNat, Nat.reduceEqDiff, Nat.reduceBEq, ↓reduceIte, reduceCtorEq, eA, E.leaf, wr])
          exact doneG rfl
        · have h1n := h1
          rw [Bool.not_eq_true] at h1
          rw [h1] at n1
          by_cases h2 : ir.none = true
          · rw [growE_2 h1n h2]
            rw [h2] at n2
            simp (disch := first | omega | (simp only [avs_len, List.length_cons, List.length_append, List.length_nil, List.length_take, List.length_drop, List.length_map]; omega) | (simp only [cells, scal1, allSz, List.length_cons, List.length_nil, List.length_append, List.length_map, List.all_cons, List.all_nil, avs_len, beq_self_eq_true, Bool.and_self, and_self, or_true, true_or, reduceCtorEq, *]; done) | fail) only [c_event_grow, go_sem, Nat.reduceAdd, Nat.reduceSub, Nat.reduceMul, Nat.reduceLT, Nat.reduceLeDiff, Int.reduceToNat, Nat.reduceEqDiff, Nat.reduceBEq, ↓reduceIte, reduceCtorEq, eA]
            repeat ((first | refine call0 300 trivial trivial (by first | exact ca | exact n1 | exact n2 | exact cl | exact kl) (by first | exact .inl rfl | exact .inr rfl) (fun A eA => ?_) | refine call1 300 trivial trivial (by first | exact ca | exact n1 | exact n2 | exact cl | exact kl) (fun A eA => ?_)); simp (disch := first | omega | (simp only [avs_len, List.length_cons, List.length_append, List.length_nil, List.length_take, List.length_drop, List.length_map]; omega) | (simp only [cells, scal1, allSz, List.length_cons, List.length_nil, List.length_append, List.length_map, List.all_cons, List.all_nil, avs_len, beq_self_eq_true, Bool.and_self, and_self, or_true, true_or, reduceCtorEq, *]; done) | fail) only [c_event_grow, go_sem, Nat.reduceAdd, Nat.reduceSub, Nat.reduceMul, Nat.reduceLT, Nat.reduceLeDiff, Int.reduceToNat, Nat.reduceEqDiff, Nat.reduceBEq, ↓reduceIte, reduceCtorEq, eA, E.leaf, wl])
            exact doneG rfl
          · have h2n := h2
            rw [Bool.not_eq_true] at h2
            rw [h2] at n2
            by_cases h3 : (growE il (E.lf 0)).2 < (growE ir (E.lf 0)).2
            · rw [growE_3 (e := E.lf n) h1n h2n h3]
              have h3' : (((growE il (E.lf 0)).2 : Nat) : Int) < (((growE ir (E.lf 0)).2 : Nat) : Int) := by omega
              simp (disch := first | omega | (simp only [avs_len, List.length_cons, List.length_append, List.length_nil, List.length_take, List.length_drop, List.length_map]; omega) | (simp only [cells, scal1, allSz, List.length_cons, List.length_nil, List.length_append, List.length_map, List.all_cons, List.all_nil, avs_len, beq_self_eq_true, Bool.and_self, and_self, or_true, true_or, reduceCtorEq, *]; done) | fail) only [c_event_grow, go_sem, Nat.reduceAdd, Nat.reduceSub, Nat.reduceMul, Nat.reduceLT, Nat.reduceLeDiff, Int.reduceToNat, Nat.reduceEqDiff, Nat.reduceBEq, ↓reduceIte, reduceCtorEq, eA]
              repeat ((first | refine call0 300 trivial trivial (by first | exact ca | exact n1 | exact n2 | exact cl | exact cr | exact kl) (by first | exact .inl rfl | exact .inr rfl) (fun A eA => ?_) | refine call1 300 trivial trivial (by first | exact ca | exact n1 | exact n2 | exact cl | exact cr | exact kl) (fun A eA => ?_)); simp (disch := first | omega | (simp only [avs_len, List.length_cons, List.length_append, List.length_nil, List.length_take, List.length_drop, List.length_map]; omega) | (simp only [cells, scal1, allSz, List.length_cons, List.length_nil, List.length_append, List.length_map, List.all_cons, List.all_nil, avs_len, beq_self_eq_true, Bool.and_self, and_self, or_true, true_or, reduceCtorEq, *]; done) | fail) only [c_event_grow, go_sem, Nat.reduceAdd, Nat.reduceSub, Nat.reduceMul, Nat.reduceLT, Nat.reduceLeDiff, Int.reduceToNat, Nat.reduceEqDiff, Nat.reduceBEq, ↓reduceIte, reduceCtorEq, eA, E.leaf, wl, h3'])
              exact doneG rfl
            · rw [growE_4 (e := E.lf n) h1n h2n h3]
              have h3' : ¬ (((growE il (E.lf 0)).2 : Nat) : Int) < (((growE ir (E.lf 0)).2 : Nat) : Int) := by omega
              simp (disch := first | omega | (simp only [avs_len, List.length_cons, List.length_append, List.length_nil, List.length_take, List.length_drop, List.length_map]; omega) | (simp only [cells, scal1, allSz, List.length_cons, List.length_nil, List.length_append, List.length_map, List.all_cons, List.all_nil, avs_len, beq_self_eq_true, Bool.and_self, and_self, or_true, true_or, reduceCtorEq, *]; done) | fail) only [c_event_grow, go_sem, Nat.reduceAdd, Nat.reduceSub, Nat.reduceMul, Nat.reduceLT, Nat.reduceLeDiff, Int.reduceToNat, Nat.reduceEqDiff, Nat.reduceBEq, ↓reduceIte, reduceCtorEq, eA]
              repeat ((first | refine call0 300 trivial trivial (by first | exact ca | exact n1 | exact n2 | exact cl | exact cr | exact kr) (by first | exact .inl rfl | exact .inr rfl) (fun A eA => ?_) | refine call1 300 trivial trivial (by first | exact ca | exact n1 | exact n2 | exact cl | exact cr | exact kr) (fun A eA => ?_)); simp (disch := first | omega | (simp only [avs_len, List.length_cons, List.length_append, List.length_nil, List.length_take, List.length_drop, List.length_map]; omega) | (simp only [cells, scal1, allSz, List.length_cons, List.length_nil, List.length_append, List.length_map, List.all_cons, List.all_nil, avs_len, beq_self_eq_true, Bool.and_self, and_self, or_true, true_or, reduceCtorEq, *]; done) | fail) only [c_event_grow, go_sem, Nat.reduceAdd, Nat.reduceSub, Nat.reduceMul, Nat.reduceLT, Nat.reduceLeDiff, Int.reduceToNat, Nat.reduceEqDiff, Nat.reduceBEq, ↓reduceIte, reduceCtorEq, eA, E.leaf, wr, h3'])
              exact doneG rfl
      | nd n l r =>
        simp only [splitE] at cl cr kl kr bl br
        have wl := wrap_two _ 0 0 bl rfl (by omega)
        have wr := wrap_two _ 0 0 br rfl (by omega)
        rw [xtv_nd] at ca
        show PCalls Try.prog F_event_grow [_, AV.agg [.int .i64 (n : Nat), .fz 2 (xtavs [l.t, r.t]) none]] _
        simp only [xtavs, xtav_tv]
        refine calls_event_grow (walk0 300 trivial (fun A eA => ?_))
        by_cases h1 : il.none = true
        · rw [growE_1 h1]
          rw [h1] at n1
          simp (disch := first | omega | (simp only [avs_len, List.length_cons, List.length_append, List.length_nil, List.length_take, List.length_drop, List.length_map]; omega) | (simp only [cells, scal1, allSz, List.length_cons, List.length_nil, List.length_append, List.length_map, List.all_cons, List.all_nil, avs_len, beq_self_eq_true, Bool.and_self, and_self, or_true, true_or, reduceCtorEq, *]; done) | fail) only [c_event_grow, go_sem, Nat.reduceAdd, Nat.reduceSub, Nat.reduceMul, Nat.reduceLT, Nat.reduceLeDiff, Int.reduceToNat, Nat.reduceEqDiff, Nat.reduceBEq, ↓reduceIte, reduceCtorEq, eA]
          repeat ((first | refine call0 300 trivial trivial (by first | exact ca | exact n1 | exact cr | exact kr) (by first | exact .inl rfl | exact .inr rfl) (fun A eA => ?_) | refine call1 300 trivial trivial (by first | exact ca | exact n1 | exact cr | exact kr) (fun A eA => ?_)); simp (disch := first | omega | (simp only [avs_len, List.length_cons, List.length_append, List.length_nil, List.length_take, List.length_drop, List.length_map]; omega) | (simp only [cells, scal1, allSz, List.length_cons, List.length_nil, List.length_append, List.length_map, List.all_cons, List.all_nil, avs_len, beq_self_eq_true, Bool.and_self, and_self, or_true, true_or, reduceCtorEq, *]; done) | fail) only [c_event_grow, go_sem, Nat.reduceAdd, Nat.reduceSub, Nat.reduceMul, Nat.reduceLT, Nat.reduceLeDiff, Int.reduceToNat, Nat.reduceEqDiff, Nat.reduceBEq, ↓reduceIte, reduceCtorEq, eA, E.leaf, wr])
          exact doneG rfl
        · have h1n := h1
          rw [Bool.not_eq_true] at h1
          rw [h1] at n1
          by_cases h2 : ir.none = true
          · rw [growE_2 h1n h2]
            rw [h2] at n2
            simp (disch := first | omega | (simp only [avs_len, List.length_cons, List.length_append, List.length_nil, List.length_take, List.length_drop, List.length_map]; omega) | (simp only [cells, scal1, allSz, List.length_cons, List.length_nil, List.length_append, List.length_map, List.all_cons, List.all_nil, avs_len, beq_self_eq_true, Bool.and_self, and_self, or_true, true_or, reduceCtorEq, *]; done) | fail) only [c_event_grow, go_sem, Nat.reduceAdd, Nat.reduceSub, Nat.reduceMul, Nat.reduceLT, Nat.reduceLeDiff, Int.reduceToNat, Nat.reduceEqDiff, Nat.reduceBEq, ↓reduceIte, reduceCtorEq, eA]
            repeat ((first | refine call0 300 trivial trivial (by first | exact ca | exact n1 | exact n2 | exact cl | exact kl) (by first | exact .inl rfl | exact .inr rfl) (fun A eA => ?_) | refine call1 300 trivial trivial (by first | exact ca | exact n1 | exact n2 | exact cl | exact kl) (fun A eA => ?_)); simp (disch := first | omega | (simp only [avs_len, List.length_cons, List.length_append, List.length_nil, List.length_take, List.length_drop, List.length_map]; omega) | (simp only [cells, scal1, allSz, List.length_cons, List.length_nil, List.length_append, List.length_map, List.all_cons, List.all_nil, avs_len, beq_self_eq_true, Bool.and_self, and_self, or_true, true_or, reduceCtorEq, *]; done) | fail) only [c_event_grow, go_sem, Nat.reduceAdd, Nat.reduceSub, Nat.reduceMul, Nat.reduceLT, Nat.reduceLeDiff, Int.reduceToNat, Nat.reduceEqDiff, Nat.reduceBEq, ↓reduceIte, reduceCtorEq, eA, E.leaf, wl])
            exact doneG rfl
          · have h2n := h2
            rw [Bool.not_eq_true] at h2
            rw [h2] at n2
            by_cases h3 : (growE il l).2 < (growE ir r).2
            · rw [growE_3 (e := E.nd n l r) h1n h2n h3]
              have h3' : (((growE il l).2 : Nat) : Int) < (((growE ir r).2 : Nat) : Int) := by omega
              simp (disch := first | omega | (simp only [avs_len, List.length_cons, List.length_append, List.length_nil, List.length_take, List.length_drop, List.length_map]; omega) | (simp only [cells, scal1, allSz, List.length_cons, List.length_nil, List.length_append, List.length_map, List.all_cons, List.all_nil, avs_len, beq_self_eq_true, Bool.and_self, and_self, or_true, true_or, reduceCtorEq, *]; done) | fail) only [c_event_grow, go_sem, Nat.reduceAdd, Nat.reduceSub, Nat.reduceMul, Nat.reduceLT, Nat.reduceLeDiff, Int.reduceToNat, Nat.reduceEqDiff, Nat.reduceBEq, ↓reduceIte, reduceCtorEq, eA]
              repeat ((first | refine call0 300 trivial trivial (by first | exact ca | exact n1 | exact n2 | exact cl | exact cr | exact kl) (by first | exact .inl rfl | exact .inr rfl) (fun A eA => ?_) | refine call1 300 trivial trivial (by first | exact ca | exact n1 | exact n2 | exact cl | exact cr | exact kl) (fun A eA => ?_)); simp (disch := first | omega | (simp only [avs_len, List.length_cons, List.length_append, List.length_nil, List.length_take, List.length_drop, List.length_map]; omega) | (simp only [cells, scal1, allSz, List.length_cons, List.length_nil, List.length_append, List.length_map, List.all_cons, List.all_nil, avs_len, beq_self_eq_true, Bool.and_self, and_self, or_true, true_or, reduceCtorEq, *]; done) | fail) only [c_event_grow, go_sem, Nat.reduceAdd, Nat.reduceSub, Nat.reduceMul, Nat.reduceLT, Nat.reduceLeDiff, Int.reduceToNat, Nat.reduceEqDiff, Nat.reduceBEq, ↓reduceIte, reduceCtorEq, eA, E.leaf, wl, h3'])
              exact doneG rfl
            · rw [growE_4 (e := E.nd n l r) h1n h2n h3]
              have h3' : ¬ (((growE il l).2 : Nat) : Int) < (((growE ir r).2 : Nat) : Int) := by omega
              simp (disch := first | omega | (simp only [avs_len, List.length_cons, List.length_append, List.length_nil, List.length_take, List.length_drop, List.length_map]; omega) | (simp only [cells, scal1, allSz, List.length_cons, List.length_nil, List.length_append, List.length_map, List.all_cons, List.all_nil, avs_len, beq_self_eq_true, Bool.and_self, and_self, or_true, true_or, reduceCtorEq, *]; done) | fail) only [c_event_grow, go_sem, Nat.reduceAdd, Nat.reduceSub, Nat.reduceMul, Nat.reduceLT, Nat.reduceLeDiff, Int.reduceToNat, Nat.reduceEqDiff, Nat.reduceBEq, ↓reduceIte, reduceCtorEq, eA]
              repeat ((first | refine call0 300 trivial trivial (by first | exact ca | exact n1 | exact n2 | exact cl | exact cr | exact kr) (by first | exact .inl rfl | exact .inr rfl) (fun A eA => ?_) | refine call1 300 trivial trivial (by first | exact ca | exact n1 | exact n2 | exact cl | exact cr | exact kr) (fun A eA => ?_)); simp (disch := first | omega | (simp only [avs_len, List.length_cons, List.length_append, List.length_nil, List.length_take, List.length_drop, List.length_map]; omega) | (simp only [cells, scal1, allSz, List.length_cons, List.length_nil, List.length_append, List.length_map, List.all_cons, List.all_nil, avs_len, beq_self_eq_true, Bool.and_self, and_self, or_true, true_or, reduceCtorEq, *]; done) | fail) only [c_event_grow, go_sem, Nat.reduceAdd, Nat.reduceSub, Nat.reduceMul, Nat.reduceLT, Nat.reduceLeDiff, Int.reduceToNat, Nat.reduceEqDiff, Nat.reduceBEq, ↓reduceIte, reduceCtorEq, eA, E.leaf, wr, h3'])
              exact doneG rfl
end Go.Proofs.Ytmokhopjnjecbab
/- Filling and growing tell more just where the identity has places: plain. -/
namespace Go.Ev
set_option linter.unusedVariables false
set_option linter.unnecessarySimpa false
set_option linter.unusedSimpArgs false

/-- An identity's places. -/
def rowsG : Nat → B → List Bool
  | d, .lf o => List.replicate (2 ^ d) o
  | 0, .nd l r => [false]
  | d + 1, .nd l r => rowsG d l ++ rowsG d r
theorem rowsG_lf (d : Nat) (o : Bool) : rowsG d (.lf o) = List.replicate (2 ^ d) o := by cases d <;> rfl
theorem rowsG_len : ∀ (d : Nat) (b : B), (rowsG d b).length = 2 ^ d
  | d, .lf o => by rw [rowsG_lf]; simp
  | 0, .nd l r => by simp [rowsG]
  | d + 1, .nd l r => by simp only [rowsG, List.length_append, rowsG_len, Nat.pow_succ]; omega
/-- Nowhere less, and more only where it may be. -/
def upR : List Bool → List Nat → List Nat → Bool
  | m :: ms, x :: xs, y :: ys => decide (x ≤ y) && (m || decide (y ≤ x)) && upR ms xs ys
  | [], [], [] => true
  | _, _, _ => false
theorem upR_refl : ∀ (ms : List Bool) (xs : List Nat), ms.length = xs.length → upR ms xs xs = true
  | [], [], _ => rfl
  | m :: ms, x :: xs, h => by simp [upR, upR_refl ms xs (by simpa using h)]
  | [], _ :: _, h => by simp at h
  | _ :: _, [], h => by simp at h
theorem upR_append : ∀ (ms ms2 : List Bool) (xs xs2 ys ys2 : List Nat), upR ms xs ys = true → upR ms2 xs2 ys2 = true → upR (ms ++ ms2) (xs ++ xs2) (ys ++ ys2) = true
  | [], ms2, [], xs2, [], ys2, _, h => h
  | m :: ms, ms2, x :: xs, xs2, y :: ys, ys2, h, h2 => by
    simp only [upR, Bool.and_eq_true] at h
    simp only [List.cons_append, upR, Bool.and_eq_true]
    exact ⟨h.1, upR_append ms ms2 xs xs2 ys ys2 h.2 h2⟩
  | [], _, [], _, _ :: _, _, h, _ => by simp [upR] at h
  | [], _, _ :: _, _, _, _, h, _ => by simp [upR] at h
  | _ :: _, _, [], _, _, _, h, _ => by simp [upR] at h
  | _ :: _, _, _ :: _, _, [], _, h, _ => by simp [upR] at h
theorem upR_all : ∀ (xs ys : List Nat), xs.length = ys.length → (∀ (j : Nat) x y, xs[j]? = some x → ys[j]? = some y → x ≤ y) → upR (List.replicate xs.length true) xs ys = true
  | [], [], _, _ => rfl
  | x :: xs, y :: ys, h, hh => by
    simp only [List.length_cons, List.replicate_succ, upR, Bool.true_or, Bool.and_true, Bool.and_eq_true, decide_eq_true_eq]
    exact ⟨hh 0 x y rfl rfl, upR_all xs ys (by simpa using h) (fun j a b ha hb => hh (j + 1) a b (by simpa using ha) (by simpa using hb))⟩
  | [], _ :: _, h, _ => by simp at h
  | _ :: _, [], h, _ => by simp at h
theorem upR_rep {xs : List Nat} {n c : Nat} (hl : xs.length = n) (h : ∀ x ∈ xs, x ≤ c) : upR (List.replicate n true) xs (List.replicate n c) = true := by
  subst hl
  refine upR_all _ _ (by simp) (fun j x y hx hy => ?_)
  have h1 := List.mem_of_getElem? hx
  have h2 := List.mem_of_getElem? hy
  rw [List.eq_of_mem_replicate h2]
  exact h x h1
theorem fillR_len : ∀ (i : B) (row : List Nat), (∃ d, row.length = 2 ^ d ∧ i.dep ≤ d + 1) → (fillR i row).length = row.length
  | .lf o, row, _ => by simp only [fillR]; split <;> simp
  | .nd il ir, row, ⟨d, h, hd⟩ => by
    simp only [B.dep] at hd
    match d with
    | 0 => have := il.dep_pos; omega
    | d + 1 =>
      have hp : 2 ^ (d + 1) = 2 ^ d + 2 ^ d := by rw [Nat.pow_succ]; omega
      have h1 : (row.take (row.length / 2)).length = 2 ^ d := by rw [List.length_take]; omega
      have h2 : (row.drop (row.length / 2)).length = 2 ^ d := by rw [List.length_drop]; omega
      have il1 := fillR_len il _ ⟨d, h1, by omega⟩
      have ir1 := fillR_len ir _ ⟨d, h2, by omega⟩
      simp only [fillR]
      split
      · rfl
      · split
        · simp only [List.length_append, List.length_replicate, ir1, h2]; omega
        · split
          · simp only [List.length_append, List.length_replicate, il1, h1]; omega
          · simp only [List.length_append, il1, ir1, h1, h2]; omega
theorem fill_up : ∀ (d : Nat) (i : B) (row : List Nat), row.length = 2 ^ d → i.dep ≤ d + 1 → upR (rowsG d i) row (fillR i row) = true
  | d, .lf o, row, h, _ => by
    rw [rowsG_lf]
    simp only [fillR]
    cases o with
    | true => rw [if_pos rfl, h]; exact upR_rep h (fun x hx => mostR_ge x hx)
    | false => rw [if_neg (by simp)]; exact upR_refl _ _ (by simp [h])
  | 0, .nd il ir, row, h, hd => by have := il.dep_pos; simp only [B.dep] at hd; omega
  | d + 1, .nd il ir, row, h, hd => by
    simp only [B.dep] at hd
    have hp : 2 ^ (d + 1) = 2 ^ d + 2 ^ d := by rw [Nat.pow_succ]; omega
    have h1 : (row.take (row.length / 2)).length = 2 ^ d := by rw [List.length_take]; omega
    have h2 : (row.drop (row.length / 2)).length = 2 ^ d := by rw [List.length_drop]; omega
    have hh : row.length / 2 = 2 ^ d := by omega
    have il1 := fill_up d il _ h1 (by omega)
    have ir1 := fill_up d ir _ h2 (by omega)
    have e : row = row.take (row.length / 2) ++ row.drop (row.length / 2) := (List.take_append_drop _ _).symm
    simp only [fillR]
    split
    · exact upR_refl _ _ (by rw [rowsG_len, h])
    · simp only [rowsG]
      split
      · rename_i ho
        rw [B.one_lf ho, rowsG_lf]
        conv => lhs; arg 2; rw [e]
        refine upR_append _ _ _ _ _ _ ?_ ir1
        rw [hh] at h1 ⊢
        exact upR_rep h1 (fun x hx => Nat.le_trans (mostR_ge x hx) (Nat.le_max_left _ _))
      · split
        · rename_i ho
          rw [B.one_lf ho, rowsG_lf]
          conv => lhs; arg 2; rw [e]
          refine upR_append _ _ _ _ _ _ il1 ?_
          rw [hh] at h2 ⊢
          exact upR_rep h2 (fun x hx => Nat.le_trans (mostR_ge x hx) (Nat.le_max_left _ _))
        · conv => lhs; arg 2; rw [e]
          exact upR_append _ _ _ _ _ _ il1 ir1
theorem flat_const : ∀ (i : B) (row : List Nat), (∃ d, row.length = 2 ^ d ∧ i.dep ≤ d + 1) → (∀ x ∈ row, ∀ y ∈ row, x = y) → flatR i row
  | .lf o, row, ⟨d, h, _⟩, hc => by
    intro _
    have hne : row ≠ [] := by intro q; rw [q] at h; have : 0 < 2 ^ d := Nat.pow_pos (by omega); simp at h; omega
    exact hc _ (leastR_mem hne) _ (mostR_mem hne)
  | .nd il ir, row, ⟨d, h, hd⟩, hc => by
    simp only [B.dep] at hd
    match d with
    | 0 => have := il.dep_pos; omega
    | d + 1 =>
      have hp : 2 ^ (d + 1) = 2 ^ d + 2 ^ d := by rw [Nat.pow_succ]; omega
      exact ⟨flat_const il _ ⟨d, by rw [List.length_take]; omega, by omega⟩ (fun x hx y hy => hc x (List.mem_of_mem_take hx) y (List.mem_of_mem_take hy)), flat_const ir _ ⟨d, by rw [List.length_drop]; omega, by omega⟩ (fun x hx y hy => hc x (List.mem_of_mem_drop hx) y (List.mem_of_mem_drop hy))⟩
theorem const_of {row : List Nat} (h : leastR row = mostR row) : ∀ x ∈ row, ∀ y ∈ row, x = y := by
  intro x hx y hy
  have := leastR_le x hx
  have := leastR_le y hy
  have := mostR_ge x hx
  have := mostR_ge y hy
  omega
theorem fill_flat : ∀ (d : Nat) (i : B) (row : List Nat), row.length = 2 ^ d → i.dep ≤ d + 1 → fillR i row = row → flatR i row
  | d, .lf o, row, h, hd, he => by
    intro ho
    simp only [fillR, ho, if_true] at he
    have hne : row ≠ [] := by intro q; rw [q] at h; have : 0 < 2 ^ d := Nat.pow_pos (by omega); simp at h; omega
    have hm := leastR_mem hne
    have hm2 : leastR row ∈ List.replicate row.length (mostR row) := by rw [he]; exact hm
    exact List.eq_of_mem_replicate hm2
  | 0, .nd il ir, row, h, hd, _ => by have := il.dep_pos; simp only [B.dep] at hd; omega
  | d + 1, .nd il ir, row, h, hd, he => by
    by_cases hc : leastR row = mostR row
    · exact flat_const _ _ ⟨d + 1, h, hd⟩ (const_of hc)
    · simp only [B.dep] at hd
      have hp : 2 ^ (d + 1) = 2 ^ d + 2 ^ d := by rw [Nat.pow_succ]; omega
      have h1 : (row.take (row.length / 2)).length = 2 ^ d := by rw [List.length_take]; omega
      have h2 : (row.drop (row.length / 2)).length = 2 ^ d := by rw [List.length_drop]; omega
      have hh : row.length / 2 = 2 ^ d := by omega
      have e : row = row.take (row.length / 2) ++ row.drop (row.length / 2) := (List.take_append_drop _ _).symm
      have l1 := fillR_len il _ ⟨d, h1, by omega⟩
      have l2 := fillR_len ir _ ⟨d, h2, by omega⟩
      simp only [fillR] at he
      rw [if_neg hc] at he
      have cflat : ∀ (q : List Nat) (c n : Nat), q.length = 2 ^ d → q = List.replicate n c → ∀ i : B, i.dep ≤ d + 1 → flatR i q := by
        intro q c n hq hqe i hi
        exact flat_const i q ⟨d, hq, hi⟩ (fun x hx y hy => by rw [hqe] at hx hy; rw [List.eq_of_mem_replicate hx, List.eq_of_mem_replicate hy])
      split at he
      · conv at he => rhs; rw [e]
        obtain ⟨a, b⟩ := List.append_inj he (by simp; omega)
        exact ⟨cflat _ _ _ h1 a.symm il (by omega), fill_flat d ir _ h2 (by omega) b⟩
      · split at he
        · conv at he => rhs; rw [e]
          obtain ⟨a, b⟩ := List.append_inj he (by rw [l1])
          exact ⟨fill_flat d il _ h1 (by omega) a, cflat _ _ _ h2 b.symm ir (by omega)⟩
        · conv at he => rhs; rw [e]
          obtain ⟨a, b⟩ := List.append_inj he (by rw [l1])
          exact ⟨fill_flat d il _ h1 (by omega) a, fill_flat d ir _ h2 (by omega) b⟩
theorem grow_up : ∀ (d : Nat) (i : B) (row : List Nat), row.length = 2 ^ d → i.short = true → i.dep ≤ d + 1 → i.none = false → flatR i row → upR (rowsG d i) row (growR i row).1 = true ∧ (growR i row).1 ≠ row ∧ (growR i row).1.length = row.length
  | d, .lf o, row, h, _, _, hn, hf => by
    have ho : o = true := by simpa [B.none] using hn
    subst ho
    have hne : row ≠ [] := by intro q; rw [q] at h; have : 0 < 2 ^ d := Nat.pow_pos (by omega); simp at h; omega
    have hc := const_of (hf rfl)
    obtain ⟨x, l, rfl⟩ := List.exists_cons_of_ne_nil hne
    rw [rowsG_lf]
    simp only [growR, List.headD_cons]
    refine ⟨?_, ?_, by simp⟩
    · rw [h]; exact upR_rep h (fun y hy => by rw [hc y hy x List.mem_cons_self]; omega)
    · simp only [List.length_cons, List.replicate_succ]
      intro q
      have := (List.cons.inj q).1
      omega
  | 0, .nd il ir, row, h, _, hd, _, _ => by have := il.dep_pos; simp only [B.dep] at hd; omega
  | d + 1, .nd il ir, row, h, hs, hd, _, hf => by
    have hs' := hs
    simp only [B.short, Bool.and_eq_true] at hs'
    simp only [B.dep] at hd
    have hp : 2 ^ (d + 1) = 2 ^ d + 2 ^ d := by rw [Nat.pow_succ]; omega
    have h1 : (row.take (row.length / 2)).length = 2 ^ d := by rw [List.length_take]; omega
    have h2 : (row.drop (row.length / 2)).length = 2 ^ d := by rw [List.length_drop]; omega
    have hh : row.length / 2 = 2 ^ d := by omega
    have e : row = row.take (row.length / 2) ++ row.drop (row.length / 2) := (List.take_append_drop _ _).symm
    have il1 := fun q => grow_up d il _ h1 hs'.1.1 (by omega) q hf.1
    have ir1 := fun q => grow_up d ir _ h2 hs'.1.2 (by omega) q hf.2
    have rl : upR (rowsG d il) (row.take (row.length / 2)) (row.take (row.length / 2)) = true := upR_refl _ _ (by rw [rowsG_len, h1])
    have rr : upR (rowsG d ir) (row.drop (row.length / 2)) (row.drop (row.length / 2)) = true := upR_refl _ _ (by rw [rowsG_len, h2])
    have R : il.none = false ∨ True → ∀ (a : List Nat), upR (rowsG d ir) (row.drop (row.length / 2)) a = true ∧ a ≠ row.drop (row.length / 2) ∧ a.length = (row.drop (row.length / 2)).length → upR (rowsG (d + 1) (.nd il ir)) row (row.take (row.length / 2) ++ a) = true ∧ row.take (row.length / 2) ++ a ≠ row ∧ (row.take (row.length / 2) ++ a).length = row.length := by
      intro _ a ha
      refine ⟨?_, ?_, ?_⟩
      · simp only [rowsG]; conv => lhs; arg 2; rw [e]
        exact upR_append _ _ _ _ _ _ rl ha.1
      · intro q; conv at q => rhs; rw [e]
        exact ha.2.1 (List.append_cancel_left q)
      · rw [List.length_append, ha.2.2, h1, h2]; omega
    have L : ∀ (a : List Nat), upR (rowsG d il) (row.take (row.length / 2)) a = true ∧ a ≠ row.take (row.length / 2) ∧ a.length = (row.take (row.length / 2)).length → upR (rowsG (d + 1) (.nd il ir)) row (a ++ row.drop (row.length / 2)) = true ∧ a ++ row.drop (row.length / 2) ≠ row ∧ (a ++ row.drop (row.length / 2)).length = row.length := by
      intro a ha
      refine ⟨?_, ?_, ?_⟩
      · simp only [rowsG]; conv => lhs; arg 2; rw [e]
        exact upR_append _ _ _ _ _ _ ha.1 rr
      · intro q; conv at q => rhs; rw [e]
        exact ha.2.1 (List.append_cancel_right q)
      · rw [List.length_append, ha.2.2, h1, h2]; omega
    simp only [growR]
    by_cases n1 : il.none = true
    · rw [if_pos n1]; exact R (.inr trivial) _ (ir1 (short_none hs n1))
    · by_cases n2 : ir.none = true
      · rw [if_neg n1, if_pos n2]; exact L _ (il1 (by simpa using n1))
      · rw [if_neg n1, if_neg n2]
        split
        · exact R (.inr trivial) _ (ir1 (by simpa using n2))
        · exact L _ (il1 (by simpa using n1))
end Go.Ev
/- The walks through the reference's flat and fill. -/
-- short
namespace Go.Proofs.Ytmokhopjnjecbab
open Go.Ev
set_option linter.unusedVariables false
set_option linter.unusedSimpArgs false
set_option maxRecDepth 100000
set_option maxHeartbeats 1600000

theorem catCells_ivs : ∀ ns : List Nat, catCells (ivs ns) = ivs ns
  | [] => rfl
  | n :: ns => by simp only [List.map_cons, catCells, cells, List.cons_append, List.nil_append]; rw [catCells_ivs ns]
theorem ivs_rep (n m : Nat) : ivs (List.replicate n m) = List.replicate n (AV.int .i64 (m : Nat)) := by simp
theorem refFlat_calls (m n : Nat) (hs : n < 2 ^ 30) : PCalls Try.prog F_ref04_flat [.int .i64 (m : Nat), .int .i64 (n : Nat)] (.fz 1 (ivs (List.replicate n m)) none) := by
  have hL : (ivs (List.replicate n m)).length = n := by simp
  have key : ∀ (r i : Nat), i + r = n → ∀ cs0 : List AV, cs0 = partR (ivs (List.replicate n m)) (.int .i64 0) i → ∀ nx : Ctr,
      RunsX Try.prog 0 (Gives [.t 4] (.fz 1 (ivs (List.replicate n m)) none)) (i_ref04_flat_0 ++ [.c c_ref04_flat_k0]) (s_ref04_flat_0 (.int .i64 (m : Nat)) (.sl 0 8 0 1 0 n) (.int .i64 (n : Nat)) (.int .i64 (i : Nat))) [(0, 8, 0, some cs0)] nx := by
    intro r
    induction r with
    | zero =>
      intro i hi cs0 hcs0 nx
      obtain rfl : i = n := by omega
      have e0 : cs0 = ivs (List.replicate i m) := by rw [hcs0]; have := partR_all (ivs (List.replicate i m)) (.int .i64 0); rwa [hL] at this
      subst e0
      have hi1 : ¬ ((i : Int) < (i : Int)) := by omega
      refine round (its := [.blk 0 wb_ref04_flat_0]) (k0 := [.c c_ref04_flat_k0]) 100 trivial trivial (fun A eA => ?_)
      simp (disch := first | omega | (simp only [avs_len, List.length_cons, List.length_append, List.length_nil, List.length_take, List.length_drop, List.length_map]; omega) | (simp only [cells, scal1, allSz, List.length_cons, List.length_nil, List.length_append, List.length_map, List.all_cons, List.all_nil, avs_len, beq_self_eq_true, Bool.and_self, and_self, or_true, true_or, reduceCtorEq, *]; done) | fail) only [c_ref04_flat, wl_ref04_flat_0, s_ref04_flat_0, c_ref04_flat_l0, wb_ref04_flat_0, c_ref04_flat_k0, go_sem, Nat.reduceAdd, Nat.reduceSub, Nat.reduceMul, Nat.reduceLT, Nat.reduceLeDiff, Int.reduceToNat, Nat.reduceEqDiff, Nat.reduceBEq, ↓reduceIte, reduceCtorEq, eA, hi1]
      refine walk0 (its := [.c c_ref04_flat_k0]) 100 trivial (fun A eA => ?_)
      simp (disch := first | omega | (simp only [avs_len, List.length_cons, List.length_append, List.length_nil, List.length_take, List.length_drop, List.length_map]; omega) | (simp only [cells, scal1, allSz, List.length_cons, List.length_nil, List.length_append, List.length_map, List.all_cons, List.all_nil, avs_len, beq_self_eq_true, Bool.and_self, and_self, or_true, true_or, reduceCtorEq, *]; done) | fail) only [c_ref04_flat, wl_ref04_flat_0, s_ref04_flat_0, c_ref04_flat_l0, wb_ref04_flat_0, c_ref04_flat_k0, go_sem, Nat.reduceAdd, Nat.reduceSub, Nat.reduceMul, Nat.reduceLT, Nat.reduceLeDiff, Int.reduceToNat, Nat.reduceEqDiff, Nat.reduceBEq, ↓reduceIte, reduceCtorEq, eA]
      refine doneG ?_
      have ht : List.take i (ivs (List.replicate i m)) = ivs (List.replicate i m) := List.take_of_length_le (by omega)
      simp (disch := first | omega | (simp only [avs_len, List.length_cons, List.length_append, List.length_nil, List.length_take, List.length_drop, List.length_map]; omega) | (simp only [cells, scal1, allSz, List.length_cons, List.length_nil, List.length_append, List.length_map, List.all_cons, List.all_nil, avs_len, beq_self_eq_true, Bool.and_self, and_self, or_true, true_or, reduceCtorEq, *]; done) | fail) only [go_sem, Nat.reduceAdd, Nat.reduceSub, Nat.reduceMul, Nat.reduceLT, Nat.reduceLeDiff, Int.reduceToNat, Nat.reduceEqDiff, Nat.reduceBEq, ↓reduceIte, reduceCtorEq, ht, hL, ↓frz_ivs, chunk]
    | succ r ih =>
      intro i hi cs0 hcs0 nx
      have hat : (ivs (List.replicate n m))[i]? = some (.int .i64 (m : Nat)) := by rw [List.getElem?_map, List.getElem?_replicate, if_pos (by omega)]; rfl
      have hput := partR_put (ivs (List.replicate n m)) (.int .i64 0) _ i hat
      have hlen := partR_len (ivs (List.replicate n m)) (.int .i64 0) i (by omega)
      rw [← hcs0] at hput hlen
      have w1 : IntKind.i64.wrap ((i : Int) + 1) = ((i + 1 : Nat) : Int) := by rw [IntKind.wrap_i64]; omega
      have hih := ih (i + 1) (by omega) _ hput
      have hcs : cs0.length = n := by omega
      have hi1 : (i : Int) < (n : Int) := by omega
      refine round (its := [.blk 0 wb_ref04_flat_0]) (k0 := [.c c_ref04_flat_k0]) 100 trivial trivial (fun A eA => ?_)
      simp (disch := first | omega | (simp only [avs_len, List.length_cons, List.length_append, List.length_nil, List.length_take, List.length_drop, List.length_map]; omega) | (simp only [cells, scal1, allSz, List.length_cons, List.length_nil, List.length_append, List.length_map, List.all_cons, List.all_nil, avs_len, beq_self_eq_true, Bool.and_self, and_self, or_true, true_or, reduceCtorEq, *]; done) | fail) only [c_ref04_flat, wl_ref04_flat_0, s_ref04_flat_0, c_ref04_flat_l0, wb_ref04_flat_0, c_ref04_flat_k0, go_sem, Nat.reduceAdd, Nat.reduceSub, Nat.reduceMul, Nat.reduceLT, Nat.reduceLeDiff, Int.reduceToNat, Nat.reduceEqDiff, Nat.reduceBEq, ↓reduceIte, reduceCtorEq, eA, hi1, scal1, List.all_cons, List.all_nil, Bool.and_self, Int.toNat_natCast, w1, hcs]
      exact hih _
  have hp0 : List.replicate n (AV.int .i64 0) = partR (ivs (List.replicate n m)) (.int .i64 0) 0 := by
    show _ = List.take 0 _ ++ List.replicate (_ - 0) _
    rw [hL]; rfl
  refine calls_ref04_flat ?_
  simp only [List.replicate, List.length_cons, List.length_nil, Nat.reduceAdd, Nat.reduceSub, List.cons_append, List.nil_append]
  refine walk0 100 trivial (fun A eA => ?_)
  simp (disch := first | omega | (simp only [avs_len, List.length_cons, List.length_append, List.length_nil, List.length_take, List.length_drop, List.length_map]; omega) | (simp only [cells, scal1, allSz, List.length_cons, List.length_nil, List.length_append, List.length_map, List.all_cons, List.all_nil, avs_len, beq_self_eq_true, Bool.and_self, and_self, or_true, true_or, reduceCtorEq, *]; done) | fail) only [c_ref04_flat, wl_ref04_flat_0, s_ref04_flat_0, c_ref04_flat_l0, wb_ref04_flat_0, c_ref04_flat_k0, go_sem, Nat.reduceAdd, Nat.reduceSub, Nat.reduceMul, Nat.reduceLT, Nat.reduceLeDiff, Int.reduceToNat, Nat.reduceEqDiff, Nat.reduceBEq, ↓reduceIte, reduceCtorEq, eA, scal1, List.all_cons, List.all_nil, Bool.and_self, ivs_len, Int.toNat_natCast]
  exact key n 0 (by omega) _ hp0 (bump zeroC 8)
end Go.Proofs.Ytmokhopjnjecbab
/- The walk through the reference's fill. -/
-- short
-- fuel 300
namespace Go.Proofs.Ytmokhopjnjecbab
open Go.Ev
set_option linter.unusedVariables false
set_option linter.unusedSimpArgs false
set_option maxRecDepth 100000
set_option maxHeartbeats 3200000

theorem row_ne {row : List Nat} {d : Nat} (h : row.length = 2 ^ d) : row ≠ [] := by
  intro q; rw [q] at h; have : 0 < 2 ^ d := Nat.pow_pos (by omega); simp at h; omega
theorem mx_nat (a b : Nat) : (if ((b : Nat) : Int) > ((a : Nat) : Int) then ((b : Nat) : Int) else ((a : Nat) : Int)) = ((max a b : Nat) : Int) := by split <;> omega
theorem refFill_calls : ∀ (d : Nat) (i : B) (row : List Nat), d ≤ 20 → i.dep ≤ d + 1 → row.length = 2 ^ d → PCalls Try.prog F_ref04_fill [tv i.t, .fz 1 (ivs row) none] (.fz 1 (ivs (fillR i row)) none) := by
  intro d
  induction d with
  | zero =>
    intro i row _ hd hl
    have hne := row_ne hl
    cases i with
    | lf o =>
      rw [tv_lf]
      have c1 := refMost_calls row hne (by omega)
      have c2 := refFlat_calls (mostR row) row.length (by omega)
      refine calls_ref04_fill (walk0 300 trivial (fun A eA => ?_))
      cases o with
      | true =>
        simp (disch := first | omega | (simp only [avs_len, List.length_cons, List.length_append, List.length_nil, List.length_take, List.length_drop, List.length_map]; omega) | (simp only [cells, scal1, allSz, List.length_cons, List.length_nil, List.length_append, List.length_map, List.all_cons, List.all_nil, avs_len, beq_self_eq_true, Bool.and_self, and_self, or_true, true_or, reduceCtorEq, *]; done) | fail) only [c_ref04_fill, go_sem, Nat.reduceAdd, Nat.reduceSub, Nat.reduceMul, Nat.reduceLT, Nat.reduceLeDiff, Int.reduceToNat, Nat.reduceEqDiff, Nat.reduceBEq, ↓reduceIte, reduceCtorEq, eA]
        repeat ((first | refine call0 300 trivial trivial (by first | exact c1 | exact c2) (by first | exact .inl rfl | exact .inr rfl) (fun A eA => ?_) | refine call1 300 trivial trivial (by first | exact c1 | exact c2) (fun A eA => ?_)); simp (disch := first | omega | (simp only [avs_len, List.length_cons, List.length_append, List.length_nil, List.length_take, List.length_drop, List.length_map]; omega) | (simp only [cells, scal1, allSz, List.length_cons, List.length_nil, List.length_append, List.length_map, List.all_cons, List.all_nil, avs_len, beq_self_eq_true, Bool.and_self, and_self, or_true, true_or, reduceCtorEq, *]; done) | fail) only [c_ref04_fill, go_sem, Nat.reduceAdd, Nat.reduceSub, Nat.reduceMul, Nat.reduceLT, Nat.reduceLeDiff, Int.reduceToNat, Nat.reduceEqDiff, Nat.reduceBEq, ↓reduceIte, reduceCtorEq, eA, List.length_map])
        exact doneG rfl
      | false =>
        simp (disch := first | omega | (simp only [avs_len, List.length_cons, List.length_append, List.length_nil, List.length_take, List.length_drop, List.length_map]; omega) | (simp only [cells, scal1, allSz, List.length_cons, List.length_nil, List.length_append, List.length_map, List.all_cons, List.all_nil, avs_len, beq_self_eq_true, Bool.and_self, and_self, or_true, true_or, reduceCtorEq, *]; done) | fail) only [c_ref04_fill, go_sem, Nat.reduceAdd, Nat.reduceSub, Nat.reduceMul, Nat.reduceLT, Nat.reduceLeDiff, Int.reduceToNat, Nat.reduceEqDiff, Nat.reduceBEq, ↓reduceIte, reduceCtorEq, eA]
        exact doneG rfl
    | nd il ir => have := il.dep_pos; simp only [B.dep] at hd; omega
  | succ d ih =>
    intro i row hd20 hd hl
    have hne := row_ne hl
    have hle : (2 : Nat) ^ (d + 1) ≤ 2 ^ 20 := Nat.pow_le_pow_right (by omega) hd20
    cases i with
    | lf o =>
      rw [tv_lf]
      have c1 := refMost_calls row hne (by omega)
      have c2 := refFlat_calls (mostR row) row.length (by omega)
      refine calls_ref04_fill (walk0 300 trivial (fun A eA => ?_))
      cases o with
      | true =>
        simp (disch := first | omega | (simp only [avs_len, List.length_cons, List.length_append, List.length_nil, List.length_take, List.length_drop, List.length_map]; omega) | (simp only [cells, scal1, allSz, List.length_cons, List.length_nil, List.length_append, List.length_map, List.all_cons, List.all_nil, avs_len, beq_self_eq_true, Bool.and_self, and_self, or_true, true_or, reduceCtorEq, *]; done) | fail) only [c_ref04_fill, go_sem, Nat.reduceAdd, Nat.reduceSub, Nat.reduceMul, Nat.reduceLT, Nat.reduceLeDiff, Int.reduceToNat, Nat.reduceEqDiff, Nat.reduceBEq, ↓reduceIte, reduceCtorEq, eA]
        repeat ((first | refine call0 300 trivial trivial (by first | exact c1 | exact c2) (by first | exact .inl rfl | exact .inr rfl) (fun A eA => ?_) | refine call1 300 trivial trivial (by first | exact c1 | exact c2) (fun A eA => ?_)); simp (disch := first | omega | (simp only [avs_len, List.length_cons, List.length_append, List.length_nil, List.length_take, List.length_drop, List.length_map]; omega) | (simp only [cells, scal1, allSz, List.length_cons, List.length_nil, List.length_append, List.length_map, List.all_cons, List.all_nil, avs_len, beq_self_eq_true, Bool.and_self, and_self, or_true, true_or, reduceCtorEq, *]; done) | fail) only [c_ref04_fill, go_sem, Nat.reduceAdd, Nat.reduceSub, Nat.reduceMul, Nat.reduceLT, Nat.reduceLeDiff, Int.reduceToNat, Nat.reduceEqDiff, Nat.reduceBEq, ↓reduceIte, reduceCtorEq, eA, List.length_map])
        exact doneG rfl
      | false =>
        simp (disch := first | omega | (simp only [avs_len, List.length_cons, List.length_append, List.length_nil, List.length_take, List.length_drop, List.length_map]; omega) | (simp only [cells, scal1, allSz, List.length_cons, List.length_nil, List.length_append, List.length_map, List.all_cons, List.all_nil, avs_len, beq_self_eq_true, Bool.and_self, and_self, or_true, true_or, reduceCtorEq, *]; done) | fail) only [c_ref04_fill, go_sem, Nat.reduceAdd, Nat.reduceSub, Nat.reduceMul, Nat.reduceLT, Nat.reduceLeDiff, Int.reduceToNat, Nat.reduceEqDiff, Nat.reduceBEq, ↓reduceIte, reduceCtorEq, eA]
        exact doneG rfl
    | nd il ir =>
      rw [tv_nd]
      have c1 := refLeast_calls row hne (by omega)
      have c2 := refMost_calls row hne (by omega)
      simp only [fillR]
      by_cases hc : leastR row = mostR row
      · rw [if_pos hc]
        have hc' : ((leastR row : Nat) : Int) = ((mostR row : Nat) : Int) ↔ True := iff_of_true (by omega) trivial
        refine calls_ref04_fill (walk0 300 trivial (fun A eA => ?_))
        simp (disch := first | omega | (simp only [avs_len, List.length_cons, List.length_append, List.length_nil, List.length_take, List.length_drop, List.length_map]; omega) | (simp only [cells, scal1, allSz, List.length_cons, List.length_nil, List.length_append, List.length_map, List.all_cons, List.all_nil, avs_len, beq_self_eq_true, Bool.and_self, and_self, or_true, true_or, reduceCtorEq, *]; done) | fail) only [c_ref04_fill, go_sem, Nat.reduceAdd, Nat.reduceSub, Nat.reduceMul, Nat.reduceLT, Nat.reduceLeDiff, Int.reduceToNat, Nat.reduceEqDiff, Nat.reduceBEq, ↓reduceIte, reduceCtorEq, eA]
        repeat ((first | refine call0 300 trivial trivial (by first | exact c1 | exact c2) (by first | exact .inl rfl | exact .inr rfl) (fun A eA => ?_) | refine call1 300 trivial trivial (by first | exact c1 | exact c2) (fun A eA => ?_)); simp (disch := first | omega | (simp only [avs_len, List.length_cons, List.length_append, List.length_nil, List.length_take, List.length_drop, List.length_map]; omega) | (simp only [cells, scal1, allSz, List.length_cons, List.length_nil, List.length_append, List.length_map, List.all_cons, List.all_nil, avs_len, beq_self_eq_true, Bool.and_self, and_self, or_true, true_or, reduceCtorEq, *]; done) | fail) only [c_ref04_fill, go_sem, Nat.reduceAdd, Nat.reduceSub, Nat.reduceMul, Nat.reduceLT, Nat.reduceLeDiff, Int.reduceToNat, Nat.reduceEqDiff, Nat.reduceBEq, ↓reduceIte, reduceCtorEq, eA, hc'])
        exact doneG rfl
      · rw [if_neg hc]
        have hc' : ((leastR row : Nat) : Int) = ((mostR row : Nat) : Int) ↔ False := iff_of_false (by omega) id
        simp only [B.dep] at hd
        have hpos : 0 < 2 ^ d := Nat.pow_pos (by omega)
        have e : 2 ^ (d + 1) / 2 = 2 ^ d := by rw [Nat.pow_succ]; omega
        have e2 : 2 ^ (d + 1) - 2 ^ d = 2 ^ d := by rw [Nat.pow_succ]; omega
        have e3 : 2 ^ d ≤ 2 ^ (d + 1) := Nat.pow_le_pow_right (by omega) (by omega)
        have la : (row.take (2 ^ d)).length = 2 ^ d := by rw [List.length_take]; omega
        have lb : (row.drop (2 ^ d)).length = 2 ^ d := by rw [List.length_drop]; omega
        have nea := row_ne la
        have neb := row_ne lb
        have cl := ih il (row.take (2 ^ d)) (by omega) (by omega) la
        have cr := ih ir (row.drop (2 ^ d)) (by omega) (by omega) lb
        have lfa := fillR_len il (row.take (2 ^ d)) ⟨d, la, by omega⟩
        have lfb := fillR_len ir (row.drop (2 ^ d)) ⟨d, lb, by omega⟩
        have q1 : (row.length : Int).tdiv 2 = ((2 ^ d : Nat) : Int) := by rw [Int.tdiv_eq_ediv_of_nonneg (by omega), hl, ← e]; omega
        have hhalf : row.length / 2 = 2 ^ d := by omega
        rw [hhalf]
        generalize hK : (2 : Nat) ^ d = K at *
        have q2 : IntKind.i64.wrap (K : Int) = (K : Int) := by rw [IntKind.wrap_i64]; omega
        have hKl : K ≤ row.length := by omega
        have ht : List.take row.length (ivs row) = ivs row := by rw [List.take_of_length_le (by simp)]
        have hA : List.take K (ivs row) = ivs (row.take K) := List.map_take.symm
        have hB : List.drop K (ivs row) = ivs (row.drop K) := List.map_drop.symm
        generalize row.take K = a at *
        generalize row.drop K = b at *
        rw [la] at lfa
        rw [lb] at lfb
        have o1 := B.t_one il
        have o2 := B.t_one ir
        have z20 : ¬ ((2 : Int) = 0) := by omega
        by_cases h1 : il.one = true
        · rw [if_pos h1]
          rw [h1] at o1
          have nefb : fillR ir b ≠ [] := by intro q; rw [q] at lfb; simp at lfb; omega
          have m1 := refMost_calls a nea (by omega)
          have m2 := refLeast_calls (fillR ir b) nefb (by omega)
          have m3 := refFlat_calls (max (mostR a) (leastR (fillR ir b))) K (by omega)
          have emx := mx_nat (mostR a) (leastR (fillR ir b))
          have lr : (List.replicate K (max (mostR a) (leastR (fillR ir b)))).length = K := by simp
          generalize List.replicate K (max (mostR a) (leastR (fillR ir b))) = X at *
          generalize fillR ir b = Y at *
          refine calls_ref04_fill (walk0 300 trivial (fun A eA => ?_))
          simp (disch := first | omega | (simp only [avs_len, List.length_cons, List.length_append, List.length_nil, List.length_take, List.length_drop, List.length_map]; omega) | (simp only [cells, scal1, allSz, List.length_cons, List.length_nil, List.length_append, List.length_map, List.all_cons, List.all_nil, avs_len, beq_self_eq_true, Bool.and_self, and_self, or_true, true_or, reduceCtorEq, *]; done) | fail) only [c_ref04_fill, go_sem, Nat.reduceAdd, Nat.reduceSub, Nat.reduceMul, Nat.reduceLT, Nat.reduceLeDiff, Int.reduceToNat, Nat.reduceEqDiff, Nat.reduceBEq, ↓reduceIte, reduceCtorEq, eA, o1]
          repeat ((first | refine call0 300 trivial trivial (by first | exact c1 | exact c2 | exact cr | exact m1 | exact m2 | exact m3) (by first | exact .inl rfl | exact .inr rfl) (fun A eA => ?_) | refine call1 300 trivial trivial (by first | exact c1 | exact c2 | exact cr | exact m1 | exact m2 | exact m3) (fun A eA => ?_)); simp (disch := first | omega | (simp only [avs_len, List.length_cons, List.length_append, List.length_nil, List.length_take, List.length_drop, List.length_map]; omega) | (simp only [cells, scal1, allSz, List.length_cons, List.length_nil, List.length_append, List.length_map, List.all_cons, List.all_nil, avs_len, beq_self_eq_true, Bool.and_self, and_self, or_true, true_or, reduceCtorEq, *]; done) | fail) only [c_ref04_fill, go_sem, Nat.reduceAdd, Nat.reduceSub, Nat.reduceMul, Nat.reduceLT, Nat.reduceLeDiff, Int.reduceToNat, Nat.reduceEqDiff, Nat.reduceBEq, ↓reduceIte, reduceCtorEq, eA, o1, hc', z20, q1, q2, hA, hB, ht, emx, List.length_map, Int.toNat_natCast, ↓appK, catCells_ivs, catCells, lr, lfb])
          refine doneG ?_
          have hXY : ivs X ++ ivs Y = ivs (X ++ Y) := by simp
          have ht2 : List.take (K + K) (ivs (X ++ Y)) = ivs (X ++ Y) := List.take_of_length_le (by simp; omega)
          rw [hXY]
          simp (disch := first | omega | (simp only [avs_len, List.length_cons, List.length_append, List.length_nil, List.length_take, List.length_drop, List.length_map]; omega) | (simp only [cells, scal1, allSz, List.length_cons, List.length_nil, List.length_append, List.length_map, List.all_cons, List.all_nil, avs_len, beq_self_eq_true, Bool.and_self, and_self, or_true, true_or, reduceCtorEq, *]; done) | fail) only [go_sem, Nat.reduceAdd, Nat.reduceSub, Nat.reduceMul, Nat.reduceLT, Nat.reduceLeDiff, Int.reduceToNat, Nat.reduceEqDiff, Nat.reduceBEq, ↓reduceIte, reduceCtorEq, ht2, ↓frz_ivs, chunk]
        · rw [if_neg h1]
          rw [Bool.not_eq_true] at h1
          rw [h1] at o1
          rw [tv_of o1] at cl
          have nefa : fillR il a ≠ [] := by intro q; rw [q] at lfa; simp at lfa; omega
          by_cases h2 : ir.one = true
          · rw [if_pos h2]
            rw [h2] at o2
            have m1 := refMost_calls b neb (by omega)
            have m2 := refLeast_calls (fillR il a) nefa (by omega)
            have m3 := refFlat_calls (max (mostR b) (leastR (fillR il a))) K (by omega)
            have emx := mx_nat (mostR b) (leastR (fillR il a))
            have lr : (List.replicate K (max (mostR b) (leastR (fillR il a)))).length = K := by simp
            generalize List.replicate K (max (mostR b) (leastR (fillR il a))) = Y at *
            generalize fillR il a = X at *
            refine calls_ref04_fill (walk0 300 trivial (fun A eA => ?_))
            simp (disch := first | omega | (simp only [avs_len, List.length_cons, List.length_append, List.length_nil, List.length_take, List.length_drop, List.length_map]; omega) | (simp only [cells, scal1, allSz, List.length_cons, List.length_nil, List.length_append, List.length_map, List.all_cons, List.all_nil, avs_len, beq_self_eq_true, Bool.and_self, and_self, or_true, true_or, reduceCtorEq, *]; done) | fail) only [c_ref04_fill, go_sem, Nat.reduceAdd, Nat.reduceSub, Nat.reduceMul, Nat.reduceLT, Nat.reduceLeDiff, Int.reduceToNat, Nat.reduceEqDiff, Nat.reduceBEq, ↓reduceIte, reduceCtorEq, eA, o1, o2]
            repeat ((first | refine call0 300 trivial trivial (by first | exact c1 | exact c2 | exact cl | exact m1 | exact m2 | exact m3) (by first | exact .inl rfl | exact .inr rfl) (fun A eA => ?_) | refine call1 300 trivial trivial (by first | exact c1 | exact c2 | exact cl | exact m1 | exact m2 | exact m3) (fun A eA => ?_)); simp (disch := first | omega | (simp only [avs_len, List.length_cons, List.length_append, List.length_nil, List.length_take, List.length_drop, List.length_map]; omega) | (simp only [cells, scal1, allSz, List.length_cons, List.length_nil, List.length_append, List.length_map, List.all_cons, List.all_nil, avs_len, beq_self_eq_true, Bool.and_self, and_self, or_true, true_or, reduceCtorEq, *]; done) | fail) only [c_ref04_fill, go_sem, Nat.reduceAdd, Nat.reduceSub, Nat.reduceMul, Nat.reduceLT, Nat.reduceLeDiff, Int.reduceToNat, Nat.reduceEqDiff, Nat.reduceBEq, ↓reduceIte, reduceCtorEq, eA, o1, o2, hc', z20, q1, q2, hA, hB, ht, emx, List.length_map, Int.toNat_natCast, ↓appK, catCells_ivs, catCells, lr, lfa])
            refine doneG ?_
            have hXY : ivs X ++ ivs Y = ivs (X ++ Y) := by simp
            have ht2 : List.take (K + K) (ivs (X ++ Y)) = ivs (X ++ Y) := List.take_of_length_le (by simp; omega)
            rw [hXY]
            simp (disch := first | omega | (simp only [avs_len, List.length_cons, List.length_append, List.length_nil, List.length_take, List.length_drop, List.length_map]; omega) | (simp only [cells, scal1, allSz, List.length_cons, List.length_nil, List.length_append, List.length_map, List.all_cons, List.all_nil, avs_len, beq_self_eq_true, Bool.and_self, and_self, or_true, true_or, reduceCtorEq, *]; done) | fail) only [go_sem, Nat.reduceAdd, Nat.reduceSub, Nat.reduceMul, Nat.reduceLT, Nat.reduceLeDiff, Int.reduceToNat, Nat.reduceEqDiff, Nat.reduceBEq, ↓reduceIte, reduceCtorEq, ht2, ↓frz_ivs, chunk]
          · rw [if_neg h2]
            rw [Bool.not_eq_true] at h2
            rw [h2] at o2
            rw [tv_of o2] at cr
            generalize fillR ir b = Y at *
            generalize fillR il a = X at *
            refine calls_ref04_fill (walk0 300 trivial (fun A eA => ?_))
            simp (disch := first | omega | (simp only [avs_len, List.length_cons, List.length_append, List.length_nil, List.length_take, List.length_drop, List.length_map]; omega) | (simp only [cells, scal1, allSz, List.length_cons, List.length_nil, List.length_append, List.length_map, List.all_cons, List.all_nil, avs_len, beq_self_eq_true, Bool.and_self, and_self, or_true, true_or, reduceCtorEq, *]; done) | fail) only [c_ref04_fill, go_sem, Nat.reduceAdd, Nat.reduceSub, Nat.reduceMul, Nat.reduceLT, Nat.reduceLeDiff, Int.reduceToNat, Nat.reduceEqDiff, Nat.reduceBEq, ↓reduceIte, reduceCtorEq, eA, o1, o2]
            repeat ((first | refine call0 300 trivial trivial (by first | exact c1 | exact c2 | exact cl | exact cr) (by first | exact .inl rfl | exact .inr rfl) (fun A eA => ?_) | refine call1 300 trivial trivial (by first | exact c1 | exact c2 | exact cl | exact cr) (fun A eA => ?_)); simp (disch := first | omega | (simp only [avs_len, List.length_cons, List.length_append, List.length_nil, List.length_take, List.length_drop, List.length_map]; omega) | (simp only [cells, scal1, allSz, List.length_cons, List.length_nil, List.length_append, List.length_map, List.all_cons, List.all_nil, avs_len, beq_self_eq_true, Bool.and_self, and_self, or_true, true_or, reduceCtorEq, *]; done) | fail) only [c_ref04_fill, go_sem, Nat.reduceAdd, Nat.reduceSub, Nat.reduceMul, Nat.reduceLT, Nat.reduceLeDiff, Int.reduceToNat, Nat.reduceEqDiff, Nat.reduceBEq, ↓reduceIte, reduceCtorEq, eA, o1, o2, hc', z20, q1, q2, hA, hB, ht, List.length_map, Int.toNat_natCast, ↓appK, catCells_ivs, catCells, lfb, lfa])
            refine doneG ?_
            have hXY : ivs X ++ ivs Y = ivs (X ++ Y) := by simp
            have ht2 : List.take (K + K) (ivs (X ++ Y)) = ivs (X ++ Y) := List.take_of_length_le (by simp; omega)
            rw [hXY]
            simp (disch := first | omega | (simp only [avs_len, List.length_cons, List.length_append, List.length_nil, List.length_take, List.length_drop, List.length_map]; omega) | (simp only [cells, scal1, allSz, List.length_cons, List.length_nil, List.length_append, List.length_map, List.all_cons, List.all_nil, avs_len, beq_self_eq_true, Bool.and_self, and_self, or_true, true_or, reduceCtorEq, *]; done) | fail) only [go_sem, Nat.reduceAdd, Nat.reduceSub, Nat.reduceMul, Nat.reduceLT, Nat.reduceLeDiff, Int.reduceToNat, Nat.reduceEqDiff, Nat.reduceBEq, ↓reduceIte, reduceCtorEq, ht2, ↓frz_ivs, chunk]
end Go.Proofs.Ytmokhopjnjecbab
/- The walk through the reference's grow. -/
-- short
-- fuel 300
namespace Go.Ev
theorem growR_len : ∀ (i : B) (row : List Nat), (∃ d, row.length = 2 ^ d ∧ i.dep ≤ d + 1) → (growR i row).1.length = row.length
  | .lf o, row, _ => by simp [growR]
  | .nd il ir, row, ⟨d, h, hd⟩ => by
    simp only [B.dep] at hd
    match d with
    | 0 => have := il.dep_pos; omega
    | d + 1 =>
      have hp : 2 ^ (d + 1) = 2 ^ d + 2 ^ d := by rw [Nat.pow_succ]; omega
      have h1 : (row.take (row.length / 2)).length = 2 ^ d := by rw [List.length_take]; omega
      have h2 : (row.drop (row.length / 2)).length = 2 ^ d := by rw [List.length_drop]; omega
      have il1 := growR_len il _ ⟨d, h1, by omega⟩
      have ir1 := growR_len ir _ ⟨d, h2, by omega⟩
      simp only [growR]
      split
      · simp only [List.length_append, ir1, h1, h2]; omega
      · split
        · simp only [List.length_append, il1, h1, h2]; omega
        · split
          · simp only [List.length_append, ir1, h1, h2]; omega
          · simp only [List.length_append, il1, h1, h2]; omega
theorem growR_price : ∀ (d : Nat) (i : B) (row : List Nat), i.dep ≤ d → (growR i row).2 ≤ 1001 * d
  | 0, i, row, h => by have := i.dep_pos; omega
  | d + 1, .lf o, row, _ => by simp [growR]
  | d + 1, .nd il ir, row, h => by
    simp only [B.dep] at h
    have hl := growR_price d il (row.take (row.length / 2)) (by omega)
    have hr := growR_price d ir (row.drop (row.length / 2)) (by omega)
    have hm : (if leastR row = mostR row then 1001 else 1) ≤ 1001 := by split <;> omega
    simp only [growR]
    split
    · show _ + _ ≤ _; omega
    · split
      · show _ + _ ≤ _; omega
      · split
        · show _ + _ ≤ _; omega
        · show _ + _ ≤ _; omega
theorem growR_1 {il ir : B} {row : List Nat} (h1 : il.none = true) : growR (.nd il ir) row = (row.take (row.length / 2) ++ (growR ir (row.drop (row.length / 2))).1, (if leastR row = mostR row then 1001 else 1) + (growR ir (row.drop (row.length / 2))).2) := by
  simp only [growR]; rw [if_pos h1]
theorem growR_2 {il ir : B} {row : List Nat} (h1 : ¬ il.none = true) (h2 : ir.none = true) : growR (.nd il ir) row = ((growR il (row.take (row.length / 2))).1 ++ row.drop (row.length / 2), (if leastR row = mostR row then 1001 else 1) + (growR il (row.take (row.length / 2))).2) := by
  simp only [growR]; rw [if_neg h1, if_pos h2]
theorem growR_3 {il ir : B} {row : List Nat} (h1 : ¬ il.none = true) (h2 : ¬ ir.none = true) (h3 : (growR ir (row.drop (row.length / 2))).2 ≤ (growR il (row.take (row.length / 2))).2) : growR (.nd il ir) row = (row.take (row.length / 2) ++ (growR ir (row.drop (row.length / 2))).1, (if leastR row = mostR row then 1001 else 1) + (growR ir (row.drop (row.length / 2))).2) := by
  simp only [growR]; rw [if_neg h1, if_neg h2, if_pos h3]
theorem growR_4 {il ir : B} {row : List Nat} (h1 : ¬ il.none = true) (h2 : ¬ ir.none = true) (h3 : ¬ (growR ir (row.drop (row.length / 2))).2 ≤ (growR il (row.take (row.length / 2))).2) : growR (.nd il ir) row = ((growR il (row.take (row.length / 2))).1 ++ row.drop (row.length / 2), (if leastR row = mostR row then 1001 else 1) + (growR il (row.take (row.length / 2))).2) := by
  simp only [growR]; rw [if_neg h1, if_neg h2, if_neg h3]
end Go.Ev
namespace Go.Proofs.Ytmokhopjnjecbab
open Go.Ev
set_option linter.unusedVariables false
set_option linter.unusedSimpArgs false
set_option maxRecDepth 100000
set_option maxHeartbeats 3200000

theorem B.t_size2 : ∀ (b : B), b.t.size = b.nodes
  | .lf o => by simp [B.t, Tree.size, sizes, B.nodes]
  | .nd l r => by simp only [B.t, Tree.size, sizes, B.nodes, B.t_size2 l, B.t_size2 r]; omega
theorem nodes_dep : ∀ (b : B) (d : Nat), b.dep ≤ d → b.nodes < 2 ^ d
  | b, 0, h => by have := b.dep_pos; omega
  | .lf o, d + 1, _ => by have : 0 < 2 ^ d := Nat.pow_pos (by omega); simp only [B.nodes, Nat.pow_succ]; omega
  | .nd l r, d + 1, h => by
    simp only [B.dep] at h
    have a := nodes_dep l d (by omega)
    have b := nodes_dep r d (by omega)
    simp only [B.nodes, Nat.pow_succ]; omega
theorem same_none (b : B) (hd : b.dep ≤ 8) : PCalls Try.prog F_ref04_Same [tv b.t, .agg [.bool false, .nils]] (.bool b.none) := by
  have hs := nodes_dep b 8 hd
  have c := refSame_calls b.t (by rw [B.t_size2]; omega) (.mk false [])
  have e : teq b.t (.mk false []) = b.none := by
    rw [Bool.eq_iff_iff, teq_true]
    cases b with
    | lf o => cases o <;> simp [B.t, B.none]
    | nd l r => simp [B.t, B.none]
  rw [e] at c
  exact PCalls.arg [tv b.t] (wk_leaf false) c
theorem refGrow_calls : ∀ (d : Nat) (i : B) (row : List Nat), d ≤ 7 → i.short = true → i.dep ≤ d + 1 → i.none = false → row.length = 2 ^ d → (∀ x ∈ row, x < 2 ^ 60) → PCalls Try.prog F_ref04_grow [tv i.t, .fz 1 (ivs row) none] (.tup [.fz 1 (ivs (growR i row).1) none, .int .i64 ((growR i row).2 : Nat)]) := by
  intro d
  induction d with
  | zero =>
    intro i row hd7 his hd hn hl hx
    cases i with
    | lf o =>
      rw [tv_lf]
      have hne := row_ne hl
      obtain ⟨x, l, rfl⟩ := List.exists_cons_of_ne_nil hne
      have hx0 := hx x List.mem_cons_self
      have g0 : (ivs (x :: l))[(0 : Int).toNat]? = some (.int .i64 (x : Nat)) := rfl
      have w1 : IntKind.i64.wrap ((x : Int) + 1) = ((x + 1 : Nat) : Int) := by rw [wrap64 (by omega) (by omega)]; omega
      have c1 := refFlat_calls (x + 1) (x :: l).length (by rw [hl]; exact Nat.lt_of_le_of_lt (Nat.pow_le_pow_right (by omega) (show _ ≤ 8 by omega)) (by decide))
      show PCalls Try.prog F_ref04_grow _ (.tup [.fz 1 (ivs (List.replicate (x :: l).length (x + 1))) none, .int .i64 0])
      generalize hXX : (x :: l) = XX at *
      refine calls_ref04_grow (walk0 300 trivial (fun A eA => ?_))
      simp (disch := first | omega | (simp only [avs_len, List.length_cons, List.length_append, List.length_nil, List.length_take, List.length_drop, List.length_map]; omega) | (simp only [cells, scal1, allSz, List.length_cons, List.length_nil, List.length_append, List.length_map, List.all_cons, List.all_nil, avs_len, beq_self_eq_true, Bool.and_self, and_self, or_true, true_or, reduceCtorEq, *]; done) | fail) only [c_ref04_grow, go_sem, Nat.reduceAdd, Nat.reduceSub, Nat.reduceMul, Nat.reduceLT, Nat.reduceLeDiff, Int.reduceToNat, Nat.reduceEqDiff, Nat.reduceBEq, ↓reduceIte, reduceCtorEq, eA, ↓optI_of g0, w1, List.length_map]
      repeat ((first | refine call0 300 trivial trivial (by first | exact c1) (by first | exact .inl rfl | exact .inr rfl) (fun A eA => ?_) | refine call1 300 trivial trivial (by first | exact c1) (fun A eA => ?_)); simp (disch := first | omega | (simp only [avs_len, List.length_cons, List.length_append, List.length_nil, List.length_take, List.length_drop, List.length_map]; omega) | (simp only [cells, scal1, allSz, List.length_cons, List.length_nil, List.length_append, List.length_map, List.all_cons, List.all_nil, avs_len, beq_self_eq_true, Bool.and_self, and_self, or_true, true_or, reduceCtorEq, *]; done) | fail) only [c_ref04_grow, go_sem, Nat.reduceAdd, Nat.reduceSub, Nat.reduceMul, Nat.reduceLT, Nat.reduceLeDiff, Int.reduceToNat, Nat.reduceEqDiff, Nat.reduceBEq, ↓reduceIte, reduceCtorEq, eA, ↓optI_of g0, w1, List.length_map])
      exact doneG rfl
    | nd il ir => have := il.dep_pos; simp only [B.dep] at hd; omega
  | succ d ih =>
    intro i row hd7 his hd hn hl hx
    cases i with
    | lf o =>
      rw [tv_lf]
      have hne := row_ne hl
      obtain ⟨x, l, rfl⟩ := List.exists_cons_of_ne_nil hne
      have hx0 := hx x List.mem_cons_self
      have g0 : (ivs (x :: l))[(0 : Int).toNat]? = some (.int .i64 (x : Nat)) := rfl
      have w1 : IntKind.i64.wrap ((x : Int) + 1) = ((x + 1 : Nat) : Int) := by rw [wrap64 (by omega) (by omega)]; omega
      have c1 := refFlat_calls (x + 1) (x :: l).length (by rw [hl]; exact Nat.lt_of_le_of_lt (Nat.pow_le_pow_right (by omega) (show _ ≤ 8 by omega)) (by decide))
      show PCalls Try.prog F_ref04_grow _ (.tup [.fz 1 (ivs (List.replicate (x :: l).length (x + 1))) none, .int .i64 0])
      generalize hXX : (x :: l) = XX at *
      refine calls_ref04_grow (walk0 300 trivial (fun A eA => ?_))
      simp (disch := first | omega | (simp only [avs_len, List.length_cons, List.length_append, List.length_nil, List.length_take, List.length_drop, List.length_map]; omega) | (simp only [cells, scal1, allSz, List.length_cons, List.length_nil, List.length_append, List.length_map, List.all_cons, List.all_nil, avs_len, beq_self_eq_true, Bool.and_self, and_self, or_true, true_or, reduceCtorEq, *]; done) | fail) only [c_ref04_grow, go_sem, Nat.reduceAdd, Nat.reduceSub, Nat.reduceMul, Nat.reduceLT, Nat.reduceLeDiff, Int.reduceToNat, Nat.reduceEqDiff, Nat.reduceBEq, ↓reduceIte, reduceCtorEq, eA, ↓optI_of g0, w1, List.length_map]
      repeat ((first | refine call0 300 trivial trivial (by first | exact c1) (by first | exact .inl rfl | exact .inr rfl) (fun A eA => ?_) | refine call1 300 trivial trivial (by first | exact c1) (fun A eA => ?_)); simp (disch := first | omega | (simp only [avs_len, List.length_cons, List.length_append, List.length_nil, List.length_take, List.length_drop, List.length_map]; omega) | (simp only [cells, scal1, allSz, List.length_cons, List.length_nil, List.length_append, List.length_map, List.all_cons, List.all_nil, avs_len, beq_self_eq_true, Bool.and_self, and_self, or_true, true_or, reduceCtorEq, *]; done) | fail) only [c_ref04_grow, go_sem, Nat.reduceAdd, Nat.reduceSub, Nat.reduceMul, Nat.reduceLT, Nat.reduceLeDiff, Int.reduceToNat, Nat.reduceEqDiff, Nat.reduceBEq, ↓reduceIte, reduceCtorEq, eA, ↓optI_of g0, w1, List.length_map])
      exact doneG rfl
    | nd il ir =>
      have hne := row_ne hl
      have hle : (2 : Nat) ^ (d + 1) ≤ 2 ^ 20 := Nat.pow_le_pow_right (by omega) (by omega)
      rw [tv_nd]
      have his' := his
      simp only [B.short, Bool.and_eq_true] at his'
      simp only [B.dep] at hd
      have c1 := refLeast_calls row hne (by omega)
      have c2 := refMost_calls row hne (by omega)
      have s1 := same_none il (by omega)
      have s2 := same_none ir (by omega)
      have hpos : 0 < 2 ^ d := Nat.pow_pos (by omega)
      have e : 2 ^ (d + 1) / 2 = 2 ^ d := by rw [Nat.pow_succ]; omega
      have e2 : 2 ^ (d + 1) - 2 ^ d = 2 ^ d := by rw [Nat.pow_succ]; omega
      have e3 : 2 ^ d ≤ 2 ^ (d + 1) := Nat.pow_le_pow_right (by omega) (by omega)
      have la : (row.take (2 ^ d)).length = 2 ^ d := by rw [List.length_take]; omega
      have lb : (row.drop (2 ^ d)).length = 2 ^ d := by rw [List.length_drop]; omega
      have cl := fun q => ih il (row.take (2 ^ d)) (by omega) his'.1.1 (by omega) q la (fun x h => hx x (List.mem_of_mem_take h))
      have cr := fun q => ih ir (row.drop (2 ^ d)) (by omega) his'.1.2 (by omega) q lb (fun x h => hx x (List.mem_of_mem_drop h))
      have lfa := growR_len il (row.take (2 ^ d)) ⟨d, la, by omega⟩
      have lfb := growR_len ir (row.drop (2 ^ d)) ⟨d, lb, by omega⟩
      have pa := growR_price (d + 1) il (row.take (2 ^ d)) (by omega)
      have pb := growR_price (d + 1) ir (row.drop (2 ^ d)) (by omega)
      have q1 : (row.length : Int).tdiv 2 = ((2 ^ d : Nat) : Int) := by rw [Int.tdiv_eq_ediv_of_nonneg (by omega), hl, ← e]; omega
      have hhalf : row.length / 2 = 2 ^ d := by omega
      generalize hK : (2 : Nat) ^ d = K at *
      have q2 : IntKind.i64.wrap (K : Int) = (K : Int) := by rw [IntKind.wrap_i64]; omega
      have hKl : K ≤ row.length := by omega
      have ht : List.take row.length (ivs row) = ivs row := by rw [List.take_of_length_le (by simp)]
      have hA : List.take K (ivs row) = ivs (row.take K) := List.map_take.symm
      have hB : List.drop K (ivs row) = ivs (row.drop K) := List.map_drop.symm
      obtain ⟨a, haT⟩ : ∃ a, a = row.take K := ⟨_, rfl⟩
      obtain ⟨b, hbD⟩ : ∃ b, b = row.drop K := ⟨_, rfl⟩
      rw [← haT] at hA la cl lfa pa
      rw [← hbD] at hB lb cr lfb pb
      rw [la] at lfa
      rw [lb] at lfb
      have z20 : ¬ ((2 : Int) = 0) := by omega
      by_cases hc : leastR row = mostR row
      · have hcc : ((leastR row : Nat) : Int) = ((mostR row : Nat) : Int) ↔ True := iff_of_true (by omega) trivial
        have hifc : (if leastR row = mostR row then 1001 else 1) = 1001 := if_pos hc
        have wl : IntKind.i64.wrap (1001 + (((growR il a).2 : Nat) : Int)) = ((1001 + (growR il a).2 : Nat) : Int) := by rw [wrap64 (by omega) (by omega)]; omega
        have wr : IntKind.i64.wrap (1001 + (((growR ir b).2 : Nat) : Int)) = ((1001 + (growR ir b).2 : Nat) : Int) := by rw [wrap64 (by omega) (by omega)]; omega
        by_cases h1 : il.none = true
        · rw [growR_1 h1, hhalf, hifc, ← haT, ← hbD]
          rw [h1] at s1
          have h2 := short_none his h1
          rw [h2] at s2
          have cr := cr h2
          refine calls_ref04_grow (walk0 300 trivial (fun A eA => ?_))
          simp (disch := first | omega | (simp only [avs_len, List.length_cons, List.length_append, List.length_nil, List.length_take, List.length_drop, List.length_map]; omega) | (simp only [cells, scal1, allSz, List.length_cons, List.length_nil, List.length_append, List.length_map, List.all_cons, List.all_nil, avs_len, beq_self_eq_true, Bool.and_self, and_self, or_true, true_or, reduceCtorEq, *]; done) | fail) only [c_ref04_grow, go_sem, Nat.reduceAdd, Nat.reduceSub, Nat.reduceMul, Nat.reduceLT, Nat.reduceLeDiff, Int.reduceToNat, Nat.reduceEqDiff, Nat.reduceBEq, ↓reduceIte, reduceCtorEq, eA]
          repeat ((first | refine call0 300 trivial trivial (by first | exact c1 | exact c2 | exact s1 | exact s2 | exact cr) (by first | exact .inl rfl | exact .inr rfl) (fun A eA => ?_) | refine call1 300 trivial trivial (by first | exact c1 | exact c2 | exact s1 | exact s2 | exact cr) (fun A eA => ?_)); simp (disch := first | omega | (simp only [avs_len, List.length_cons, List.length_append, List.length_nil, List.length_take, List.length_drop, List.length_map]; omega) | (simp only [cells, scal1, allSz, List.length_cons, List.length_nil, List.length_append, List.length_map, List.all_cons, List.all_nil, avs_len, beq_self_eq_true, Bool.and_self, and_self, or_true, true_or, reduceCtorEq, *]; done) | fail) only [c_ref04_grow, go_sem, Nat.reduceAdd, Nat.reduceSub, Nat.reduceMul, Nat.reduceLT, Nat.reduceLeDiff, Int.reduceToNat, Nat.reduceEqDiff, Nat.reduceBEq, ↓reduceIte, reduceCtorEq, eA, hcc, z20, q1, q2, hA, hB, ht, List.length_map, Int.toNat_natCast, ↓appK, catCells_ivs, catCells, wr, la, lfb])
          refine doneG ?_
          have hXY : ivs a ++ ivs (growR ir b).1 = ivs (a ++ (growR ir b).1) := by simp
          have ht2 : List.take (K + K) (ivs (a ++ (growR ir b).1)) = ivs (a ++ (growR ir b).1) := List.take_of_length_le (by simp; omega)
          rw [hXY]
          simp (disch := first | omega | (simp only [avs_len, List.length_cons, List.length_append, List.length_nil, List.length_take, List.length_drop, List.length_map]; omega) | (simp only [cells, scal1, allSz, List.length_cons, List.length_nil, List.length_append, List.length_map, List.all_cons, List.all_nil, avs_len, beq_self_eq_true, Bool.and_self, and_self, or_true, true_or, reduceCtorEq, *]; done) | fail) only [go_sem, Nat.reduceAdd, Nat.reduceSub, Nat.reduceMul, Nat.reduceLT, Nat.reduceLeDiff, Int.reduceToNat, Nat.reduceEqDiff, Nat.reduceBEq, ↓reduceIte, reduceCtorEq, ht2, ↓frz_ivs, chunk]
        · have h1n := h1
          rw [Bool.not_eq_true] at h1
          rw [h1] at s1
          have cl := cl h1
          by_cases h2 : ir.none = true
          · rw [growR_2 h1n h2, hhalf, hifc, ← haT, ← hbD]
            rw [h2] at s2
            refine calls_ref04_grow (walk0 300 trivial (fun A eA => ?_))
            simp (disch := first | omega | (simp only [avs_len, List.length_cons, List.length_append, List.length_nil, List.length_take, List.length_drop, List.length_map]; omega) | (simp only [cells, scal1, allSz, List.length_cons, List.length_nil, List.length_append, List.length_map, List.all_cons, List.all_nil, avs_len, beq_self_eq_true, Bool.and_self, and_self, or_true, true_or, reduceCtorEq, *]; done) | fail) only [c_ref04_grow, go_sem, Nat.reduceAdd, Nat.reduceSub, Nat.reduceMul, Nat.reduceLT, Nat.reduceLeDiff, Int.reduceToNat, Nat.reduceEqDiff, Nat.reduceBEq, ↓reduceIte, reduceCtorEq, eA]
            repeat ((first | refine call0 300 trivial trivial (by first | exact c1 | exact c2 | exact s1 | exact s2 | exact cl) (by first | exact .inl rfl | exact .inr rfl) (fun A eA => ?_) | refine call1 300 trivial trivial (by first | exact c1 | exact c2 | exact s1 | exact s2 | exact cl) (fun A eA => ?_)); simp (disch := first | omega | (simp only [avs_len, List.length_cons, List.length_append, List.length_nil, List.length_take, List.length_drop, List.length_map]; omega) | (simp only [cells, scal1, allSz, List.length_cons, List.length_nil, List.length_append, List.length_map, List.all_cons, List.all_nil, avs_len, beq_self_eq_true, Bool.and_self, and_self, or_true, true_or, reduceCtorEq, *]; done) | fail) only [c_ref04_grow, go_sem, Nat.reduceAdd, Nat.reduceSub, Nat.reduceMul, Nat.reduceLT, Nat.reduceLeDiff, Int.reduceToNat, Nat.reduceEqDiff, Nat.reduceBEq, ↓reduceIte, reduceCtorEq, eA, hcc, z20, q1, q2, hA, hB, ht, List.length_map, Int.toNat_natCast, ↓appK, catCells_ivs, catCells, wl, lb, lfa])
            refine doneG ?_
            have hXY : ivs (growR il a).1 ++ ivs b = ivs ((growR il a).1 ++ b) := by simp
            have ht2 : List.take (K + K) (ivs ((growR il a).1 ++ b)) = ivs ((growR il a).1 ++ b) := List.take_of_length_le (by simp; omega)
            rw [hXY]
            simp (disch := first | omega | (simp only [avs_len, List.length_cons, List.length_append, List.length_nil, List.length_take, List.length_drop, List.length_map]; omega) | (simp only [cells, scal1, allSz, List.length_cons, List.length_nil, List.length_append, List.length_map, List.all_cons, List.all_nil, avs_len, beq_self_eq_true, Bool.and_self, and_self, or_true, true_or, reduceCtorEq, *]; done) | fail) only [go_sem, Nat.reduceAdd, Nat.reduceSub, Nat.reduceMul, Nat.reduceLT, Nat.reduceLeDiff, Int.reduceToNat, Nat.reduceEqDiff, Nat.reduceBEq, ↓reduceIte, reduceCtorEq, ht2, ↓frz_ivs, chunk]
          · have h2n := h2
            rw [Bool.not_eq_true] at h2
            rw [h2] at s2
            have cr := cr h2
            by_cases h3 : (growR ir (row.drop (row.length / 2))).2 ≤ (growR il (row.take (row.length / 2))).2
            · rw [growR_3 h1n h2n h3]
              rw [hhalf, ← haT, ← hbD] at h3
              rw [hhalf, hifc, ← haT, ← hbD]
              have h3' : (((growR ir b).2 : Nat) : Int) ≤ (((growR il a).2 : Nat) : Int) := by omega
              refine calls_ref04_grow (walk0 300 trivial (fun A eA => ?_))
              simp (disch := first | omega | (simp only [avs_len, List.length_cons, List.length_append, List.length_nil, List.length_take, List.length_drop, List.length_map]; omega) | (simp only [cells, scal1, allSz, List.length_cons, List.length_nil, List.length_append, List.length_map, List.all_cons, List.all_nil, avs_len, beq_self_eq_true, Bool.and_self, and_self, or_true, true_or, reduceCtorEq, *]; done) | fail) only [c_ref04_grow, go_sem, Nat.reduceAdd, Nat.reduceSub, Nat.reduceMul, Nat.reduceLT, Nat.reduceLeDiff, Int.reduceToNat, Nat.reduceEqDiff, Nat.reduceBEq, ↓reduceIte, reduceCtorEq, eA]
              repeat ((first | refine call0 300 trivial trivial (by first | exact c1 | exact c2 | exact s1 | exact s2 | exact cl | exact cr) (by first | exact .inl rfl | exact .inr rfl) (fun A eA => ?_) | refine call1 300 trivial trivial (by first | exact c1 | exact c2 | exact s1 | exact s2 | exact cl | exact cr) (fun A eA => ?_)); simp (disch := first | omega | (simp only [avs_len, List.length_cons, List.length_append, List.length_nil, List.length_take, List.length_drop, List.length_map]; omega) | (simp only [cells, scal1, allSz, List.length_cons, List.length_nil, List.length_append, List.length_map, List.all_cons, List.all_nil, avs_len, beq_self_eq_true, Bool.and_self, and_self, or_true, true_or, reduceCtorEq, *]; done) | fail) only [c_ref04_grow, go_sem, Nat.reduceAdd, Nat.reduceSub, Nat.reduceMul, Nat.reduceLT, Nat.reduceLeDiff, Int.reduceToNat, Nat.reduceEqDiff, Nat.reduceBEq, ↓reduceIte, reduceCtorEq, eA, hcc, z20, q1, q2, hA, hB, ht, List.length_map, Int.toNat_natCast, ↓appK, catCells_ivs, catCells, wr, la, lfb, h3'])
              refine doneG ?_
              have hXY : ivs a ++ ivs (growR ir b).1 = ivs (a ++ (growR ir b).1) := by simp
              have ht2 : List.take (K + K) (ivs (a ++ (growR ir b).1)) = ivs (a ++ (growR ir b).1) := List.take_of_length_le (by simp; omega)
              rw [hXY]
              simp (disch := first | omega | (simp only [avs_len, List.length_cons, List.length_append, List.length_nil, List.length_take, List.length_drop, List.length_map]; omega) | (simp only [cells, scal1, allSz, List.length_cons, List.length_nil, List.length_append, List.length_map, List.all_cons, List.all_nil, avs_len, beq_self_eq_true, Bool.and_self, and_self, or_true, true_or, reduceCtorEq, *]; done) | fail) only [go_sem, Nat.reduceAdd, Nat.reduceSub, Nat.reduceMul, Nat.reduceLT, Nat.reduceLeDiff, Int.reduceToNat, Nat.reduceEqDiff, Nat.reduceBEq, ↓reduceIte, reduceCtorEq, ht2, ↓frz_ivs, chunk]
            · rw [growR_4 h1n h2n h3]
              rw [hhalf, ← haT, ← hbD] at h3
              rw [hhalf, hifc, ← haT, ← hbD]
              have h3' : ¬ (((growR ir b).2 : Nat) : Int) ≤ (((growR il a).2 : Nat) : Int) := by omega
              refine calls_ref04_grow (walk0 300 trivial (fun A eA => ?_))
              simp (disch := first | omega | (simp only [avs_len, List.length_cons, List.length_append, List.length_nil, List.length_take, List.length_drop, List.length_map]; omega) | (simp only [cells, scal1, allSz, List.length_cons, List.length_nil, List.length_append, List.length_map, List.all_cons, List.all_nil, avs_len, beq_self_eq_true, Bool.and_self, and_self, or_true, true_or, reduceCtorEq, *]; done) | fail) only [c_ref04_grow, go_sem, Nat.reduceAdd, Nat.reduceSub, Nat.reduceMul, Nat.reduceLT, Nat.reduceLeDiff, Int.reduceToNat, Nat.reduceEqDiff, Nat.reduceBEq, ↓reduceIte, reduceCtorEq, eA]
              repeat ((first | refine call0 300 trivial trivial (by first | exact c1 | exact c2 | exact s1 | exact s2 | exact cl | exact cr) (by first | exact .inl rfl | exact .inr rfl) (fun A eA => ?_) | refine call1 300 trivial trivial (by first | exact c1 | exact c2 | exact s1 | exact s2 | exact cl | exact cr) (fun A eA => ?_)); simp (disch := first | omega | (simp only [avs_len, List.length_cons, List.length_append, List.length_nil, List.length_take, List.length_drop, List.length_map]; omega) | (simp only [cells, scal1, allSz, List.length_cons, List.length_nil, List.length_append, List.length_map, List.all_cons, List.all_nil, avs_len, beq_self_eq_true, Bool.and_self, and_self, or_true, true_or, reduceCtorEq, *]; done) | fail) only [c_ref04_grow, go_sem, Nat.reduceAdd, Nat.reduceSub, Nat.reduceMul, Nat.reduceLT, Nat.reduceLeDiff, Int.reduceToNat, Nat.reduceEqDiff, Nat.reduceBEq, ↓reduceIte, reduceCtorEq, eA, hcc, z20, q1, q2, hA, hB, ht, List.length_map, Int.toNat_natCast, ↓appK, catCells_ivs, catCells, wl, lb, lfa, h3'])
              refine doneG ?_
              have hXY : ivs (growR il a).1 ++ ivs b = ivs ((growR il a).1 ++ b) := by simp
              have ht2 : List.take (K + K) (ivs ((growR il a).1 ++ b)) = ivs ((growR il a).1 ++ b) := List.take_of_length_le (by simp; omega)
              rw [hXY]
              simp (disch := first | omega | (simp only [avs_len, List.length_cons, List.length_append, List.length_nil, List.length_take, List.length_drop, List.length_map]; omega) | (simp only [cells, scal1, allSz, List.length_cons, List.length_nil, List.length_append, List.length_map, List.all_cons, List.all_nil, avs_len, beq_self_eq_true, Bool.and_self, and_self, or_true, true_or, reduceCtorEq, *]; done) | fail) only [go_sem, Nat.reduceAdd, Nat.reduceSub, Nat.reduceMul, Nat.reduceLT, Nat.reduceLeDiff, Int.reduceToNat, Nat.reduceEqDiff, Nat.reduceBEq, ↓reduceIte, reduceCtorEq, ht2, ↓frz_ivs, chunk]
      · have hcc : ((leastR row : Nat) : Int) = ((mostR row : Nat) : Int) ↔ False := iff_of_false (by omega) id
        have hifc : (if leastR row = mostR row then 1001 else 1) = 1 := if_neg hc
        have wl : IntKind.i64.wrap (1 + (((growR il a).2 : Nat) : Int)) = ((1 + (growR il a).2 : Nat) : Int) := by rw [wrap64 (by omega) (by omega)]; omega
        have wr : IntKind.i64.wrap (1 + (((growR ir b).2 : Nat) : Int)) = ((1 + (growR ir b).2 : Nat) : Int) := by rw [wrap64 (by omega) (by omega)]; omega
        by_cases h1 : il.none = true
        · rw [growR_1 h1, hhalf, hifc, ← haT, ← hbD]
          rw [h1] at s1
          have h2 := short_none his h1
          rw [h2] at s2
          have cr := cr h2
          refine calls_ref04_grow (walk0 300 trivial (fun A eA => ?_))
          simp (disch := first | omega | (simp only [avs_len, List.length_cons, List.length_append, List.length_nil, List.length_take, List.length_drop, List.length_map]; omega) | (simp only [cells, scal1, allSz, List.length_cons, List.length_nil, List.length_append, List.length_map, List.all_cons, List.all_nil, avs_len, beq_self_eq_true, Bool.and_self, and_self, or_true, true_or, reduceCtorEq, *]; done) | fail) only [c_ref04_grow, go_sem, Nat.reduceAdd, Nat.reduceSub, Nat.reduceMul, Nat.reduceLT, Nat.reduceLeDiff, Int.reduceToNat, Nat.reduceEqDiff, Nat.reduceBEq, ↓reduceIte, reduceCtorEq, eA]
          repeat ((first | refine call0 300 trivial trivial (by first | exact c1 | exact c2 | exact s1 | exact s2 | exact cr) (by first | exact .inl rfl | exact .inr rfl) (fun A eA => ?_) | refine call1 300 trivial trivial (by first | exact c1 | exact c2 | exact s1 | exact s2 | exact cr) (fun A eA => ?_)); simp (disch := first | omega | (simp only [avs_len, List.length_cons, List.length_append, List.length_nil, List.length_take, List.length_drop, List.length_map]; omega) | (simp only [cells, scal1, allSz, List.length_cons, List.length_nil, List.length_append, List.length_map, List.all_cons, List.all_nil, avs_len, beq_self_eq_true, Bool.and_self, and_self, or_true, true_or, reduceCtorEq, *]; done) | fail) only [c_ref04_grow, go_sem, Nat.reduceAdd, Nat.reduceSub, Nat.reduceMul, Nat.reduceLT, Nat.reduceLeDiff, Int.reduceToNat, Nat.reduceEqDiff, Nat.reduceBEq, ↓reduceIte, reduceCtorEq, eA, hcc, z20, q1, q2, hA, hB, ht, List.length_map, Int.toNat_natCast, ↓appK, catCells_ivs, catCells, wr, la, lfb])
          refine doneG ?_
          have hXY : ivs a ++ ivs (growR ir b).1 = ivs (a ++ (growR ir b).1) := by simp
          have ht2 : List.take (K + K) (ivs (a ++ (growR ir b).1)) = ivs (a ++ (growR ir b).1) := List.take_of_length_le (by simp; omega)
          rw [hXY]
          simp (disch := first | omega | (simp only [avs_len, List.length_cons, List.length_append, List.length_nil, List.length_take, List.length_drop, List.length_map]; omega) | (simp only [cells, scal1, allSz, List.length_cons, List.length_nil, List.length_append, List.length_map, List.all_cons, List.all_nil, avs_len, beq_self_eq_true, Bool.and_self, and_self, or_true, true_or, reduceCtorEq, *]; done) | fail) only [go_sem, Nat.reduceAdd, Nat.reduceSub, Nat.reduceMul, Nat.reduceLT, Nat.reduceLeDiff, Int.reduceToNat, Nat.reduceEqDiff, Nat.reduceBEq, ↓reduceIte, reduceCtorEq, ht2, ↓frz_ivs, chunk]
        · have h1n := h1
          rw [Bool.not_eq_true] at h1
          rw [h1] at s1
          have cl := cl h1
          by_cases h2 : ir.none = true
          · rw [growR_2 h1n h2, hhalf, hifc, ← haT, ← hbD]
            rw [h2] at s2
            refine calls_ref04_grow (walk0 300 trivial (fun A eA => ?_))
            simp (disch := first | omega | (simp only [avs_len, List.length_cons, List.length_append, List.length_nil, List.length_take, List.length_drop, List.length_map]; omega) | (simp only [cells, scal1, allSz, List.length_cons, List.length_nil, List.length_append, List.length_map, List.all_cons, List.all_nil, avs_len, beq_self_eq_true, Bool.and_self, and_self, or_true, true_or, reduceCtorEq, *]; done) | fail) only [c_ref04_grow, go_sem, Nat.reduceAdd, Nat.reduceSub, Nat.reduceMul, Nat.reduceLT, Nat.reduceLeDiff, Int.reduceToNat, Nat.reduceEqDiff, Nat.reduceBEq, ↓reduceIte, reduceCtorEq, eA]
            repeat ((first | refine call0 300 trivial trivial (by first | exact c1 | exact c2 | exact s1 | exact s2 | exact cl) (by first | exact .inl rfl | exact .inr rfl) (fun A eA => ?_) | refine call1 300 trivial trivial (by first | exact c1 | exact c2 | exact s1 | exact s2 | exact cl) (fun A eA => ?_)); simp (disch := first | omega | (simp only [avs_len, List.length_cons, List.length_append, List.length_nil, List.length_take, List.length_drop, List.length_map]; omega) | (simp only [cells, scal1, allSz, List.length_cons, List.length_nil, List.length_append, List.length_map, List.all_cons, List.all_nil, avs_len, beq_self_eq_true, Bool.and_self, and_self, or_true, true_or, reduceCtorEq, *]; done) | fail) only [c_ref04_grow, go_sem, Nat.reduceAdd, Nat.reduceSub, Nat.reduceMul, Nat.reduceLT, Nat.reduceLeDiff, Int.reduceToNat, Nat.reduceEqDiff, Nat.reduceBEq, ↓reduceIte, reduceCtorEq, eA, hcc, z20, q1, q2, hA, hB, ht, List.length_map, Int.toNat_natCast, ↓appK, catCells_ivs, catCells, wl, lb, lfa])
            refine doneG ?_
            have hXY : ivs (growR il a).1 ++ ivs b = ivs ((growR il a).1 ++ b) := by simp
            have ht2 : List.take (K + K) (ivs ((growR il a).1 ++ b)) = ivs ((growR il a).1 ++ b) := List.take_of_length_le (by simp; omega)
            rw [hXY]
            simp (disch := first | omega | (simp only [avs_len, List.length_cons, List.length_append, List.length_nil, List.length_take, List.length_drop, List.length_map]; omega) | (simp only [cells, scal1, allSz, List.length_cons, List.length_nil, List.length_append, List.length_map, List.all_cons, List.all_nil, avs_len, beq_self_eq_true, Bool.and_self, and_self, or_true, true_or, reduceCtorEq, *]; done) | fail) only [go_sem, Nat.reduceAdd, Nat.reduceSub, Nat.reduceMul, Nat.reduceLT, Nat.reduceLeDiff, Int.reduceToNat, Nat.reduceEqDiff, Nat.reduceBEq, ↓reduceIte, reduceCtorEq, ht2, ↓frz_ivs, chunk]
          · have h2n := h2
            rw [Bool.not_eq_true] at h2
            rw [h2] at s2
            have cr := cr h2
            by_cases h3 : (growR ir (row.drop (row.length / 2))).2 ≤ (growR il (row.take (row.length / 2))).2
            · rw [growR_3 h1n h2n h3]
              rw [hhalf, ← haT, ← hbD] at h3
              rw [hhalf, hifc, ← haT, ← hbD]
              have h3' : (((growR ir b).2 : Nat) : Int) ≤ (((growR il a).2 : Nat) : Int) := by omega
              refine calls_ref04_grow (walk0 300 trivial (fun A eA => ?_))
              simp (disch := first | omega | (simp only [avs_len, List.length_cons, List.length_append, List.length_nil, List.length_take, List.length_drop, List.length_map]; omega) | (simp only [cells, scal1, allSz, List.length_cons, List.length_nil, List.length_append, List.length_map, List.all_cons, List.all_nil, avs_len, beq_self_eq_true, Bool.and_self, and_self, or_true, true_or, reduceCtorEq, *]; done) | fail) only [c_ref04_grow, go_sem, Nat.reduceAdd, Nat.reduceSub, Nat.reduceMul, Nat.reduceLT, Nat.reduceLeDiff, Int.reduceToNat, Nat.reduceEqDiff, Nat.reduceBEq, ↓reduceIte, reduceCtorEq, eA]
              repeat ((first | refine call0 300 trivial trivial (by first | exact c1 | exact c2 | exact s1 | exact s2 | exact cl | exact cr) (by first | exact .inl rfl | exact .inr rfl) (fun A eA => ?_) | refine call1 300 trivial trivial (by first | exact c1 | exact c2 | exact s1 | exact s2 | exact cl | exact cr) (fun A eA => ?_)); simp (disch := first | omega | (simp only [avs_len, List.length_cons, List.length_append, List.length_nil, List.length_take, List.length_drop, List.length_map]; omega) | (simp only [cells, scal1, allSz, List.length_cons, List.length_nil, List.length_append, List.length_map, List.all_cons, List.all_nil, avs_len, beq_self_eq_true, Bool.and_self, and_self, or_true, true_or, reduceCtorEq, *]; done) | fail) only [c_ref04_grow, go_sem, Nat.reduceAdd, Nat.reduceSub, Nat.reduceMul, Nat.reduceLT, Nat.reduceLeDiff, Int.reduceToNat, Nat.reduceEqDiff, Nat.reduceBEq, ↓reduceIte, reduceCtorEq, eA, hcc, z20, q1, q2, hA, hB, ht, List.length_map, Int.toNat_natCast, ↓appK, catCells_ivs, catCells, wr, la, lfb, h3'])
              refine doneG ?_
              have hXY : ivs a ++ ivs (growR ir b).1 = ivs (a ++ (growR ir b).1) := by simp
              have ht2 : List.take (K + K) (ivs (a ++ (growR ir b).1)) = ivs (a ++ (growR ir b).1) := List.take_of_length_le (by simp; omega)
              rw [hXY]
              simp (disch := first | omega | (simp only [avs_len, List.length_cons, List.length_append, List.length_nil, List.length_take, List.length_drop, List.length_map]; omega) | (simp only [cells, scal1, allSz, List.length_cons, List.length_nil, List.length_append, List.length_map, List.all_cons, List.all_nil, avs_len, beq_self_eq_true, Bool.and_self, and_self, or_true, true_or, reduceCtorEq, *]; done) | fail) only [go_sem, Nat.reduceAdd, Nat.reduceSub, Nat.reduceMul, Nat.reduceLT, Nat.reduceLeDiff, Int.reduceToNat, Nat.reduceEqDiff, Nat.reduceBEq, ↓reduceIte, reduceCtorEq, ht2, ↓frz_ivs, chunk]
            · rw [growR_4 h1n h2n h3]
              rw [hhalf, ← haT, ← hbD] at h3
              rw [hhalf, hifc, ← haT, ← hbD]
              have h3' : ¬ (((growR ir b).2 : Nat) : Int) ≤ (((growR il a).2 : Nat) : Int) := by omega
              refine calls_ref04_grow (walk0 300 trivial (fun A eA => ?_))
              simp (disch := first | omega | (simp only [avs_len, List.length_cons, List.length_append, List.length_nil, List.length_take, List.length_drop, List.length_map]; omega) | (simp only [cells, scal1, allSz, List.length_cons, List.length_nil, List.length_append, List.length_map, List.all_cons, List.all_nil, avs_len, beq_self_eq_true, Bool.and_self, and_self, or_true, true_or, reduceCtorEq, *]; done) | fail) only [c_ref04_grow, go_sem, Nat.reduceAdd, Nat.reduceSub, Nat.reduceMul, Nat.reduceLT, Nat.reduceLeDiff, Int.reduceToNat, Nat.reduceEqDiff, Nat.reduceBEq, ↓reduceIte, reduceCtorEq, eA]
              repeat ((first | refine call0 300 trivial trivial (by first | exact c1 | exact c2 | exact s1 | exact s2 | exact cl | exact cr) (by first | exact .inl rfl | exact .inr rfl) (fun A eA => ?_) | refine call1 300 trivial trivial (by first | exact c1 | exact c2 | exact s1 | exact s2 | exact cl | exact cr) (fun A eA => ?_)); simp (disch := first | omega | (simp only [avs_len, List.length_cons, List.length_append, List.length_nil, List.length_take, List.length_drop, List.length_map]; omega) | (simp only [cells, scal1, allSz, List.length_cons, List.length_nil, List.length_append, List.length_map, List.all_cons, List.all_nil, avs_len, beq_self_eq_true, Bool.and_self, and_self, or_true, true_or, reduceCtorEq, *]; done) | fail) only [c_ref04_grow, go_sem, Nat.reduceAdd, Nat.reduceSub, Nat.reduceMul, Nat.reduceLT, Nat.reduceLeDiff, Int.reduceToNat, Nat.reduceEqDiff, Nat.reduceBEq, ↓reduceIte, reduceCtorEq, eA, hcc, z20, q1, q2, hA, hB, ht, List.length_map, Int.toNat_natCast, ↓appK, catCells_ivs, catCells, wl, lb, lfa, h3'])
              refine doneG ?_
              have hXY : ivs (growR il a).1 ++ ivs b = ivs ((growR il a).1 ++ b) := by simp
              have ht2 : List.take (K + K) (ivs ((growR il a).1 ++ b)) = ivs ((growR il a).1 ++ b) := List.take_of_length_le (by simp; omega)
              rw [hXY]
              simp (disch := first | omega | (simp only [avs_len, List.length_cons, List.length_append, List.length_nil, List.length_take, List.length_drop, List.length_map]; omega) | (simp only [cells, scal1, allSz, List.length_cons, List.length_nil, List.length_append, List.length_map, List.all_cons, List.all_nil, avs_len, beq_self_eq_true, Bool.and_self, and_self, or_true, true_or, reduceCtorEq, *]; done) | fail) only [go_sem, Nat.reduceAdd, Nat.reduceSub, Nat.reduceMul, Nat.reduceLT, Nat.reduceLeDiff, Int.reduceToNat, Nat.reduceEqDiff, Nat.reduceBEq, ↓reduceIte, reduceCtorEq, ht2, ↓frz_ivs, chunk]
end Go.Proofs.Ytmokhopjnjecbab
/- The walks through Tell: the program's and the reference's. -/
-- short
-- fuel 300
namespace Go.Proofs.Ytmokhopjnjecbab
open Go.Ev
set_option linter.unusedVariables false
set_option linter.unusedSimpArgs false
set_option maxRecDepth 100000
set_option maxHeartbeats 3200000

open Classical in
noncomputable def tellE (i : B) (e : E) : E := if fillE i e = e then (growE i e).1 else fillE i e
theorem xTell_no (t : Tree) (a : ET) (h : ¬ (Rt t ∧ ¬ (t.ps.length = 0 ∧ t.one = false) ∧ XRt a)) : PCalls Try.prog F_event_Tell [tv t, xtv a] (.tup [xtv (.mk 0 []), .int .i64 1]) := by
  have c1 := right_calls t
  have c2 := nothing_calls t
  have c3 := xright_calls a
  by_cases h1 : Rt t
  · rw [rtb_true.2 h1] at c1
    by_cases h2 : t.ps.length = 0 ∧ t.one = false
    · rw [show (decide (t.ps.length = 0) && !t.one) = true by simp [h2.1, h2.2]] at c2
      refine calls_event_Tell (walk0 300 trivial (fun A eA => ?_))
      simp (disch := first | omega | (simp only [avs_len, List.length_cons, List.length_append, List.length_nil, List.length_take, List.length_drop, List.length_map]; omega) | (simp only [cells, scal1, allSz, List.length_cons, List.length_nil, List.length_append, List.length_map, List.all_cons, List.all_nil, avs_len, beq_self_eq_true, Bool.and_self, and_self, or_true, true_or, reduceCtorEq, *]; done) | fail) only [c_event_Tell, go_sem, Nat.reduceAdd, Nat.reduceSub, Nat.reduceMul, Nat.reduceLT, Nat.reduceLeDiff, Int.reduceToNat, Nat.reduceEqDiff, Nat.reduceBEq, ↓reduceIte, reduceCtorEq, eA]
      repeat ((first | refine call0 300 trivial trivial (by first | exact c1 | exact c2 | exact c3) (by first | exact .inl rfl | exact .inr rfl) (fun A eA => ?_) | refine call1 300 trivial trivial (by first | exact c1 | exact c2 | exact c3) (fun A eA => ?_)); simp (disch := first | omega | (simp only [avs_len, List.length_cons, List.length_append, List.length_nil, List.length_take, List.length_drop, List.length_map]; omega) | (simp only [cells, scal1, allSz, List.length_cons, List.length_nil, List.length_append, List.length_map, List.all_cons, List.all_nil, avs_len, beq_self_eq_true, Bool.and_self, and_self, or_true, true_or, reduceCtorEq, *]; done) | fail) only [c_event_Tell, go_sem, Nat.reduceAdd, Nat.reduceSub, Nat.reduceMul, Nat.reduceLT, Nat.reduceLeDiff, Int.reduceToNat, Nat.reduceEqDiff, Nat.reduceBEq, ↓reduceIte, reduceCtorEq, eA])
      exact doneW rfl (xwk_pair 1)
    · rw [show (decide (t.ps.length = 0) && !t.one) = false by cases ho : t.one <;> simp_all] at c2
      have h3 : ¬ XRt a := fun q => h ⟨h1, h2, q⟩
      rw [xrtb_no h3] at c3
      refine calls_event_Tell (walk0 300 trivial (fun A eA => ?_))
      simp (disch := first | omega | (simp only [avs_len, List.length_cons, List.length_append, List.length_nil, List.length_take, List.length_drop, List.length_map]; omega) | (simp only [cells, scal1, allSz, List.length_cons, List.length_nil, List.length_append, List.length_map, List.all_cons, List.all_nil, avs_len, beq_self_eq_true, Bool.and_self, and_self, or_true, true_or, reduceCtorEq, *]; done) | fail) only [c_event_Tell, go_sem, Nat.reduceAdd, Nat.reduceSub, Nat.reduceMul, Nat.reduceLT, Nat.reduceLeDiff, Int.reduceToNat, Nat.reduceEqDiff, Nat.reduceBEq, ↓reduceIte, reduceCtorEq, eA]
      repeat ((first | refine call0 300 trivial trivial (by first | exact c1 | exact c2 | exact c3) (by first | exact .inl rfl | exact .inr rfl) (fun A eA => ?_) | refine call1 300 trivial trivial (by first | exact c1 | exact c2 | exact c3) (fun A eA => ?_)); simp (disch := first | omega | (simp only [avs_len, List.length_cons, List.length_append, List.length_nil, List.length_take, List.length_drop, List.length_map]; omega) | (simp only [cells, scal1, allSz, List.length_cons, List.length_nil, List.length_append, List.length_map, List.all_cons, List.all_nil, avs_len, beq_self_eq_true, Bool.and_self, and_self, or_true, true_or, reduceCtorEq, *]; done) | fail) only [c_event_Tell, go_sem, Nat.reduceAdd, Nat.reduceSub, Nat.reduceMul, Nat.reduceLT, Nat.reduceLeDiff, Int.reduceToNat, Nat.reduceEqDiff, Nat.reduceBEq, ↓reduceIte, reduceCtorEq, eA])
      exact doneW rfl (xwk_pair 1)
  · rw [show rtb t = false by rw [Bool.eq_false_iff, ne_eq, rtb_true]; exact h1] at c1
    refine calls_event_Tell (walk0 300 trivial (fun A eA => ?_))
    simp (disch := first | omega | (simp only [avs_len, List.length_cons, List.length_append, List.length_nil, List.length_take, List.length_drop, List.length_map]; omega) | (simp only [cells, scal1, allSz, List.length_cons, List.length_nil, List.length_append, List.length_map, List.all_cons, List.all_nil, avs_len, beq_self_eq_true, Bool.and_self, and_self, or_true, true_or, reduceCtorEq, *]; done) | fail) only [c_event_Tell, go_sem, Nat.reduceAdd, Nat.reduceSub, Nat.reduceMul, Nat.reduceLT, Nat.reduceLeDiff, Int.reduceToNat, Nat.reduceEqDiff, Nat.reduceBEq, ↓reduceIte, reduceCtorEq, eA]
    repeat ((first | refine call0 300 trivial trivial (by first | exact c1 | exact c2 | exact c3) (by first | exact .inl rfl | exact .inr rfl) (fun A eA => ?_) | refine call1 300 trivial trivial (by first | exact c1 | exact c2 | exact c3) (fun A eA => ?_)); simp (disch := first | omega | (simp only [avs_len, List.length_cons, List.length_append, List.length_nil, List.length_take, List.length_drop, List.length_map]; omega) | (simp only [cells, scal1, allSz, List.length_cons, List.length_nil, List.length_append, List.length_map, List.all_cons, List.all_nil, avs_len, beq_self_eq_true, Bool.and_self, and_self, or_true, true_or, reduceCtorEq, *]; done) | fail) only [c_event_Tell, go_sem, Nat.reduceAdd, Nat.reduceSub, Nat.reduceMul, Nat.reduceLT, Nat.reduceLeDiff, Int.reduceToNat, Nat.reduceEqDiff, Nat.reduceBEq, ↓reduceIte, reduceCtorEq, eA])
    exact doneW rfl (xwk_pair 1)
theorem xTell_calls (i : B) (e : E) (hi : Rt i.t) (hd : i.dep ≤ 8) (hn : i.none = false) (he : XRt e.t) {r : ET} {c : Nat} (hj : (XRt (tellE i e).t ∧ r = (tellE i e).t ∧ c = 0) ∨ (¬ XRt (tellE i e).t ∧ r = .mk 0 [] ∧ c = 9)) : PCalls Try.prog F_event_Tell [tv i.t, xtv e.t] (.tup [xtv r, .int .i64 (c : Nat)]) := by
  obtain ⟨x, hx, x1, x2, x3, x4⟩ := id he
  obtain rfl := E.inj hx
  have c1 := right_calls i.t
  rw [rtb_true.2 hi] at c1
  have c2 := nothing_b i
  rw [hn] at c2
  have c3 := xright_calls e.t
  rw [xrtb_true.2 he] at c3
  have ht := E.top_small x4
  have ht2 : e.dep * 1099511627776 ≤ 8 * 1099511627776 := Nat.mul_le_mul_right _ x1
  have c4 := xfill_calls i e (by omega)
  have c5 := xgrow_calls 8 i e (by omega) hd (by omega)
  have hfn : (fillE i e).dep ≤ 8 := Nat.le_trans (fillE_dep i e) x1
  have c6 := xSame4_calls (fillE i e).t e.t (by
    rw [E.t_size]
    have : ∀ (b : E) (d : Nat), b.dep ≤ d → b.nodes < 2 ^ d := by
      intro b
      induction b with
      | lf n => intro d h; simp only [E.dep] at h; simp only [E.nodes]; exact Nat.lt_of_lt_of_le (by omega) (Nat.pow_le_pow_right (n := 2) (by omega) h)
      | nd n l r ihl ihr =>
        intro d h
        simp only [E.dep] at h
        match d with
        | 0 => omega
        | d + 1 =>
          have a := ihl d (by omega)
          have b := ihr d (by omega)
          simp only [E.nodes, Nat.pow_succ]; omega
    have := this (fillE i e) 8 hfn
    omega)
  have es : xsm 8 (fillE i e).t e.t = true ↔ fillE i e = e := by
    rw [xsm_iff]
    constructor
    · rintro ⟨q, _⟩; exact E.inj q
    · intro q; exact ⟨by rw [q], (xflat_dep 8 _).2 hfn⟩
  refine calls_event_Tell (walk0 300 trivial (fun A eA => ?_))
  by_cases h : fillE i e = e
  · have ht : tellE i e = (growE i e).1 := if_pos h
    rw [ht] at hj
    rw [es.2 h] at c6
    rcases hj with ⟨h1, rfl, rfl⟩ | ⟨h1, rfl, rfl⟩
    · have c7 := xtold_yes h1
      simp (disch := first | omega | (simp only [avs_len, List.length_cons, List.length_append, List.length_nil, List.length_take, List.length_drop, List.length_map]; omega) | (simp only [cells, scal1, allSz, List.length_cons, List.length_nil, List.length_append, List.length_map, List.all_cons, List.all_nil, avs_len, beq_self_eq_true, Bool.and_self, and_self, or_true, true_or, reduceCtorEq, *]; done) | fail) only [c_event_Tell, go_sem, Nat.reduceAdd, Nat.reduceSub, Nat.reduceMul, Nat.reduceLT, Nat.reduceLeDiff, Int.reduceToNat, Nat.reduceEqDiff, Nat.reduceBEq, ↓reduceIte, reduceCtorEq, eA]
      repeat ((first | refine call0 300 trivial trivial (by first | exact c1 | exact c2 | exact c3 | exact c4 | exact c5 | exact c6 | exact c7) (by first | exact .inl rfl | exact .inr rfl) (fun A eA => ?_) | refine call1 300 trivial trivial (by first | exact c1 | exact c2 | exact c3 | exact c4 | exact c5 | exact c6 | exact c7) (fun A eA => ?_)); simp (disch := first | omega | (simp only [avs_len, List.length_cons, List.length_append, List.length_nil, List.length_take, List.length_drop, List.length_map]; omega) | (simp only [cells, scal1, allSz, List.length_cons, List.length_nil, List.length_append, List.length_map, List.all_cons, List.all_nil, avs_len, beq_self_eq_true, Bool.and_self, and_self, or_true, true_or, reduceCtorEq, *]; done) | fail) only [c_event_Tell, go_sem, Nat.reduceAdd, Nat.reduceSub, Nat.reduceMul, Nat.reduceLT, Nat.reduceLeDiff, Int.reduceToNat, Nat.reduceEqDiff, Nat.reduceBEq, ↓reduceIte, reduceCtorEq, eA])
      exact doneG rfl
    · have c7 := xtold_no h1
      simp (disch := first | omega | (simp only [avs_len, List.length_cons, List.length_append, List.length_nil, List.length_take, List.length_drop, List.length_map]; omega) | (simp only [cells, scal1, allSz, List.length_cons, List.length_nil, List.length_append, List.length_map, List.all_cons, List.all_nil, avs_len, beq_self_eq_true, Bool.and_self, and_self, or_true, true_or, reduceCtorEq, *]; done) | fail) only [c_event_Tell, go_sem, Nat.reduceAdd, Nat.reduceSub, Nat.reduceMul, Nat.reduceLT, Nat.reduceLeDiff, Int.reduceToNat, Nat.reduceEqDiff, Nat.reduceBEq, ↓reduceIte, reduceCtorEq, eA]
      repeat ((first | refine call0 300 trivial trivial (by first | exact c1 | exact c2 | exact c3 | exact c4 | exact c5 | exact c6 | exact c7) (by first | exact .inl rfl | exact .inr rfl) (fun A eA => ?_) | refine call1 300 trivial trivial (by first | exact c1 | exact c2 | exact c3 | exact c4 | exact c5 | exact c6 | exact c7) (fun A eA => ?_)); simp (disch := first | omega | (simp only [avs_len, List.length_cons, List.length_append, List.length_nil, List.length_take, List.length_drop, List.length_map]; omega) | (simp only [cells, scal1, allSz, List.length_cons, List.length_nil, List.length_append, List.length_map, List.all_cons, List.all_nil, avs_len, beq_self_eq_true, Bool.and_self, and_self, or_true, true_or, reduceCtorEq, *]; done) | fail) only [c_event_Tell, go_sem, Nat.reduceAdd, Nat.reduceSub, Nat.reduceMul, Nat.reduceLT, Nat.reduceLeDiff, Int.reduceToNat, Nat.reduceEqDiff, Nat.reduceBEq, ↓reduceIte, reduceCtorEq, eA])
      exact doneG rfl
  · have ht : tellE i e = fillE i e := if_neg h
    rw [ht] at hj
    rw [show xsm 8 (fillE i e).t e.t = false by rw [Bool.eq_false_iff, ne_eq, es]; exact h] at c6
    rcases hj with ⟨h1, rfl, rfl⟩ | ⟨h1, rfl, rfl⟩
    · have c7 := xtold_yes h1
      simp (disch := first | omega | (simp only [avs_len, List.length_cons, List.length_append, List.length_nil, List.length_take, List.length_drop, List.length_map]; omega) | (simp only [cells, scal1, allSz, List.length_cons, List.length_nil, List.length_append, List.length_map, List.all_cons, List.all_nil, avs_len, beq_self_eq_true, Bool.and_self, and_self, or_true, true_or, reduceCtorEq, *]; done) | fail) only [c_event_Tell, go_sem, Nat.reduceAdd, Nat.reduceSub, Nat.reduceMul, Nat.reduceLT, Nat.reduceLeDiff, Int.reduceToNat, Nat.reduceEqDiff, Nat.reduceBEq, ↓reduceIte, reduceCtorEq, eA]
      repeat ((first | refine call0 300 trivial trivial (by first | exact c1 | exact c2 | exact c3 | exact c4 | exact c6 | exact c7) (by first | exact .inl rfl | exact .inr rfl) (fun A eA => ?_) | refine call1 300 trivial trivial (by first | exact c1 | exact c2 | exact c3 | exact c4 | exact c6 | exact c7) (fun A eA => ?_)); simp (disch := first | omega | (simp only [avs_len, List.length_cons, List.length_append, List.length_nil, List.length_take, List.length_drop, List.length_map]; omega) | (simp only [cells, scal1, allSz, List.length_cons, List.length_nil, List.length_append, List.length_map, List.all_cons, List.all_nil, avs_len, beq_self_eq_true, Bool.and_self, and_self, or_true, true_or, reduceCtorEq, *]; done) | fail) only [c_event_Tell, go_sem, Nat.reduceAdd, Nat.reduceSub, Nat.reduceMul, Nat.reduceLT, Nat.reduceLeDiff, Int.reduceToNat, Nat.reduceEqDiff, Nat.reduceBEq, ↓reduceIte, reduceCtorEq, eA])
      exact doneG rfl
    · have c7 := xtold_no h1
      simp (disch := first | omega | (simp only [avs_len, List.length_cons, List.length_append, List.length_nil, List.length_take, List.length_drop, List.length_map]; omega) | (simp only [cells, scal1, allSz, List.length_cons, List.length_nil, List.length_append, List.length_map, List.all_cons, List.all_nil, avs_len, beq_self_eq_true, Bool.and_self, and_self, or_true, true_or, reduceCtorEq, *]; done) | fail) only [c_event_Tell, go_sem, Nat.reduceAdd, Nat.reduceSub, Nat.reduceMul, Nat.reduceLT, Nat.reduceLeDiff, Int.reduceToNat, Nat.reduceEqDiff, Nat.reduceBEq, ↓reduceIte, reduceCtorEq, eA]
      repeat ((first | refine call0 300 trivial trivial (by first | exact c1 | exact c2 | exact c3 | exact c4 | exact c6 | exact c7) (by first | exact .inl rfl | exact .inr rfl) (fun A eA => ?_) | refine call1 300 trivial trivial (by first | exact c1 | exact c2 | exact c3 | exact c4 | exact c6 | exact c7) (fun A eA => ?_)); simp (disch := first | omega | (simp only [avs_len, List.length_cons, List.length_append, List.length_nil, List.length_take, List.length_drop, List.length_map]; omega) | (simp only [cells, scal1, allSz, List.length_cons, List.length_nil, List.length_append, List.length_map, List.all_cons, List.all_nil, avs_len, beq_self_eq_true, Bool.and_self, and_self, or_true, true_or, reduceCtorEq, *]; done) | fail) only [c_event_Tell, go_sem, Nat.reduceAdd, Nat.reduceSub, Nat.reduceMul, Nat.reduceLT, Nat.reduceLeDiff, Int.reduceToNat, Nat.reduceEqDiff, Nat.reduceBEq, ↓reduceIte, reduceCtorEq, eA])
      exact doneG rfl
/-- A row behind one more. -/
def tellR (i : B) (row : List Nat) : List Nat := if fillR i row = row then (growR i row).1 else fillR i row
theorem refTell_calls (i : B) (row : List Nat) (hs : i.short = true) (hd : i.dep ≤ 8) (hn : i.none = false) (hl : row.length = 128) (hx : ∀ x ∈ row, x < 2 ^ 60) : PCalls Try.prog F_ref04_Tell [tv i.t, .fz 1 (ivs row) none] (.fz 1 (ivs (tellR i row)) none) := by
  have c1 := refFill_calls 7 i row (by omega) hd hl
  have c2 := refEqual_calls (fillR i row) row (fillR_len i row ⟨7, hl, hd⟩) (by rw [fillR_len i row ⟨7, hl, hd⟩]; omega)
  have c3 := refGrow_calls 7 i row (by omega) hs hd hn hl hx
  have he := eqR_true (fillR_len i row ⟨7, hl, hd⟩)
  unfold tellR
  refine calls_ref04_Tell (walk0 300 trivial (fun A eA => ?_))
  by_cases h : fillR i row = row
  · rw [if_pos h]
    rw [he.2 h] at c2
    simp (disch := first | omega | (simp only [avs_len, List.length_cons, List.length_append, List.length_nil, List.length_take, List.length_drop, List.length_map]; omega) | (simp only [cells, scal1, allSz, List.length_cons, List.length_nil, List.length_append, List.length_map, List.all_cons, List.all_nil, avs_len, beq_self_eq_true, Bool.and_self, and_self, or_true, true_or, reduceCtorEq, *]; done) | fail) only [c_ref04_Tell, go_sem, Nat.reduceAdd, Nat.reduceSub, Nat.reduceMul, Nat.reduceLT, Nat.reduceLeDiff, Int.reduceToNat, Nat.reduceEqDiff, Nat.reduceBEq, ↓reduceIte, reduceCtorEq, eA]
    repeat ((first | refine call0 300 trivial trivial (by first | exact c1 | exact c2 | exact c3) (by first | exact .inl rfl | exact .inr rfl) (fun A eA => ?_) | refine call1 300 trivial trivial (by first | exact c1 | exact c2 | exact c3) (fun A eA => ?_)); simp (disch := first | omega | (simp only [avs_len, List.length_cons, List.length_append, List.length_nil, List.length_take, List.length_drop, List.length_map]; omega) | (simp only [cells, scal1, allSz, List.length_cons, List.length_nil, List.length_append, List.length_map, List.all_cons, List.all_nil, avs_len, beq_self_eq_true, Bool.and_self, and_self, or_true, true_or, reduceCtorEq, *]; done) | fail) only [c_ref04_Tell, go_sem, Nat.reduceAdd, Nat.reduceSub, Nat.reduceMul, Nat.reduceLT, Nat.reduceLeDiff, Int.reduceToNat, Nat.reduceEqDiff, Nat.reduceBEq, ↓reduceIte, reduceCtorEq, eA])
    exact doneG rfl
  · rw [if_neg h]
    rw [show eqR (fillR i row) row = false by rw [Bool.eq_false_iff, ne_eq, he]; exact h] at c2
    simp (disch := first | omega | (simp only [avs_len, List.length_cons, List.length_append, List.length_nil, List.length_take, List.length_drop, List.length_map]; omega) | (simp only [cells, scal1, allSz, List.length_cons, List.length_nil, List.length_append, List.length_map, List.all_cons, List.all_nil, avs_len, beq_self_eq_true, Bool.and_self, and_self, or_true, true_or, reduceCtorEq, *]; done) | fail) only [c_ref04_Tell, go_sem, Nat.reduceAdd, Nat.reduceSub, Nat.reduceMul, Nat.reduceLT, Nat.reduceLeDiff, Int.reduceToNat, Nat.reduceEqDiff, Nat.reduceBEq, ↓reduceIte, reduceCtorEq, eA]
    repeat ((first | refine call0 300 trivial trivial (by first | exact c1 | exact c2) (by first | exact .inl rfl | exact .inr rfl) (fun A eA => ?_) | refine call1 300 trivial trivial (by first | exact c1 | exact c2) (fun A eA => ?_)); simp (disch := first | omega | (simp only [avs_len, List.length_cons, List.length_append, List.length_nil, List.length_take, List.length_drop, List.length_map]; omega) | (simp only [cells, scal1, allSz, List.length_cons, List.length_nil, List.length_append, List.length_map, List.all_cons, List.all_nil, avs_len, beq_self_eq_true, Bool.and_self, and_self, or_true, true_or, reduceCtorEq, *]; done) | fail) only [c_ref04_Tell, go_sem, Nat.reduceAdd, Nat.reduceSub, Nat.reduceMul, Nat.reduceLT, Nat.reduceLeDiff, Int.reduceToNat, Nat.reduceEqDiff, Nat.reduceBEq, ↓reduceIte, reduceCtorEq, eA])
    exact doneG rfl
/-- The two are alike. -/
theorem tell_rows (i : B) (e : E) (his : i.short = true) (hd : i.dep ≤ 8) (hn : i.none = false) (hs : e.short = true) (he : e.dep ≤ 8) : rowE 7 (tellE i e) = tellR i (rowE 7 e) ∧ (tellE i e).short = true ∧ (tellE i e).dep ≤ 8 ∧ upR (rowsG 7 i) (rowE 7 e) (tellR i (rowE 7 e)) = true ∧ tellR i (rowE 7 e) ≠ rowE 7 e := by
  have hr := fill_rows 7 i e hd hs he
  have hiff : fillE i e = e ↔ fillR i (rowE 7 e) = rowE 7 e := by
    constructor
    · intro q; rw [← hr, q]
    · intro q
      have a := treeE_row 7 (fillE i e) (fillE_short i e hs) (Nat.le_trans (fillE_dep i e) he)
      rw [hr, q, treeE_row 7 e hs he] at a
      exact a.symm
  by_cases h : fillE i e = e
  · have h2 := hiff.1 h
    have hf := fill_flat 7 i (rowE 7 e) (rowE_len 7 e) hd h2
    have g := grow_rows 7 i e his hd hn hs he hf
    have u := grow_up 7 i (rowE 7 e) (rowE_len 7 e) his hd hn hf
    rw [show tellE i e = (growE i e).1 from if_pos h, show tellR i (rowE 7 e) = (growR i (rowE 7 e)).1 from if_pos h2]
    exact ⟨g.1, growE_short i e hs, growE_dep 7 i e hd he, u.1, u.2.1⟩
  · have h2 := fun q => h (hiff.2 q)
    rw [show tellE i e = fillE i e from if_neg h, show tellR i (rowE 7 e) = fillR i (rowE 7 e) from if_neg h2]
    exact ⟨hr, fillE_short i e hs, Nat.le_trans (fillE_dep i e) he, fill_up 7 i _ (rowE_len 7 e) hd, h2⟩
end Go.Proofs.Ytmokhopjnjecbab
/- The walks through stamps that are forked, joined, told and heard; the law StampRefuses. -/
-- short
-- fuel 300
namespace Go.Proofs.Ytmokhopjnjecbab
open Go.Ev
set_option linter.unusedVariables false
set_option linter.unusedSimpArgs false
set_option maxRecDepth 100000
set_option maxHeartbeats 3200000
abbrev zst : AV := .agg [.bool false, .nils, .int .i64 0, .nils]
theorem wk_zst : Wk1 zst (stv (.mk false []) (.mk 0 [])) := by
  refine Wk1.agg rfl (fun j x y hx hy => ?_)
  match j, hx, hy with
  | 0, hx, hy => simp at hx hy; subst hx hy; exact Wk1.refl _
  | 1, hx, hy => simp at hx hy; subst hx hy; simp only [Tree.ps, tavs]; exact Wk1.nils 2
  | 2, hx, hy => simp at hx hy; subst hx hy; exact Wk1.refl _
  | 3, hx, hy => simp at hx hy; subst hx hy; simp only [ET.ps, xtavs]; exact Wk1.nils 2
  | j + 4, hx, hy => simp at hx
theorem wk_z2 (c : Int) : Wk1 (.tup [zst, .int .i64 c]) (.tup [stv (.mk false []) (.mk 0 []), .int .i64 c]) := by
  refine Wk1.tup rfl (fun j x y hx hy => ?_)
  match j, hx, hy with
  | 0, hx, hy => simp at hx hy; subst hx hy; exact wk_zst
  | 1, hx, hy => simp at hx hy; subst hx hy; exact Wk1.refl _
  | j + 2, hx, hy => simp at hx
theorem wk_z3 (c : Int) : Wk1 (.tup [zst, zst, .int .i64 c]) (.tup [stv (.mk false []) (.mk 0 []), stv (.mk false []) (.mk 0 []), .int .i64 c]) := by
  refine Wk1.tup rfl (fun j x y hx hy => ?_)
  match j, hx, hy with
  | 0, hx, hy => simp at hx hy; subst hx hy; exact wk_zst
  | 1, hx, hy => simp at hx hy; subst hx hy; exact wk_zst
  | 2, hx, hy => simp at hx hy; subst hx hy; exact Wk1.refl _
  | j + 3, hx, hy => simp at hx
theorem stFork_no {t : Tree} {e : ET} (h : ¬ RtS t e) : PCalls Try.prog F_stamp_Fork [stv t e] (.tup [zst, zst, .int .i64 1]) := by
  have c1 := stRight_no h
  refine calls_stamp_Fork (walk0 300 trivial (fun A eA => ?_))
  simp (disch := first | omega | (simp only [avs_len, List.length_cons, List.length_append, List.length_nil, List.length_take, List.length_drop, List.length_map]; omega) | (simp only [cells, scal1, allSz, List.length_cons, List.length_nil, List.length_append, List.length_map, List.all_cons, List.all_nil, avs_len, beq_self_eq_true, Bool.and_self, and_self, or_true, true_or, reduceCtorEq, *]; done) | fail) only [c_stamp_Fork, go_sem, Nat.reduceAdd, Nat.reduceSub, Nat.reduceMul, Nat.reduceLT, Nat.reduceLeDiff, Int.reduceToNat, Nat.reduceEqDiff, Nat.reduceBEq, ↓reduceIte, reduceCtorEq, eA, scal1]
  repeat ((first | refine call0 300 trivial trivial (by first | exact c1) (by first | exact .inl rfl | exact .inr rfl) (fun A eA => ?_) | refine call1 300 trivial trivial (by first | exact c1) (fun A eA => ?_)); simp (disch := first | omega | (simp only [avs_len, List.length_cons, List.length_append, List.length_nil, List.length_take, List.length_drop, List.length_map]; omega) | (simp only [cells, scal1, allSz, List.length_cons, List.length_nil, List.length_append, List.length_map, List.all_cons, List.all_nil, avs_len, beq_self_eq_true, Bool.and_self, and_self, or_true, true_or, reduceCtorEq, *]; done) | fail) only [c_stamp_Fork, go_sem, Nat.reduceAdd, Nat.reduceSub, Nat.reduceMul, Nat.reduceLT, Nat.reduceLeDiff, Int.reduceToNat, Nat.reduceEqDiff, Nat.reduceBEq, ↓reduceIte, reduceCtorEq, eA, scal1, List.all_cons, List.all_nil, Bool.and_self])
  exact doneG (by simp only [go_sem, Nat.reduceAdd, Nat.reduceSub, Nat.reduceMul, Nat.reduceLT, Nat.reduceLeDiff, Int.reduceToNat, Nat.reduceEqDiff, Nat.reduceBEq, ↓reduceIte, reduceCtorEq])
theorem nn_isN {b : B} (h : ¬ (b.t.ps.length = 0 ∧ b.t.one = false)) : b.isN = false := by
  rw [← B.isN_t b]
  cases ho : b.t.one
  · have : ¬ b.t.ps.length = 0 := fun e => h ⟨e, ho⟩
    simp [this]
  · simp
theorem nn_none {b : B} (h : ¬ (b.t.ps.length = 0 ∧ b.t.one = false)) : b.none = false := by
  cases hb : b.none
  · rfl
  · rw [B.none_lf hb] at h; exact absurd ⟨rfl, rfl⟩ h
theorem stFork_yes {t : Tree} {e : ET} (h : RtS t e) : ∃ (x1 x2 : Tree) (y1 y2 : ET) (c : Nat), PCalls Try.prog F_stamp_Fork [stv t e] (.tup [stv x1 y1, stv x2 y2, .int .i64 (c : Nat)]) := by
  have c1 := stRight_yes h
  obtain ⟨h1, h2, x, rfl, x1, x2, x3, x4⟩ := h
  obtain ⟨b, rfl, b1, b2, b3⟩ := id h1
  have cc := xClone_calls x.t (by rw [E.t_size]; omega)
  have e2 : xcloneT x.t = x.t := by unfold xcloneT; rw [if_pos (xflatb_true.2 ((xflat_dep 8 x).2 x1))]
  rw [e2] at cc
  by_cases hs : Rt (splitB b).1.t ∧ Rt (splitB b).2.t
  · have cs := Split_calls b h1 (nn_isN h2) (.inl ⟨hs.1, hs.2, rfl, rfl, rfl⟩)
    refine ⟨(splitB b).1.t, (splitB b).2.t, x.t, x.t, 0, calls_stamp_Fork (walk0 300 trivial (fun A eA => ?_))⟩
    simp (disch := first | omega | (simp only [avs_len, List.length_cons, List.length_append, List.length_nil, List.length_take, List.length_drop, List.length_map]; omega) | (simp only [cells, scal1, allSz, List.length_cons, List.length_nil, List.length_append, List.length_map, List.all_cons, List.all_nil, avs_len, beq_self_eq_true, Bool.and_self, and_self, or_true, true_or, reduceCtorEq, *]; done) | fail) only [c_stamp_Fork, go_sem, Nat.reduceAdd, Nat.reduceSub, Nat.reduceMul, Nat.reduceLT, Nat.reduceLeDiff, Int.reduceToNat, Nat.reduceEqDiff, Nat.reduceBEq, ↓reduceIte, reduceCtorEq, eA, scal1]
    repeat ((first | refine call0 300 trivial trivial (by first | exact c1 | exact cs | exact cc) (by first | exact .inl rfl | exact .inr rfl) (fun A eA => ?_) | refine call1 300 trivial trivial (by first | exact c1 | exact cs | exact cc) (fun A eA => ?_)); simp (disch := first | omega | (simp only [avs_len, List.length_cons, List.length_append, List.length_nil, List.length_take, List.length_drop, List.length_map]; omega) | (simp only [cells, scal1, allSz, List.length_cons, List.length_nil, List.length_append, List.length_map, List.all_cons, List.all_nil, avs_len, beq_self_eq_true, Bool.and_self, and_self, or_true, true_or, reduceCtorEq, *]; done) | fail) only [c_stamp_Fork, go_sem, Nat.reduceAdd, Nat.reduceSub, Nat.reduceMul, Nat.reduceLT, Nat.reduceLeDiff, Int.reduceToNat, Nat.reduceEqDiff, Nat.reduceBEq, ↓reduceIte, reduceCtorEq, eA, scal1, List.all_cons, List.all_nil, Bool.and_self, Int.ofNat_zero])
    exact doneG (by simp only [go_sem, Nat.reduceAdd, Nat.reduceSub, Nat.reduceMul, Nat.reduceLT, Nat.reduceLeDiff, Int.reduceToNat, Nat.reduceEqDiff, Nat.reduceBEq, ↓reduceIte, reduceCtorEq])
  · have cs := Split_calls b h1 (nn_isN h2) (.inr ⟨hs, rfl, rfl, rfl⟩)
    refine ⟨_, _, _, _, 9, PCalls.wk (calls_stamp_Fork (walk0 300 trivial (fun A eA => ?_))) (wk_z3 _)⟩
    simp (disch := first | omega | (simp only [avs_len, List.length_cons, List.length_append, List.length_nil, List.length_take, List.length_drop, List.length_map]; omega) | (simp only [cells, scal1, allSz, List.length_cons, List.length_nil, List.length_append, List.length_map, List.all_cons, List.all_nil, avs_len, beq_self_eq_true, Bool.and_self, and_self, or_true, true_or, reduceCtorEq, *]; done) | fail) only [c_stamp_Fork, go_sem, Nat.reduceAdd, Nat.reduceSub, Nat.reduceMul, Nat.reduceLT, Nat.reduceLeDiff, Int.reduceToNat, Nat.reduceEqDiff, Nat.reduceBEq, ↓reduceIte, reduceCtorEq, eA, scal1]
    repeat ((first | refine call0 300 trivial trivial (by first | exact c1 | exact cs | exact cc) (by first | exact .inl rfl | exact .inr rfl) (fun A eA => ?_) | refine call1 300 trivial trivial (by first | exact c1 | exact cs | exact cc) (fun A eA => ?_)); simp (disch := first | omega | (simp only [avs_len, List.length_cons, List.length_append, List.length_nil, List.length_take, List.length_drop, List.length_map]; omega) | (simp only [cells, scal1, allSz, List.length_cons, List.length_nil, List.length_append, List.length_map, List.all_cons, List.all_nil, avs_len, beq_self_eq_true, Bool.and_self, and_self, or_true, true_or, reduceCtorEq, *]; done) | fail) only [c_stamp_Fork, go_sem, Nat.reduceAdd, Nat.reduceSub, Nat.reduceMul, Nat.reduceLT, Nat.reduceLeDiff, Int.reduceToNat, Nat.reduceEqDiff, Nat.reduceBEq, ↓reduceIte, reduceCtorEq, eA, scal1, List.all_cons, List.all_nil, Bool.and_self])
    exact doneG (by simp only [go_sem, Nat.reduceAdd, Nat.reduceSub, Nat.reduceMul, Nat.reduceLT, Nat.reduceLeDiff, Int.reduceToNat, Nat.reduceEqDiff, Nat.reduceBEq, ↓reduceIte, reduceCtorEq])
theorem stTell_no {t : Tree} {e : ET} (h : ¬ RtS t e) : PCalls Try.prog F_stamp_Tell [stv t e] (.tup [zst, .int .i64 1]) := by
  have c1 := stRight_no h
  refine calls_stamp_Tell (walk0 300 trivial (fun A eA => ?_))
  simp (disch := first | omega | (simp only [avs_len, List.length_cons, List.length_append, List.length_nil, List.length_take, List.length_drop, List.length_map]; omega) | (simp only [cells, scal1, allSz, List.length_cons, List.length_nil, List.length_append, List.length_map, List.all_cons, List.all_nil, avs_len, beq_self_eq_true, Bool.and_self, and_self, or_true, true_or, reduceCtorEq, *]; done) | fail) only [c_stamp_Tell, go_sem, Nat.reduceAdd, Nat.reduceSub, Nat.reduceMul, Nat.reduceLT, Nat.reduceLeDiff, Int.reduceToNat, Nat.reduceEqDiff, Nat.reduceBEq, ↓reduceIte, reduceCtorEq, eA, scal1]
  repeat ((first | refine call0 300 trivial trivial (by first | exact c1) (by first | exact .inl rfl | exact .inr rfl) (fun A eA => ?_) | refine call1 300 trivial trivial (by first | exact c1) (fun A eA => ?_)); simp (disch := first | omega | (simp only [avs_len, List.length_cons, List.length_append, List.length_nil, List.length_take, List.length_drop, List.length_map]; omega) | (simp only [cells, scal1, allSz, List.length_cons, List.length_nil, List.length_append, List.length_map, List.all_cons, List.all_nil, avs_len, beq_self_eq_true, Bool.and_self, and_self, or_true, true_or, reduceCtorEq, *]; done) | fail) only [c_stamp_Tell, go_sem, Nat.reduceAdd, Nat.reduceSub, Nat.reduceMul, Nat.reduceLT, Nat.reduceLeDiff, Int.reduceToNat, Nat.reduceEqDiff, Nat.reduceBEq, ↓reduceIte, reduceCtorEq, eA, scal1, List.all_cons, List.all_nil, Bool.and_self])
  exact doneG (by simp only [go_sem, Nat.reduceAdd, Nat.reduceSub, Nat.reduceMul, Nat.reduceLT, Nat.reduceLeDiff, Int.reduceToNat, Nat.reduceEqDiff, Nat.reduceBEq, ↓reduceIte, reduceCtorEq])
theorem stTell_yes {t : Tree} {e : ET} (h : RtS t e) : ∃ (x1 : Tree) (y1 : ET) (c : Nat), PCalls Try.prog F_stamp_Tell [stv t e] (.tup [stv x1 y1, .int .i64 (c : Nat)]) := by
  have c1 := stRight_yes h
  obtain ⟨h1, h2, x, rfl, x1, x2, x3, x4⟩ := h
  obtain ⟨b, rfl, b1, b2, b3⟩ := id h1
  have hx : XRt x.t := ⟨x, rfl, x1, x2, x3, x4⟩
  have cc := Clone_rt h1
  by_cases hj : XRt (tellE b x).t
  · have ct := xTell_calls b x h1 b1 (nn_none h2) hx (.inl ⟨hj, rfl, rfl⟩)
    refine ⟨b.t, (tellE b x).t, 0, calls_stamp_Tell (walk0 300 trivial (fun A eA => ?_))⟩
    simp (disch := first | omega | (simp only [avs_len, List.length_cons, List.length_append, List.length_nil, List.length_take, List.length_drop, List.length_map]; omega) | (simp only [cells, scal1, allSz, List.length_cons, List.length_nil, List.length_append, List.length_map, List.all_cons, List.all_nil, avs_len, beq_self_eq_true, Bool.and_self, and_self, or_true, true_or, reduceCtorEq, *]; done) | fail) only [c_stamp_Tell, go_sem, Nat.reduceAdd, Nat.reduceSub, Nat.reduceMul, Nat.reduceLT, Nat.reduceLeDiff, Int.reduceToNat, Nat.reduceEqDiff, Nat.reduceBEq, ↓reduceIte, reduceCtorEq, eA, scal1]
    repeat ((first | refine call0 300 trivial trivial (by first | exact c1 | exact ct | exact cc) (by first | exact .inl rfl | exact .inr rfl) (fun A eA => ?_) | refine call1 300 trivial trivial (by first | exact c1 | exact ct | exact cc) (fun A eA => ?_)); simp (disch := first | omega | (simp only [avs_len, List.length_cons, List.length_append, List.length_nil, List.length_take, List.length_drop, List.length_map]; omega) | (simp only [cells, scal1, allSz, List.length_cons, List.length_nil, List.length_append, List.length_map, List.all_cons, List.all_nil, avs_len, beq_self_eq_true, Bool.and_self, and_self, or_true, true_or, reduceCtorEq, *]; done) | fail) only [c_stamp_Tell, go_sem, Nat.reduceAdd, Nat.reduceSub, Nat.reduceMul, Nat.reduceLT, Nat.reduceLeDiff, Int.reduceToNat, Nat.reduceEqDiff, Nat.reduceBEq, ↓reduceIte, reduceCtorEq, eA, scal1, List.all_cons, List.all_nil, Bool.and_self, Int.ofNat_zero])
    exact doneG (by simp only [go_sem, Nat.reduceAdd, Nat.reduceSub, Nat.reduceMul, Nat.reduceLT, Nat.reduceLeDiff, Int.reduceToNat, Nat.reduceEqDiff, Nat.reduceBEq, ↓reduceIte, reduceCtorEq])
  · have ct := xTell_calls b x h1 b1 (nn_none h2) hx (.inr ⟨hj, rfl, rfl⟩)
    refine ⟨_, _, 9, PCalls.wk (calls_stamp_Tell (walk0 300 trivial (fun A eA => ?_))) (wk_z2 _)⟩
    simp (disch := first | omega | (simp only [avs_len, List.length_cons, List.length_append, List.length_nil, List.length_take, List.length_drop, List.length_map]; omega) | (simp only [cells, scal1, allSz, List.length_cons, List.length_nil, List.length_append, List.length_map, List.all_cons, List.all_nil, avs_len, beq_self_eq_true, Bool.and_self, and_self, or_true, true_or, reduceCtorEq, *]; done) | fail) only [c_stamp_Tell, go_sem, Nat.reduceAdd, Nat.reduceSub, Nat.reduceMul, Nat.reduceLT, Nat.reduceLeDiff, Int.reduceToNat, Nat.reduceEqDiff, Nat.reduceBEq, ↓reduceIte, reduceCtorEq, eA, scal1]
    repeat ((first | refine call0 300 trivial trivial (by first | exact c1 | exact ct | exact cc) (by first | exact .inl rfl | exact .inr rfl) (fun A eA => ?_) | refine call1 300 trivial trivial (by first | exact c1 | exact ct | exact cc) (fun A eA => ?_)); simp (disch := first | omega | (simp only [avs_len, List.length_cons, List.length_append, List.length_nil, List.length_take, List.length_drop, List.length_map]; omega) | (simp only [cells, scal1, allSz, List.length_cons, List.length_nil, List.length_append, List.length_map, List.all_cons, List.all_nil, avs_len, beq_self_eq_true, Bool.and_self, and_self, or_true, true_or, reduceCtorEq, *]; done) | fail) only [c_stamp_Tell, go_sem, Nat.reduceAdd, Nat.reduceSub, Nat.reduceMul, Nat.reduceLT, Nat.reduceLeDiff, Int.reduceToNat, Nat.reduceEqDiff, Nat.reduceBEq, ↓reduceIte, reduceCtorEq, eA, scal1, List.all_cons, List.all_nil, Bool.and_self])
    exact doneG (by simp only [go_sem, Nat.reduceAdd, Nat.reduceSub, Nat.reduceMul, Nat.reduceLT, Nat.reduceLeDiff, Int.reduceToNat, Nat.reduceEqDiff, Nat.reduceBEq, ↓reduceIte, reduceCtorEq])
theorem stHear_no {t : Tree} {e v : ET} (h : ¬ (RtS t e ∧ XRt v)) : PCalls Try.prog F_stamp_Hear [stv t e, xtv v] (.tup [zst, .int .i64 1]) := by
  by_cases hr : RtS t e
  · have c1 := stRight_yes hr
    have c2 := xright_calls v
    rw [xrtb_no (fun hv => h ⟨hr, hv⟩)] at c2
    refine calls_stamp_Hear (walk0 300 trivial (fun A eA => ?_))
    simp (disch := first | omega | (simp only [avs_len, List.length_cons, List.length_append, List.length_nil, List.length_take, List.length_drop, List.length_map]; omega) | (simp only [cells, scal1, allSz, List.length_cons, List.length_nil, List.length_append, List.length_map, List.all_cons, List.all_nil, avs_len, beq_self_eq_true, Bool.and_self, and_self, or_true, true_or, reduceCtorEq, *]; done) | fail) only [c_stamp_Hear, go_sem, Nat.reduceAdd, Nat.reduceSub, Nat.reduceMul, Nat.reduceLT, Nat.reduceLeDiff, Int.reduceToNat, Nat.reduceEqDiff, Nat.reduceBEq, ↓reduceIte, reduceCtorEq, eA, scal1]
    repeat ((first | refine call0 300 trivial trivial (by first | exact c1 | exact c2) (by first | exact .inl rfl | exact .inr rfl) (fun A eA => ?_) | refine call1 300 trivial trivial (by first | exact c1 | exact c2) (fun A eA => ?_)); simp (disch := first | omega | (simp only [avs_len, List.length_cons, List.length_append, List.length_nil, List.length_take, List.length_drop, List.length_map]; omega) | (simp only [cells, scal1, allSz, List.length_cons, List.length_nil, List.length_append, List.length_map, List.all_cons, List.all_nil, avs_len, beq_self_eq_true, Bool.and_self, and_self, or_true, true_or, reduceCtorEq, *]; done) | fail) only [c_stamp_Hear, go_sem, Nat.reduceAdd, Nat.reduceSub, Nat.reduceMul, Nat.reduceLT, Nat.reduceLeDiff, Int.reduceToNat, Nat.reduceEqDiff, Nat.reduceBEq, ↓reduceIte, reduceCtorEq, eA, scal1, List.all_cons, List.all_nil, Bool.and_self])
    exact doneG (by simp only [go_sem, Nat.reduceAdd, Nat.reduceSub, Nat.reduceMul, Nat.reduceLT, Nat.reduceLeDiff, Int.reduceToNat, Nat.reduceEqDiff, Nat.reduceBEq, ↓reduceIte, reduceCtorEq])
  · have c1 := stRight_no hr
    refine calls_stamp_Hear (walk0 300 trivial (fun A eA => ?_))
    simp (disch := first | omega | (simp only [avs_len, List.length_cons, List.length_append, List.length_nil, List.length_take, List.length_drop, List.length_map]; omega) | (simp only [cells, scal1, allSz, List.length_cons, List.length_nil, List.length_append, List.length_map, List.all_cons, List.all_nil, avs_len, beq_self_eq_true, Bool.and_self, and_self, or_true, true_or, reduceCtorEq, *]; done) | fail) only [c_stamp_Hear, go_sem, Nat.reduceAdd, Nat.reduceSub, Nat.reduceMul, Nat.reduceLT, Nat.reduceLeDiff, Int.reduceToNat, Nat.reduceEqDiff, Nat.reduceBEq, ↓reduceIte, reduceCtorEq, eA, scal1]
    repeat ((first | refine call0 300 trivial trivial (by first | exact c1) (by first | exact .inl rfl | exact .inr rfl) (fun A eA => ?_) | refine call1 300 trivial trivial (by first | exact c1) (fun A eA => ?_)); simp (disch := first | omega | (simp only [avs_len, List.length_cons, List.length_append, List.length_nil, List.length_take, List.length_drop, List.length_map]; omega) | (simp only [cells, scal1, allSz, List.length_cons, List.length_nil, List.length_append, List.length_map, List.all_cons, List.all_nil, avs_len, beq_self_eq_true, Bool.and_self, and_self, or_true, true_or, reduceCtorEq, *]; done) | fail) only [c_stamp_Hear, go_sem, Nat.reduceAdd, Nat.reduceSub, Nat.reduceMul, Nat.reduceLT, Nat.reduceLeDiff, Int.reduceToNat, Nat.reduceEqDiff, Nat.reduceBEq, ↓reduceIte, reduceCtorEq, eA, scal1, List.all_cons, List.all_nil, Bool.and_self])
    exact doneG (by simp only [go_sem, Nat.reduceAdd, Nat.reduceSub, Nat.reduceMul, Nat.reduceLT, Nat.reduceLeDiff, Int.reduceToNat, Nat.reduceEqDiff, Nat.reduceBEq, ↓reduceIte, reduceCtorEq])
theorem stHear_yes {t : Tree} {e v : ET} (h : RtS t e) (hv : XRt v) : ∃ (x1 : Tree) (y1 : ET) (c : Nat), (c = 0 ∨ c = 9) ∧ PCalls Try.prog F_stamp_Hear [stv t e, xtv v] (.tup [stv x1 y1, .int .i64 (c : Nat)]) := by
  have c1 := stRight_yes h
  have c2 := xright_calls v
  rw [xrtb_true.2 hv] at c2
  obtain ⟨h1, h2, x, rfl, x1, x2, x3, x4⟩ := h
  have hx : XRt x.t := ⟨x, rfl, x1, x2, x3, x4⟩
  obtain ⟨y, rfl, _⟩ := id hv
  have cc := Clone_rt h1
  by_cases hj : XRt (joinE 7 x y).t
  · have cj := xJoin_calls x y hx hv (.inl ⟨hj, rfl, rfl⟩)
    refine ⟨t, (joinE 7 x y).t, 0, .inl rfl, calls_stamp_Hear (walk0 300 trivial (fun A eA => ?_))⟩
    simp (disch := first | omega | (simp only [avs_len, List.length_cons, List.length_append, List.length_nil, List.length_take, List.length_drop, List.length_map]; omega) | (simp only [cells, scal1, allSz, List.length_cons, List.length_nil, List.length_append, List.length_map, List.all_cons, List.all_nil, avs_len, beq_self_eq_true, Bool.and_self, and_self, or_true, true_or, reduceCtorEq, *]; done) | fail) only [c_stamp_Hear, go_sem, Nat.reduceAdd, Nat.reduceSub, Nat.reduceMul, Nat.reduceLT, Nat.reduceLeDiff, Int.reduceToNat, Nat.reduceEqDiff, Nat.reduceBEq, ↓reduceIte, reduceCtorEq, eA, scal1]
    repeat ((first | refine call0 300 trivial trivial (by first | exact c1 | exact c2 | exact cj | exact cc) (by first | exact .inl rfl | exact .inr rfl) (fun A eA => ?_) | refine call1 300 trivial trivial (by first | exact c1 | exact c2 | exact cj | exact cc) (fun A eA => ?_)); simp (disch := first | omega | (simp only [avs_len, List.length_cons, List.length_append, List.length_nil, List.length_take, List.length_drop, List.length_map]; omega) | (simp only [cells, scal1, allSz, List.length_cons, List.length_nil, List.length_append, List.length_map, List.all_cons, List.all_nil, avs_len, beq_self_eq_true, Bool.and_self, and_self, or_true, true_or, reduceCtorEq, *]; done) | fail) only [c_stamp_Hear, go_sem, Nat.reduceAdd, Nat.reduceSub, Nat.reduceMul, Nat.reduceLT, Nat.reduceLeDiff, Int.reduceToNat, Nat.reduceEqDiff, Nat.reduceBEq, ↓reduceIte, reduceCtorEq, eA, scal1, List.all_cons, List.all_nil, Bool.and_self, Int.ofNat_zero])
    exact doneG (by simp only [go_sem, Nat.reduceAdd, Nat.reduceSub, Nat.reduceMul, Nat.reduceLT, Nat.reduceLeDiff, Int.reduceToNat, Nat.reduceEqDiff, Nat.reduceBEq, ↓reduceIte, reduceCtorEq])
  · have cj := xJoin_calls x y hx hv (.inr ⟨hj, rfl, rfl⟩)
    refine ⟨_, _, 9, .inr rfl, PCalls.wk (calls_stamp_Hear (walk0 300 trivial (fun A eA => ?_))) (wk_z2 _)⟩
    simp (disch := first | omega | (simp only [avs_len, List.length_cons, List.length_append, List.length_nil, List.length_take, List.length_drop, List.length_map]; omega) | (simp only [cells, scal1, allSz, List.length_cons, List.length_nil, List.length_append, List.length_map, List.all_cons, List.all_nil, avs_len, beq_self_eq_true, Bool.and_self, and_self, or_true, true_or, reduceCtorEq, *]; done) | fail) only [c_stamp_Hear, go_sem, Nat.reduceAdd, Nat.reduceSub, Nat.reduceMul, Nat.reduceLT, Nat.reduceLeDiff, Int.reduceToNat, Nat.reduceEqDiff, Nat.reduceBEq, ↓reduceIte, reduceCtorEq, eA, scal1]
    repeat ((first | refine call0 300 trivial trivial (by first | exact c1 | exact c2 | exact cj | exact cc) (by first | exact .inl rfl | exact .inr rfl) (fun A eA => ?_) | refine call1 300 trivial trivial (by first | exact c1 | exact c2 | exact cj | exact cc) (fun A eA => ?_)); simp (disch := first | omega | (simp only [avs_len, List.length_cons, List.length_append, List.length_nil, List.length_take, List.length_drop, List.length_map]; omega) | (simp only [cells, scal1, allSz, List.length_cons, List.length_nil, List.length_append, List.length_map, List.all_cons, List.all_nil, avs_len, beq_self_eq_true, Bool.and_self, and_self, or_true, true_or, reduceCtorEq, *]; done) | fail) only [c_stamp_Hear, go_sem, Nat.reduceAdd, Nat.reduceSub, Nat.reduceMul, Nat.reduceLT, Nat.reduceLeDiff, Int.reduceToNat, Nat.reduceEqDiff, Nat.reduceBEq, ↓reduceIte, reduceCtorEq, eA, scal1, List.all_cons, List.all_nil, Bool.and_self])
    exact doneG (by simp only [go_sem, Nat.reduceAdd, Nat.reduceSub, Nat.reduceMul, Nat.reduceLT, Nat.reduceLeDiff, Int.reduceToNat, Nat.reduceEqDiff, Nat.reduceBEq, ↓reduceIte, reduceCtorEq])
theorem seed_calls : PCalls Try.prog F_stamp_Seed [] (stv (.mk true []) (.mk 0 [])) := by
  have hw : Wk1 (.agg [.bool true, .fz 2 (tavs []) none, .int .i64 0, .nils]) (stv (.mk true []) (.mk 0 [])) := by
    refine Wk1.agg rfl (fun j x y hx hy => ?_)
    match j, hx, hy with
    | 0, hx, hy => simp at hx hy; subst hx hy; exact Wk1.refl _
    | 1, hx, hy => simp at hx hy; subst hx hy; exact Wk1.refl _
    | 2, hx, hy => simp at hx hy; subst hx hy; exact Wk1.refl _
    | 3, hx, hy => simp at hx hy; subst hx hy; simp only [ET.ps, xtavs]; exact Wk1.nils 2
    | j + 4, hx, hy => simp at hx
  refine PCalls.wk ?_ hw
  refine calls_stamp_Seed (walk0 300 trivial (fun A eA => ?_))
  simp (disch := first | omega | (simp only [avs_len, List.length_cons, List.length_append, List.length_nil, List.length_take, List.length_drop, List.length_map]; omega) | (simp only [cells, scal1, allSz, List.length_cons, List.length_nil, List.length_append, List.length_map, List.all_cons, List.all_nil, avs_len, beq_self_eq_true, Bool.and_self, and_self, or_true, true_or, reduceCtorEq, *]; done) | fail) only [c_stamp_Seed, go_sem, Nat.reduceAdd, Nat.reduceSub, Nat.reduceMul, Nat.reduceLT, Nat.reduceLeDiff, Int.reduceToNat, Nat.reduceEqDiff, Nat.reduceBEq, ↓reduceIte, reduceCtorEq, eA, scal1]
  repeat ((first | refine call0 300 trivial trivial (by first | exact All_calls) (by first | exact .inl rfl | exact .inr rfl) (fun A eA => ?_) | refine call1 300 trivial trivial (by first | exact All_calls) (fun A eA => ?_)); simp (disch := first | omega | (simp only [avs_len, List.length_cons, List.length_append, List.length_nil, List.length_take, List.length_drop, List.length_map]; omega) | (simp only [cells, scal1, allSz, List.length_cons, List.length_nil, List.length_append, List.length_map, List.all_cons, List.all_nil, avs_len, beq_self_eq_true, Bool.and_self, and_self, or_true, true_or, reduceCtorEq, *]; done) | fail) only [c_stamp_Seed, go_sem, Nat.reduceAdd, Nat.reduceSub, Nat.reduceMul, Nat.reduceLT, Nat.reduceLeDiff, Int.reduceToNat, Nat.reduceEqDiff, Nat.reduceBEq, ↓reduceIte, reduceCtorEq, eA, scal1, List.all_cons, List.all_nil, Bool.and_self])
  exact doneG (by simp only [go_sem, Nat.reduceAdd, Nat.reduceSub, Nat.reduceMul, Nat.reduceLT, Nat.reduceLeDiff, Int.reduceToNat, Nat.reduceEqDiff, Nat.reduceBEq, ↓reduceIte, reduceCtorEq, Tree.one, Tree.ps])
theorem seed_right : RtS (.mk true []) (.mk 0 []) :=
  ⟨⟨.lf true, rfl, by simp [B.dep], by simp [B.nodes], rfl⟩, by simp [Tree.one], ⟨.lf 0, rfl, by simp [E.dep], by simp [E.nodes], rfl, by simp [E.small]⟩⟩
theorem apart_all {t : Tree} (h1 : Rt t) (h2 : ¬ (t.ps.length = 0 ∧ t.one = false)) : apartT t (.mk true []) = false := by
  unfold apartT
  by_cases h : Rt t ∧ Rt (.mk true [])
  · rw [dif_pos h]
    have e2 : h.2.choose = .lf true := B.inj (h.2.choose_spec.1.symm.trans (rfl : (Tree.mk true []) = (B.lf true).t))
    have e1 := h.1.choose_spec.1
    rw [e2]
    generalize h.1.choose = b at e1
    cases b with
    | lf o =>
      cases o
      · rw [e1] at h2; exact absurd ⟨rfl, rfl⟩ h2
      · rfl
    | nd l r => rfl
  · rw [dif_neg h]
theorem stJoin_seed (t : Tree) (e : ET) : PCalls Try.prog F_stamp_Join [stv t e, stv (.mk true []) (.mk 0 [])] (.tup [zst, .int .i64 1]) := by
  have c2 := stRight_yes seed_right
  by_cases h : RtS t e
  · have c1 := stRight_yes h
    have cj := Join_calls t (.mk true [])
    have e1 : joinR t (.mk true []) = (.mk false [], 1) := by unfold joinR; rw [apart_all h.1 h.2.1]; rfl
    rw [e1] at cj
    refine calls_stamp_Join (walk0 300 trivial (fun A eA => ?_))
    simp (disch := first | omega | (simp only [avs_len, List.length_cons, List.length_append, List.length_nil, List.length_take, List.length_drop, List.length_map]; omega) | (simp only [cells, scal1, allSz, List.length_cons, List.length_nil, List.length_append, List.length_map, List.all_cons, List.all_nil, avs_len, beq_self_eq_true, Bool.and_self, and_self, or_true, true_or, reduceCtorEq, *]; done) | fail) only [c_stamp_Join, go_sem, Nat.reduceAdd, Nat.reduceSub, Nat.reduceMul, Nat.reduceLT, Nat.reduceLeDiff, Int.reduceToNat, Nat.reduceEqDiff, Nat.reduceBEq, ↓reduceIte, reduceCtorEq, eA, scal1]
    repeat ((first | refine call0 300 trivial trivial (by first | exact c1 | exact c2 | exact cj) (by first | exact .inl rfl | exact .inr rfl) (fun A eA => ?_) | refine call1 300 trivial trivial (by first | exact c1 | exact c2 | exact cj) (fun A eA => ?_)); simp (disch := first | omega | (simp only [avs_len, List.length_cons, List.length_append, List.length_nil, List.length_take, List.length_drop, List.length_map]; omega) | (simp only [cells, scal1, allSz, List.length_cons, List.length_nil, List.length_append, List.length_map, List.all_cons, List.all_nil, avs_len, beq_self_eq_true, Bool.and_self, and_self, or_true, true_or, reduceCtorEq, *]; done) | fail) only [c_stamp_Join, go_sem, Nat.reduceAdd, Nat.reduceSub, Nat.reduceMul, Nat.reduceLT, Nat.reduceLeDiff, Int.reduceToNat, Nat.reduceEqDiff, Nat.reduceBEq, ↓reduceIte, reduceCtorEq, eA, scal1, List.all_cons, List.all_nil, Bool.and_self, Int.ofNat_one])
    exact doneG (by simp only [go_sem, Nat.reduceAdd, Nat.reduceSub, Nat.reduceMul, Nat.reduceLT, Nat.reduceLeDiff, Int.reduceToNat, Nat.reduceEqDiff, Nat.reduceBEq, ↓reduceIte, reduceCtorEq])
  · have c1 := stRight_no h
    refine calls_stamp_Join (walk0 300 trivial (fun A eA => ?_))
    simp (disch := first | omega | (simp only [avs_len, List.length_cons, List.length_append, List.length_nil, List.length_take, List.length_drop, List.length_map]; omega) | (simp only [cells, scal1, allSz, List.length_cons, List.length_nil, List.length_append, List.length_map, List.all_cons, List.all_nil, avs_len, beq_self_eq_true, Bool.and_self, and_self, or_true, true_or, reduceCtorEq, *]; done) | fail) only [c_stamp_Join, go_sem, Nat.reduceAdd, Nat.reduceSub, Nat.reduceMul, Nat.reduceLT, Nat.reduceLeDiff, Int.reduceToNat, Nat.reduceEqDiff, Nat.reduceBEq, ↓reduceIte, reduceCtorEq, eA, scal1]
    repeat ((first | refine call0 300 trivial trivial (by first | exact c1) (by first | exact .inl rfl | exact .inr rfl) (fun A eA => ?_) | refine call1 300 trivial trivial (by first | exact c1) (fun A eA => ?_)); simp (disch := first | omega | (simp only [avs_len, List.length_cons, List.length_append, List.length_nil, List.length_take, List.length_drop, List.length_map]; omega) | (simp only [cells, scal1, allSz, List.length_cons, List.length_nil, List.length_append, List.length_map, List.all_cons, List.all_nil, avs_len, beq_self_eq_true, Bool.and_self, and_self, or_true, true_or, reduceCtorEq, *]; done) | fail) only [c_stamp_Join, go_sem, Nat.reduceAdd, Nat.reduceSub, Nat.reduceMul, Nat.reduceLT, Nat.reduceLeDiff, Int.reduceToNat, Nat.reduceEqDiff, Nat.reduceBEq, ↓reduceIte, reduceCtorEq, eA, scal1, List.all_cons, List.all_nil, Bool.and_self])
    exact doneG (by simp only [go_sem, Nat.reduceAdd, Nat.reduceSub, Nat.reduceMul, Nat.reduceLT, Nat.reduceLeDiff, Int.reduceToNat, Nat.reduceEqDiff, Nat.reduceBEq, ↓reduceIte, reduceCtorEq])
end Go.Proofs.Ytmokhopjnjecbab
/- The law StampRefuses: joined. -/
-- short
-- fuel 300
namespace Go.Proofs.Ytmokhopjnjecbab
open Go.Ev
set_option linter.unusedVariables false
set_option linter.unusedSimpArgs false
set_option maxRecDepth 100000
set_option maxHeartbeats 3200000
theorem sawake_calls : PCalls Try.prog F_law06_awake [] (.bool true) :=
  evalF_calls (T := tabOf (tab_CdStamp ++ (tab_CdIdent ++ tab_CdEvent))) (n := 300) (tab_append tok_CdStamp (tab_append tok_CdIdent tok_CdEvent)) (by kernel_rfl)
theorem refuses_few (t : Tree) (e v : ET) (h : ¬ (lcnt 30 t ≤ 1000 ∧ xlcnt 30 e ≤ 1000 ∧ xlcnt 30 v ≤ 1000)) : PCalls Try.prog F_law06_StampRefuses [stv t e, xtv v] (.bool true) := by
  have c1 := Few_calls t
  have c2 := xFew_calls e
  have c3 := xFew_calls v
  by_cases f1 : lcnt 30 t ≤ 1000
  · rw [decide_eq_true f1] at c1
    by_cases f2 : xlcnt 30 e ≤ 1000
    · rw [decide_eq_true f2] at c2
      have f3 : ¬ xlcnt 30 v ≤ 1000 := fun f3 => h ⟨f1, f2, f3⟩
      rw [decide_eq_false f3] at c3
      refine calls_law06_StampRefuses (walk0 300 trivial (fun A eA => ?_))
      simp (disch := first | omega | (simp only [avs_len, List.length_cons, List.length_append, List.length_nil, List.length_take, List.length_drop, List.length_map]; omega) | (simp only [cells, scal1, allSz, List.length_cons, List.length_nil, List.length_append, List.length_map, List.all_cons, List.all_nil, avs_len, beq_self_eq_true, Bool.and_self, and_self, or_true, true_or, reduceCtorEq, *]; done) | fail) only [c_law06_StampRefuses, go_sem, Nat.reduceAdd, Nat.reduceSub, Nat.reduceMul, Nat.reduceLT, Nat.reduceLeDiff, Int.reduceToNat, Nat.reduceEqDiff, Nat.reduceBEq, ↓reduceIte, reduceCtorEq, eA, scal1]
      repeat ((first | refine call0 300 trivial trivial (by first | exact sawake_calls | exact c1 | exact c2 | exact c3) (by first | exact .inl rfl | exact .inr rfl) (fun A eA => ?_) | refine call1 300 trivial trivial (by first | exact sawake_calls | exact c1 | exact c2 | exact c3) (fun A eA => ?_)); simp (disch := first | omega | (simp only [avs_len, List.length_cons, List.length_append, List.length_nil, List.length_take, List.length_drop, List.length_map]; omega) | (simp only [cells, scal1, allSz, List.length_cons, List.length_nil, List.length_append, List.length_map, List.all_cons, List.all_nil, avs_len, beq_self_eq_true, Bool.and_self, and_self, or_true, true_or, reduceCtorEq, *]; done) | fail) only [c_law06_StampRefuses, go_sem, Nat.reduceAdd, Nat.reduceSub, Nat.reduceMul, Nat.reduceLT, Nat.reduceLeDiff, Int.reduceToNat, Nat.reduceEqDiff, Nat.reduceBEq, ↓reduceIte, reduceCtorEq, eA, scal1])
      exact doneG rfl
    · rw [decide_eq_false f2] at c2
      refine calls_law06_StampRefuses (walk0 300 trivial (fun A eA => ?_))
      simp (disch := first | omega | (simp only [avs_len, List.length_cons, List.length_append, List.length_nil, List.length_take, List.length_drop, List.length_map]; omega) | (simp only [cells, scal1, allSz, List.length_cons, List.length_nil, List.length_append, List.length_map, List.all_cons, List.all_nil, avs_len, beq_self_eq_true, Bool.and_self, and_self, or_true, true_or, reduceCtorEq, *]; done) | fail) only [c_law06_StampRefuses, go_sem, Nat.reduceAdd, Nat.reduceSub, Nat.reduceMul, Nat.reduceLT, Nat.reduceLeDiff, Int.reduceToNat, Nat.reduceEqDiff, Nat.reduceBEq, ↓reduceIte, reduceCtorEq, eA, scal1]
      repeat ((first | refine call0 300 trivial trivial (by first | exact sawake_calls | exact c1 | exact c2) (by first | exact .inl rfl | exact .inr rfl) (fun A eA => ?_) | refine call1 300 trivial trivial (by first | exact sawake_calls | exact c1 | exact c2) (fun A eA => ?_)); simp (disch := first | omega | (simp only [avs_len, List.length_cons, List.length_append, List.length_nil, List.length_take, List.length_drop, List.length_map]; omega) | (simp only [cells, scal1, allSz, List.length_cons, List.length_nil, List.length_append, List.length_map, List.all_cons, List.all_nil, avs_len, beq_self_eq_true, Bool.and_self, and_self, or_true, true_or, reduceCtorEq, *]; done) | fail) only [c_law06_StampRefuses, go_sem, Nat.reduceAdd, Nat.reduceSub, Nat.reduceMul, Nat.reduceLT, Nat.reduceLeDiff, Int.reduceToNat, Nat.reduceEqDiff, Nat.reduceBEq, ↓reduceIte, reduceCtorEq, eA, scal1])
      exact doneG rfl
  · rw [decide_eq_false f1] at c1
    refine calls_law06_StampRefuses (walk0 300 trivial (fun A eA => ?_))
    simp (disch := first | omega | (simp only [avs_len, List.length_cons, List.length_append, List.length_nil, List.length_take, List.length_drop, List.length_map]; omega) | (simp only [cells, scal1, allSz, List.length_cons, List.length_nil, List.length_append, List.length_map, List.all_cons, List.all_nil, avs_len, beq_self_eq_true, Bool.and_self, and_self, or_true, true_or, reduceCtorEq, *]; done) | fail) only [c_law06_StampRefuses, go_sem, Nat.reduceAdd, Nat.reduceSub, Nat.reduceMul, Nat.reduceLT, Nat.reduceLeDiff, Int.reduceToNat, Nat.reduceEqDiff, Nat.reduceBEq, ↓reduceIte, reduceCtorEq, eA, scal1]
    repeat ((first | refine call0 300 trivial trivial (by first | exact sawake_calls | exact c1) (by first | exact .inl rfl | exact .inr rfl) (fun A eA => ?_) | refine call1 300 trivial trivial (by first | exact sawake_calls | exact c1) (fun A eA => ?_)); simp (disch := first | omega | (simp only [avs_len, List.length_cons, List.length_append, List.length_nil, List.length_take, List.length_drop, List.length_map]; omega) | (simp only [cells, scal1, allSz, List.length_cons, List.length_nil, List.length_append, List.length_map, List.all_cons, List.all_nil, avs_len, beq_self_eq_true, Bool.and_self, and_self, or_true, true_or, reduceCtorEq, *]; done) | fail) only [c_law06_StampRefuses, go_sem, Nat.reduceAdd, Nat.reduceSub, Nat.reduceMul, Nat.reduceLT, Nat.reduceLeDiff, Int.reduceToNat, Nat.reduceEqDiff, Nat.reduceBEq, ↓reduceIte, reduceCtorEq, eA, scal1])
    exact doneG rfl
theorem refuses_calls (t : Tree) (e v : ET) : PCalls Try.prog F_law06_StampRefuses [stv t e, xtv v] (.bool true) := by
  by_cases f : lcnt 30 t ≤ 1000 ∧ xlcnt 30 e ≤ 1000 ∧ xlcnt 30 v ≤ 1000
  case neg => exact refuses_few t e v f
  obtain ⟨f1, f2, f3⟩ := f
  have c1 := Few_calls t
  have c2 := xFew_calls e
  have c3 := xFew_calls v
  rw [decide_eq_true f1] at c1
  rw [decide_eq_true f2] at c2
  rw [decide_eq_true f3] at c3
  have z3 := xlcnt_size 30 v f3
  have r3 := refERight_calls v (by omega)
  have cj := stJoin_seed t e
  by_cases h : RtS t e
  case neg =>
    have d1 := stFork_no h
    have d2 := stTell_no h
    have d3 := stHear_no (v := v) (fun q => h q.1)
    have d4 := stRight_no h
    refine calls_law06_StampRefuses (walk0 300 trivial (fun A eA => ?_))
    simp (disch := first | omega | (simp only [avs_len, List.length_cons, List.length_append, List.length_nil, List.length_take, List.length_drop, List.length_map]; omega) | (simp only [cells, scal1, allSz, List.length_cons, List.length_nil, List.length_append, List.length_map, List.all_cons, List.all_nil, avs_len, beq_self_eq_true, Bool.and_self, and_self, or_true, true_or, reduceCtorEq, *]; done) | fail) only [c_law06_StampRefuses, go_sem, Nat.reduceAdd, Nat.reduceSub, Nat.reduceMul, Nat.reduceLT, Nat.reduceLeDiff, Int.reduceToNat, Nat.reduceEqDiff, Nat.reduceBEq, ↓reduceIte, reduceCtorEq, eA, scal1]
    repeat ((first | refine call0 300 trivial trivial (by first | exact sawake_calls | exact c1 | exact c2 | exact c3 | exact d1 | exact d2 | exact d3 | exact d4 | exact cj | exact seed_calls) (by first | exact .inl rfl | exact .inr rfl) (fun A eA => ?_) | refine call1 300 trivial trivial (by first | exact sawake_calls | exact c1 | exact c2 | exact c3 | exact d1 | exact d2 | exact d3 | exact d4 | exact cj | exact seed_calls) (fun A eA => ?_)); simp (disch := first | omega | (simp only [avs_len, List.length_cons, List.length_append, List.length_nil, List.length_take, List.length_drop, List.length_map]; omega) | (simp only [cells, scal1, allSz, List.length_cons, List.length_nil, List.length_append, List.length_map, List.all_cons, List.all_nil, avs_len, beq_self_eq_true, Bool.and_self, and_self, or_true, true_or, reduceCtorEq, *]; done) | fail) only [c_law06_StampRefuses, go_sem, Nat.reduceAdd, Nat.reduceSub, Nat.reduceMul, Nat.reduceLT, Nat.reduceLeDiff, Int.reduceToNat, Nat.reduceEqDiff, Nat.reduceBEq, ↓reduceIte, reduceCtorEq, eA, scal1, List.all_cons, List.all_nil, Bool.and_self])
    exact doneG rfl
  obtain ⟨x1, x2, y1, y2, c, d1⟩ := stFork_yes h
  obtain ⟨x3, y3, c2', d2⟩ := stTell_yes h
  have d4 := stRight_yes h
  by_cases hv : XRt v
  · obtain ⟨x4, y4, c3', hc, d3⟩ := stHear_yes h hv
    rw [xrtb_true.2 hv] at r3
    rcases hc with rfl | rfl
    all_goals
      refine calls_law06_StampRefuses (walk0 300 trivial (fun A eA => ?_))
      simp (disch := first | omega | (simp only [avs_len, List.length_cons, List.length_append, List.length_nil, List.length_take, List.length_drop, List.length_map]; omega) | (simp only [cells, scal1, allSz, List.length_cons, List.length_nil, List.length_append, List.length_map, List.all_cons, List.all_nil, avs_len, beq_self_eq_true, Bool.and_self, and_self, or_true, true_or, reduceCtorEq, *]; done) | fail) only [c_law06_StampRefuses, go_sem, Nat.reduceAdd, Nat.reduceSub, Nat.reduceMul, Nat.reduceLT, Nat.reduceLeDiff, Int.reduceToNat, Nat.reduceEqDiff, Nat.reduceBEq, ↓reduceIte, reduceCtorEq, eA, scal1]
      repeat ((first | refine call0 300 trivial trivial (by first | exact sawake_calls | exact c1 | exact c2 | exact c3 | exact d1 | exact d2 | exact d3 | exact d4 | exact cj | exact seed_calls | exact r3) (by first | exact .inl rfl | exact .inr rfl) (fun A eA => ?_) | refine call1 300 trivial trivial (by first | exact sawake_calls | exact c1 | exact c2 | exact c3 | exact d1 | exact d2 | exact d3 | exact d4 | exact cj | exact seed_calls | exact r3) (fun A eA => ?_)); simp (disch := first | omega | (simp only [avs_len, List.length_cons, List.length_append, List.length_nil, List.length_take, List.length_drop, List.length_map]; omega) | (simp only [cells, scal1, allSz, List.length_cons, List.length_nil, List.length_append, List.length_map, List.all_cons, List.all_nil, avs_len, beq_self_eq_true, Bool.and_self, and_self, or_true, true_or, reduceCtorEq, *]; done) | fail) only [c_law06_StampRefuses, go_sem, Nat.reduceAdd, Nat.reduceSub, Nat.reduceMul, Nat.reduceLT, Nat.reduceLeDiff, Int.reduceToNat, Nat.reduceEqDiff, Nat.reduceBEq, ↓reduceIte, reduceCtorEq, eA, scal1, List.all_cons, List.all_nil, Bool.and_self, Int.ofNat_zero, beq_self_eq_true])
      exact doneG rfl
  · have d3 := stHear_no (t := t) (e := e) (fun q => hv q.2)
    rw [xrtb_no hv] at r3
    refine calls_law06_StampRefuses (walk0 300 trivial (fun A eA => ?_))
    simp (disch := first | omega | (simp only [avs_len, List.length_cons, List.length_append, List.length_nil, List.length_take, List.length_drop, List.length_map]; omega) | (simp only [cells, scal1, allSz, List.length_cons, List.length_nil, List.length_append, List.length_map, List.all_cons, List.all_nil, avs_len, beq_self_eq_true, Bool.and_self, and_self, or_true, true_or, reduceCtorEq, *]; done) | fail) only [c_law06_StampRefuses, go_sem, Nat.reduceAdd, Nat.reduceSub, Nat.reduceMul, Nat.reduceLT, Nat.reduceLeDiff, Int.reduceToNat, Nat.reduceEqDiff, Nat.reduceBEq, ↓reduceIte, reduceCtorEq, eA, scal1]
    repeat ((first | refine call0 300 trivial trivial (by first | exact sawake_calls | exact c1 | exact c2 | exact c3 | exact d1 | exact d2 | exact d3 | exact d4 | exact cj | exact seed_calls | exact r3) (by first | exact .inl rfl | exact .inr rfl) (fun A eA => ?_) | refine call1 300 trivial trivial (by first | exact sawake_calls | exact c1 | exact c2 | exact c3 | exact d1 | exact d2 | exact d3 | exact d4 | exact cj | exact seed_calls | exact r3) (fun A eA => ?_)); simp (disch := first | omega | (simp only [avs_len, List.length_cons, List.length_append, List.length_nil, List.length_take, List.length_drop, List.length_map]; omega) | (simp only [cells, scal1, allSz, List.length_cons, List.length_nil, List.length_append, List.length_map, List.all_cons, List.all_nil, avs_len, beq_self_eq_true, Bool.and_self, and_self, or_true, true_or, reduceCtorEq, *]; done) | fail) only [c_law06_StampRefuses, go_sem, Nat.reduceAdd, Nat.reduceSub, Nat.reduceMul, Nat.reduceLT, Nat.reduceLeDiff, Int.reduceToNat, Nat.reduceEqDiff, Nat.reduceBEq, ↓reduceIte, reduceCtorEq, eA, scal1, List.all_cons, List.all_nil, Bool.and_self, beq_self_eq_true])
    exact doneG rfl
theorem refuses_pair (z : Tree × ET) (v : ET) : PCalls Try.prog F_law06_StampRefuses [stv z.1 z.2, xtv v] (.bool true) := refuses_calls z.1 z.2 v
end Go.Proofs.Ytmokhopjnjecbab
/- Rows of bytes out of a row's reading of the arguments. -/
namespace Go.Proofs.Ytmokhopjnjecbab.Sized
open Go.ChangeShapes Go.WideShapes Go.RowKit
open Go.Ev (PCalls Rep Reps none4 zeroC avs avs_get avs_len add_mk)
set_option linter.unusedVariables false
set_option linter.unusedSimpArgs false
/-- A slice of whole numbers, opened. -/
def IsRow (k : IntKind) (w : World) (a : Option Addr) (len cap : Nat) (zs : List Int) : Prop :=
  (a = none ∧ len = 0 ∧ cap = 0 ∧ zs = []) ∨
  ∃ x, a = some x ∧ len ≤ cap ∧ cap ≤ maxLen ∧ zs.length = cap ∧ (∀ i, i < zs.length → w.cell? (x.add i) = some (.int k (zs.getD i 0))) ∧ ∀ n ∈ zs, (Lit.int k n).wf = true
theorem rep_bytes {w : World} {a : Option Addr} {len cap : Nat} {zs : List Int} (h : IsRow .u8 w a len cap zs) :
    ∃ bs : List Nat, (∀ b ∈ bs, b < 256) ∧ bs.length = len ∧ Rep none4 (fun _ => False) zeroC w true (.fz 1 (avs bs) none) (.slice a len cap) := by
  rcases h with ⟨rfl, rfl, rfl, rfl⟩ | ⟨x, rfl, hl, hm, hz, hcell, hwf⟩
  · exact ⟨[], by simp, rfl, .fz0 (by simp) (fun _ => ⟨rfl, rfl⟩)⟩
  · have hrange : ∀ n ∈ zs, 0 ≤ n ∧ n < 256 := by
      intro n hn
      have := hwf n hn
      simp [Lit.wf, IntKind.min, IntKind.max, IntKind.signed, IntKind.bits] at this
      omega
    have hlen : ((zs.take len).map Int.toNat).length = len := by simp; omega
    refine ⟨(zs.take len).map Int.toNat, ?_, hlen, ?_⟩
    · intro b hb
      obtain ⟨n, hn, rfl⟩ := List.mem_map.1 hb
      have := hrange n (List.mem_of_mem_take hn)
      omega
    · by_cases h0 : len = 0
      · subst h0
        simp only [List.take_zero, List.map_nil, avs]
        exact .fz0 (by simp) (fun e => by cases e)
      · have hal : (avs ((zs.take len).map Int.toNat)).length = len := by rw [avs_len]; exact hlen
        have hsl : (Value.slice (some x) len cap) = .slice (some x) (avs ((zs.take len).map Int.toNat)).length cap := by rw [hal]
        rw [hsl]
        have hget : ∀ (i : Nat) e, (avs ((zs.take len).map Int.toNat))[i]? = some e → i < zs.length ∧ e = .int .u8 (zs.getD i 0) := by
          intro i e hi
          have hlt : i < len := by have := (List.getElem?_eq_some_iff.1 hi).1; omega
          rw [avs_get, List.getElem?_map, List.getElem?_take_of_lt hlt, List.getElem?_eq_getElem (by omega)] at hi
          simp at hi
          subst hi
          refine ⟨by omega, ?_⟩
          have := hrange zs[i] (List.getElem_mem (by omega))
          have e2 : zs.getD i 0 = zs[i] := by simp [List.getD, show i < zs.length by omega]
          rw [e2]
          congr 1
          omega
        refine .fz (fun i _ => .int .u8 (zs.getD i 0)) (fun e => by rw [e] at hal; simp at hal; omega) (by omega) (by simp) (fun i e hi => ?_) (fun i e j y hi hj => ?_) (fun i e j y hi hj => ?_) (fun i e j y hi hj => rfl) ⟨fun _ _ _ h => h, fun h => h, ?_⟩
        · obtain ⟨_, rfl⟩ := hget i e hi; rfl
        · obtain ⟨hlt, rfl⟩ := hget i e hi
          cases j with
          | succ j => simp [Ev.cells] at hj
          | zero => rw [Nat.mul_one, Nat.add_zero]; exact hcell i hlt
        · obtain ⟨hlt, rfl⟩ := hget i e hi
          cases j with
          | succ j => simp [Ev.cells] at hj
          | zero => simp [Ev.cells] at hj; subst hj; exact .int
        · have := hcell 0 (by omega)
          have := World.block_lt_of_cell? w _ this
          rwa [Ev.add_block] at this
/-- A slice of rows of bytes, opened. -/
theorem rep_rows {H : Type} {enc : TypeId × Value → H} {P : Program} {w : World} {base : Nat} {held : Bool} {fuel : Nat} {t e b : TypeId} {a : Option Addr} {len cap : Nat} {x : DataW H × List MemPlace}
    (ht : P.underlying t = some (.slice e)) (he : P.underlying e = some (.slice b)) (hb : P.underlying b = some (.int .u8)) (hc1 : P.cellsOf e = 1) (hc2 : P.cellsOf b = 1)
    (h : DataW.trod enc P w base (fun _ => true) held fuel t [.slice a len cap] = some x) :
    ∃ ls : List (List Nat), ls.length = len ∧ (∀ l ∈ ls, ∀ b ∈ l, b < 256) ∧ Rep none4 (fun _ => False) zeroC w true (.fz 1 (ls.map fun l => .fz 1 (avs l) none) none) (.slice a len cap) := by
  rcases DataW.trod_slice ht h with ⟨hcs, _⟩ | ⟨a', len', cap', elems, rest, n, _, hcs, rfl, hbb, hl, hm, hlen, hel, _, _⟩
  · simp only [List.cons.injEq, Value.slice.injEq, and_true] at hcs
    obtain ⟨rfl, rfl, rfl⟩ := hcs
    exact ⟨[], rfl, by simp, .fz0 (by simp) (fun _ => ⟨rfl, rfl⟩)⟩
  · simp only [List.cons.injEq, Value.slice.injEq, and_true] at hcs
    obtain ⟨rfl, rfl, rfl⟩ := hcs
    have each : ∀ i, i < len → ∃ (bs : List Nat) (v : Value), (∀ b ∈ bs, b < 256) ∧ w.cell? (a'.add i) = some v ∧ Rep none4 (fun _ => False) zeroC w true (.fz 1 (avs bs) none) v ∧ v.oneCell' = true := by
      intro i hi
      have h1 := hel i hi
      rw [List.getElem?_eq_getElem (by omega), hc1, Nat.mul_one, Option.bind_eq_some_iff] at h1
      obtain ⟨cs', h2, h3⟩ := h1
      have row : ∃ a1 l1 c1 zs, cs' = [.slice a1 l1 c1] ∧ IsRow .u8 w a1 l1 c1 zs := by
        rcases open_ints he hb hc2 h3 with ⟨rfl, _⟩ | ⟨x1, l1, c1, zs, rfl, _, hl1, hm1, hz, _, hcell, hwz⟩
        · exact ⟨none, 0, 0, [], rfl, .inl ⟨rfl, rfl, rfl, rfl⟩⟩
        · exact ⟨some x1, l1, c1, zs, rfl, .inr ⟨x1, rfl, hl1, hm1, by simpa using hz, hcell, hwz⟩⟩
      obtain ⟨a1, l1, c1, zs, rfl, hrow⟩ := row
      obtain ⟨bs, hbs, _, hrep⟩ := rep_bytes hrow
      exact ⟨bs, _, hbs, cell_of_cells?_one h2, hrep, rfl⟩
    obtain ⟨f, hf⟩ : ∃ f : Nat → List Nat × Value, ∀ i, i < len → (∀ b ∈ (f i).1, b < 256) ∧ w.cell? (a'.add i) = some (f i).2 ∧ Rep none4 (fun _ => False) zeroC w true (.fz 1 (avs (f i).1) none) (f i).2 ∧ (f i).2.oneCell' = true :=
      ⟨fun i => if hi : i < len then (Classical.choose (each i hi), Classical.choose (Classical.choose_spec (each i hi))) else ([], undef), fun i hi => by
        simp only [dif_pos hi]
        exact Classical.choose_spec (Classical.choose_spec (each i hi))⟩
    clear each
    refine ⟨(List.range len).map fun i => (f i).1, by simp, ?_, ?_⟩
    · intro l hl'
      obtain ⟨i, hi, rfl⟩ := List.mem_map.1 hl'
      exact (hf i (List.mem_range.1 hi)).1
    · by_cases h0 : len = 0
      · subst h0
        exact .fz0 (by simp) (fun e => by cases e)
      · have hget : ∀ (i : Nat) y, (((List.range len).map fun i => (f i).1).map fun l => Ev.AV.fz 1 (avs l) none)[i]? = some y → i < len ∧ y = .fz 1 (avs (f i).1) none := by
          intro i y hy
          have hi : i < len := by have := (List.getElem?_eq_some_iff.1 hy).1; simpa using this
          simp [List.getElem?_map, hi] at hy
          exact ⟨hi, hy.symm⟩
        have hsl : (Value.slice (some a') len cap) = .slice (some a') (((List.range len).map fun i => (f i).1).map fun l => Ev.AV.fz 1 (avs l) none).length cap := by simp
        rw [hsl]
        refine .fz (fun i _ => (f i).2) (fun e => by have := congrArg List.length e; simp at this; omega) (by simpa using hl) (by simp) (fun i y hy => ?_) (fun i y j z hy hj => ?_) (fun i y j z hy hj => ?_) (fun i y j z hy hj => ?_) ⟨fun _ _ _ h => h, fun h => h, ?_⟩
        · obtain ⟨hi, rfl⟩ := hget i y hy; rfl
        · obtain ⟨hi, rfl⟩ := hget i y hy
          cases j with
          | succ j => simp [Ev.cells] at hj
          | zero => rw [Nat.mul_one, Nat.add_zero]; exact (hf i hi).2.1
        · obtain ⟨hi, rfl⟩ := hget i y hy
          cases j with
          | succ j => simp [Ev.cells] at hj
          | zero =>
            simp [Ev.cells] at hj; subst hj
            exact (hf i hi).2.2.1
        · obtain ⟨hi, rfl⟩ := hget i y hy
          exact (hf i hi).2.2.2
        · have := World.block_lt_of_cell? w _ (hf 0 (by omega)).2.1
          rwa [Ev.add_block] at this
/-- A row's slice of whole numbers is no longer than its weight allows. -/
theorem sized_ints {H : Type} {enc : TypeId × Value → H} {P : Program} {W : World} {base : Nat} {spare : Nat → Bool} {held : Bool} {t e : TypeId} {k : IntKind} {a : Option Addr} {len cap : Nat} {d : DataW H} {ps : List MemPlace} {ts : List TypeId} {ds : List (DataW H)} {j : Nat}
    (hsz : (DataW.weightsEach P ts ds).all (· ≤ reachBytes) = true) (ht : ts[j]? = some t) (hd : ds[j]? = some d) (hu : P.underlying t = some (.slice e)) (he : P.underlying e = some (.int k)) (hc : P.cellsOf e = 1) {B : Nat} (hB : P.bytesOf e = B)
    (h : DataW.Trod enc P W base spare held t (.slice a len cap) d ps) : len * B ≤ 140737488351232 := by
  obtain ⟨fuel, hf⟩ := h
  rcases open_ints hu he hc hf with ⟨hcs, _⟩ | ⟨x, l, c, zs, hcs, _, hl, _, hz, hx, _, _⟩
  · simp [Value.cells] at hcs
    obtain ⟨rfl, rfl, rfl⟩ := hcs
    simp
  · simp [Value.cells] at hcs
    obtain ⟨rfl, rfl, rfl⟩ := hcs
    obtain ⟨hx, _⟩ := Prod.mk.inj hx
    subst hx
    have z := sized_slice hsz ht hd hu
    rw [hB] at z
    have hl2 : len ≤ zs.length := by
      rw [hz]
      split
      · exact hl
      · exact Nat.le_refl _
    have h1 : (lits (H := H) k (zs.take len)).length + (lits (H := H) k (zs.drop len)).length = zs.length := by
      simp [lits]
      omega
    rw [h1] at z
    exact Nat.le_trans (Nat.mul_le_mul_right _ hl2) z
end Go.Proofs.Ytmokhopjnjecbab.Sized
