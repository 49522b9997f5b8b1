/- The walks through greatest and fill. -/
import Derived.Test.YtmokhopjnjecbabM4
-- short
namespace Go.Proofs.Ytmokhopjnjecbab
open Go.Ev
set_option linter.unusedVariables false
set_option linter.unusedSimpArgs false
set_option maxRecDepth 100000
set_option maxHeartbeats 1600000

theorem xtv_nd (n : Nat) (l r : E) : xtv (E.nd n l r).t = .agg [.int .i64 (n : Nat), .fz 2 [xtv l.t, xtv r.t] none] := by
  show AV.agg [.int .i64 (n : Int), .fz 2 (xtavs [l.t, r.t]) none] = _
  simp only [xtavs, xtav_tv]
theorem xtv_lf (n : Nat) : xtv (E.lf n).t = .agg [.int .i64 (n : Nat), .fz 2 [] none] := by
  show AV.agg [.int .i64 (n : Int), .fz 2 (xtavs []) none] = _
  simp only [xtavs]
theorem tv_nd (l r : B) : tv (B.nd l r).t = .agg [.bool false, .fz 2 [tv l.t, tv r.t] none] := by
  show AV.agg [.bool false, .fz 2 (tavs [l.t, r.t]) none] = _
  simp only [tavs, tav_tv]
theorem tv_lf (o : Bool) : tv (B.lf o).t = .agg [.bool o, .fz 2 [] none] := by
  show AV.agg [.bool o, .fz 2 (tavs []) none] = _
  simp only [tavs]
theorem tv_of {t : Tree} {o : Bool} (h : t.one = o) : tv t = .agg [.bool o, .fz 2 (tavs t.ps) none] := by subst h; rfl
theorem B.t_one (b : B) : b.t.one = b.one := by cases b <;> rfl
theorem fillE_top : ∀ (i : B) (e : E), (fillE i e).top ≤ e.top
  | .lf o, e => by simp only [fillE]; split <;> simp [E.top]
  | .nd il ir, .lf n => Nat.le_refl _
  | .nd il ir, .nd n l r => by
    have hl := fillE_top il l
    have hr := fillE_top ir r
    have hln := (fillE il l).top_n
    have hrn := (fillE ir r).top_n
    simp only [fillE]
    split
    · rw [nodeE_top]; simp only [E.top]; omega
    · split
      · rw [nodeE_top]; simp only [E.top]; omega
      · rw [nodeE_top]; simp only [E.top]; omega
theorem xgreat_calls : ∀ (e : E), e.top < 2 ^ 60 → PCalls Try.prog F_event_greatest [xtv e.t] (.int .i64 (e.top : Nat)) := by
  intro e
  induction e with
  | lf n =>
    intro h
    have ca := xleaf_b (E.lf n)
    rw [xtv_lf] at ca ⊢
    refine calls_event_greatest (walk0 100 trivial (fun A eA => ?_))
    simp (disch := first | omega | (simp only [avs_len, List.length_cons, List.length_append, List.length_nil, List.length_take, List.length_drop, List.length_map]; omega) | (simp only [cells, scal1, allSz, List.length_cons, List.length_nil, List.length_append, List.length_map, List.all_cons, List.all_nil, avs_len, beq_self_eq_true, Bool.and_self, and_self, or_true, true_or, reduceCtorEq, *]; done) | fail) only [c_event_greatest, go_sem, Nat.reduceAdd, Nat.reduceSub, Nat.reduceMul, Nat.reduceLT, Nat.reduceLeDiff, Int.reduceToNat, Nat.reduceEqDiff, Nat.reduceBEq, ↓reduceIte, reduceCtorEq, eA]
    repeat ((first | refine call0 100 trivial trivial (by first | exact ca) (by first | exact .inl rfl | exact .inr rfl) (fun A eA => ?_) | refine call1 100 trivial trivial (by first | exact ca) (fun A eA => ?_)); simp (disch := first | omega | (simp only [avs_len, List.length_cons, List.length_append, List.length_nil, List.length_take, List.length_drop, List.length_map]; omega) | (simp only [cells, scal1, allSz, List.length_cons, List.length_nil, List.length_append, List.length_map, List.all_cons, List.all_nil, avs_len, beq_self_eq_true, Bool.and_self, and_self, or_true, true_or, reduceCtorEq, *]; done) | fail) only [c_event_greatest, go_sem, Nat.reduceAdd, Nat.reduceSub, Nat.reduceMul, Nat.reduceLT, Nat.reduceLeDiff, Int.reduceToNat, Nat.reduceEqDiff, Nat.reduceBEq, ↓reduceIte, reduceCtorEq, eA, E.leaf])
    exact doneG rfl
  | nd n l r ihl ihr =>
    intro h
    simp only [E.top] at h
    have cl := ihl (by omega)
    have cr := ihr (by omega)
    have ca := xleaf_b (E.nd n l r)
    rw [xtv_nd] at ca ⊢
    have emx : (if ((r.top : Nat) : Int) > ((l.top : Nat) : Int) then ((r.top : Nat) : Int) else ((l.top : Nat) : Int)) = ((max l.top r.top : Nat) : Int) := by split <;> omega
    have w : IntKind.i64.wrap ((n : Int) + ((max l.top r.top : Nat) : Int)) = (((E.nd n l r).top : Nat) : Int) := by simp only [E.top]; rw [IntKind.wrap_i64]; omega
    refine calls_event_greatest (walk0 100 trivial (fun A eA => ?_))
    simp (disch := first | omega | (simp only [avs_len, List.length_cons, List.length_append, List.length_nil, List.length_take, List.length_drop, List.length_map]; omega) | (simp only [cells, scal1, allSz, List.length_cons, List.length_nil, List.length_append, List.length_map, List.all_cons, List.all_nil, avs_len, beq_self_eq_true, Bool.and_self, and_self, or_true, true_or, reduceCtorEq, *]; done) | fail) only [c_event_greatest, go_sem, Nat.reduceAdd, Nat.reduceSub, Nat.reduceMul, Nat.reduceLT, Nat.reduceLeDiff, Int.reduceToNat, Nat.reduceEqDiff, Nat.reduceBEq, ↓reduceIte, reduceCtorEq, eA]
    repeat ((first | refine call0 100 trivial trivial (by first | exact ca | exact cl | exact cr) (by first | exact .inl rfl | exact .inr rfl) (fun A eA => ?_) | refine call1 100 trivial trivial (by first | exact ca | exact cl | exact cr) (fun A eA => ?_)); simp (disch := first | omega | (simp only [avs_len, List.length_cons, List.length_append, List.length_nil, List.length_take, List.length_drop, List.length_map]; omega) | (simp only [cells, scal1, allSz, List.length_cons, List.length_nil, List.length_append, List.length_map, List.all_cons, List.all_nil, avs_len, beq_self_eq_true, Bool.and_self, and_self, or_true, true_or, reduceCtorEq, *]; done) | fail) only [c_event_greatest, go_sem, Nat.reduceAdd, Nat.reduceSub, Nat.reduceMul, Nat.reduceLT, Nat.reduceLeDiff, Int.reduceToNat, Nat.reduceEqDiff, Nat.reduceBEq, ↓reduceIte, reduceCtorEq, eA, E.leaf, emx, w])
    exact doneG rfl
theorem xfill_calls : ∀ (i : B) (e : E), e.top < 2 ^ 60 → PCalls Try.prog F_event_fill [tv i.t, xtv e.t] (xtv (fillE i e).t) := by
  intro i
  induction i with
  | lf o =>
    intro e he
    rw [tv_lf]
    have cg := xgreat_calls e he
    refine calls_event_fill (walk0 100 trivial (fun A eA => ?_))
    cases o with
    | true =>
      simp (disch := first | omega | (simp only [avs_len, List.length_cons, List.length_append, List.length_nil, List.length_take, List.length_drop, List.length_map]; omega) | (simp only [cells, scal1, allSz, List.length_cons, List.length_nil, List.length_append, List.length_map, List.all_cons, List.all_nil, avs_len, beq_self_eq_true, Bool.and_self, and_self, or_true, true_or, reduceCtorEq, *]; done) | fail) only [c_event_fill, go_sem, Nat.reduceAdd, Nat.reduceSub, Nat.reduceMul, Nat.reduceLT, Nat.reduceLeDiff, Int.reduceToNat, Nat.reduceEqDiff, Nat.reduceBEq, ↓reduceIte, reduceCtorEq, eA]
      repeat ((first | refine call0 100 trivial trivial (by first | exact cg) (by first | exact .inl rfl | exact .inr rfl) (fun A eA => ?_) | refine call1 100 trivial trivial (by first | exact cg) (fun A eA => ?_)); simp (disch := first | omega | (simp only [avs_len, List.length_cons, List.length_append, List.length_nil, List.length_take, List.length_drop, List.length_map]; omega) | (simp only [cells, scal1, allSz, List.length_cons, List.length_nil, List.length_append, List.length_map, List.all_cons, List.all_nil, avs_len, beq_self_eq_true, Bool.and_self, and_self, or_true, true_or, reduceCtorEq, *]; done) | fail) only [c_event_fill, go_sem, Nat.reduceAdd, Nat.reduceSub, Nat.reduceMul, Nat.reduceLT, Nat.reduceLeDiff, Int.reduceToNat, Nat.reduceEqDiff, Nat.reduceBEq, ↓reduceIte, reduceCtorEq, eA])
      exact doneW rfl (xwk_leaf _)
    | false =>
      simp (disch := first | omega | (simp only [avs_len, List.length_cons, List.length_append, List.length_nil, List.length_take, List.length_drop, List.length_map]; omega) | (simp only [cells, scal1, allSz, List.length_cons, List.length_nil, List.length_append, List.length_map, List.all_cons, List.all_nil, avs_len, beq_self_eq_true, Bool.and_self, and_self, or_true, true_or, reduceCtorEq, *]; done) | fail) only [c_event_fill, go_sem, Nat.reduceAdd, Nat.reduceSub, Nat.reduceMul, Nat.reduceLT, Nat.reduceLeDiff, Int.reduceToNat, Nat.reduceEqDiff, Nat.reduceBEq, ↓reduceIte, reduceCtorEq, eA]
      exact doneG rfl
  | nd il ir ihl ihr =>
    intro e he
    rw [tv_nd]
    have o1 := B.t_one il
    have o2 := B.t_one ir
    cases e with
    | lf n =>
      have ca := xleaf_b (E.lf n)
      show PCalls Try.prog F_event_fill _ (xtv (E.lf n).t)
      rw [xtv_lf] at ca ⊢
      refine calls_event_fill (walk0 100 trivial (fun A eA => ?_))
      simp (disch := first | omega | (simp only [avs_len, List.length_cons, List.length_append, List.length_nil, List.length_take, List.length_drop, List.length_map]; omega) | (simp only [cells, scal1, allSz, List.length_cons, List.length_nil, List.length_append, List.length_map, List.all_cons, List.all_nil, avs_len, beq_self_eq_true, Bool.and_self, and_self, or_true, true_or, reduceCtorEq, *]; done) | fail) only [c_event_fill, go_sem, Nat.reduceAdd, Nat.reduceSub, Nat.reduceMul, Nat.reduceLT, Nat.reduceLeDiff, Int.reduceToNat, Nat.reduceEqDiff, Nat.reduceBEq, ↓reduceIte, reduceCtorEq, eA]
      repeat ((first | refine call0 100 trivial trivial (by first | exact ca) (by first | exact .inl rfl | exact .inr rfl) (fun A eA => ?_) | refine call1 100 trivial trivial (by first | exact ca) (fun A eA => ?_)); simp (disch := first | omega | (simp only [avs_len, List.length_cons, List.length_append, List.length_nil, List.length_take, List.length_drop, List.length_map]; omega) | (simp only [cells, scal1, allSz, List.length_cons, List.length_nil, List.length_append, List.length_map, List.all_cons, List.all_nil, avs_len, beq_self_eq_true, Bool.and_self, and_self, or_true, true_or, reduceCtorEq, *]; done) | fail) only [c_event_fill, go_sem, Nat.reduceAdd, Nat.reduceSub, Nat.reduceMul, Nat.reduceLT, Nat.reduceLeDiff, Int.reduceToNat, Nat.reduceEqDiff, Nat.reduceBEq, ↓reduceIte, reduceCtorEq, eA, E.leaf])
      exact doneG rfl
    | nd n l r =>
      simp only [E.top] at he
      have ca := xleaf_b (E.nd n l r)
      have tl := fillE_top il l
      have tr := fillE_top ir r
      have nl := (fillE il l).top_n
      have nr := (fillE ir r).top_n
      have cl := ihl l (by omega)
      have cr := ihr r (by omega)
      have gl := xgreat_calls l (by omega)
      have gr := xgreat_calls r (by omega)
      rw [xtv_nd] at ca ⊢
      simp only [fillE]
      refine calls_event_fill (walk0 100 trivial (fun A eA => ?_))
      by_cases h1 : il.one = true
      · rw [if_pos h1]
        rw [h1] at o1
        have cn := xnode_calls n (.lf (max l.top (fillE ir r).n)) (fillE ir r) (by simp only [E.top]; omega)
        have cn2 : PCalls Try.prog F_event_node [.int .i64 (n : Nat), .agg [.int .i64 ((max l.top (fillE ir r).n : Nat) : Int), .nils], xtv (fillE ir r).t] _ := PCalls.arg [.int .i64 (n : Nat)] (xwk_leaf _) cn
        have emx : (if (fillE ir r).t.n > ((l.top : Nat) : Int) then (fillE ir r).t.n else ((l.top : Nat) : Int)) = ((max l.top (fillE ir r).n : Nat) : Int) := by rw [E.t_n]; split <;> omega
        simp (disch := first | omega | (simp only [avs_len, List.length_cons, List.length_append, List.length_nil, List.length_take, List.length_drop, List.length_map]; omega) | (simp only [cells, scal1, allSz, List.length_cons, List.length_nil, List.length_append, List.length_map, List.all_cons, List.all_nil, avs_len, beq_self_eq_true, Bool.and_self, and_self, or_true, true_or, reduceCtorEq, *]; done) | fail) only [c_event_fill, go_sem, Nat.reduceAdd, Nat.reduceSub, Nat.reduceMul, Nat.reduceLT, Nat.reduceLeDiff, Int.reduceToNat, Nat.reduceEqDiff, Nat.reduceBEq, ↓reduceIte, reduceCtorEq, eA, o1]
        repeat ((first | refine call0 100 trivial trivial (by first | exact ca | exact cr | exact gl | exact cn2) (by first | exact .inl rfl | exact .inr rfl) (fun A eA => ?_) | refine call1 100 trivial trivial (by first | exact ca | exact cr | exact gl | exact cn2) (fun A eA => ?_)); simp (disch := first | omega | (simp only [avs_len, List.length_cons, List.length_append, List.length_nil, List.length_take, List.length_drop, List.length_map]; omega) | (simp only [cells, scal1, allSz, List.length_cons, List.length_nil, List.length_append, List.length_map, List.all_cons, List.all_nil, avs_len, beq_self_eq_true, Bool.and_self, and_self, or_true, true_or, reduceCtorEq, *]; done) | fail) only [c_event_fill, go_sem, Nat.reduceAdd, Nat.reduceSub, Nat.reduceMul, Nat.reduceLT, Nat.reduceLeDiff, Int.reduceToNat, Nat.reduceEqDiff, Nat.reduceBEq, ↓reduceIte, reduceCtorEq, eA, E.leaf, o1, emx])
        exact doneG rfl
      · rw [if_neg h1]
        rw [Bool.not_eq_true] at h1
        rw [h1] at o1
        by_cases h2 : ir.one = true
        · rw [if_pos h2]
          rw [h2] at o2
          have cn := xnode_calls n (fillE il l) (.lf (max r.top (fillE il l).n)) (by simp only [E.top]; omega)
          have cn2 : PCalls Try.prog F_event_node [.int .i64 (n : Nat), xtv (fillE il l).t, .agg [.int .i64 ((max r.top (fillE il l).n : Nat) : Int), .nils]] _ := PCalls.arg [.int .i64 (n : Nat), xtv (fillE il l).t] (xwk_leaf _) cn
          have emx : (if (fillE il l).t.n > ((r.top : Nat) : Int) then (fillE il l).t.n else ((r.top : Nat) : Int)) = ((max r.top (fillE il l).n : Nat) : Int) := by rw [E.t_n]; split <;> omega
          rw [tv_of o1] at cl
          simp (disch := first | omega | (simp only [avs_len, List.length_cons, List.length_append, List.length_nil, List.length_take, List.length_drop, List.length_map]; omega) | (simp only [cells, scal1, allSz, List.length_cons, List.length_nil, List.length_append, List.length_map, List.all_cons, List.all_nil, avs_len, beq_self_eq_true, Bool.and_self, and_self, or_true, true_or, reduceCtorEq, *]; done) | fail) only [c_event_fill, go_sem, Nat.reduceAdd, Nat.reduceSub, Nat.reduceMul, Nat.reduceLT, Nat.reduceLeDiff, Int.reduceToNat, Nat.reduceEqDiff, Nat.reduceBEq, ↓reduceIte, reduceCtorEq, eA, o1, o2]
          repeat ((first | refine call0 100 trivial trivial (by first | exact ca | exact cl | exact gr | exact cn2) (by first | exact .inl rfl | exact .inr rfl) (fun A eA => ?_) | refine call1 100 trivial trivial (by first | exact ca | exact cl | exact gr | exact cn2) (fun A eA => ?_)); simp (disch := first | omega | (simp only [avs_len, List.length_cons, List.length_append, List.length_nil, List.length_take, List.length_drop, List.length_map]; omega) | (simp only [cells, scal1, allSz, List.length_cons, List.length_nil, List.length_append, List.length_map, List.all_cons, List.all_nil, avs_len, beq_self_eq_true, Bool.and_self, and_self, or_true, true_or, reduceCtorEq, *]; done) | fail) only [c_event_fill, go_sem, Nat.reduceAdd, Nat.reduceSub, Nat.reduceMul, Nat.reduceLT, Nat.reduceLeDiff, Int.reduceToNat, Nat.reduceEqDiff, Nat.reduceBEq, ↓reduceIte, reduceCtorEq, eA, E.leaf, o1, o2, emx])
          exact doneG rfl
        · rw [if_neg h2]
          rw [Bool.not_eq_true] at h2
          rw [h2] at o2
          have cn := xnode_calls n (fillE il l) (fillE ir r) (by omega)
          rw [tv_of o1] at cl
          rw [tv_of o2] at cr
          simp (disch := first | omega | (simp only [avs_len, List.length_cons, List.length_append, List.length_nil, List.length_take, List.length_drop, List.length_map]; omega) | (simp only [cells, scal1, allSz, List.length_cons, List.length_nil, List.length_append, List.length_map, List.all_cons, List.all_nil, avs_len, beq_self_eq_true, Bool.and_self, and_self, or_true, true_or, reduceCtorEq, *]; done) | fail) only [c_event_fill, go_sem, Nat.reduceAdd, Nat.reduceSub, Nat.reduceMul, Nat.reduceLT, Nat.reduceLeDiff, Int.reduceToNat, Nat.reduceEqDiff, Nat.reduceBEq, ↓reduceIte, reduceCtorEq, eA, o1, o2]
          repeat ((first | refine call0 100 trivial trivial (by first | exact ca | exact cl | exact cr | exact cn) (by first | exact .inl rfl | exact .inr rfl) (fun A eA => ?_) | refine call1 100 trivial trivial (by first | exact ca | exact cl | exact cr | exact cn) (fun A eA => ?_)); simp (disch := first | omega | (simp only [avs_len, List.length_cons, List.length_append, List.length_nil, List.length_take, List.length_drop, List.length_map]; omega) | (simp only [cells, scal1, allSz, List.length_cons, List.length_nil, List.length_append, List.length_map, List.all_cons, List.all_nil, avs_len, beq_self_eq_true, Bool.and_self, and_self, or_true, true_or, reduceCtorEq, *]; done) | fail) only [c_event_fill, go_sem, Nat.reduceAdd, Nat.reduceSub, Nat.reduceMul, Nat.reduceLT, Nat.reduceLeDiff, Int.reduceToNat, Nat.reduceEqDiff, Nat.reduceBEq, ↓reduceIte, reduceCtorEq, eA, E.leaf, o1, o2])
          exact doneG rfl
end Go.Proofs.Ytmokhopjnjecbab
/- The walk through grow. -/
-- short
-- fuel 300
namespace Go.Proofs.Ytmokhopjnjecbab
open Go.Ev
set_option linter.unusedVariables false
set_option linter.unusedSimpArgs false
set_option maxRecDepth 100000
set_option maxHeartbeats 3200000

theorem growE_top : ∀ (i : B) (e : E), (growE i e).1.top ≤ e.top + 1
  | .lf o, e => by simp only [growE, E.lift_top]; exact Nat.le_refl _
  | .nd il ir, e => by
    obtain ⟨h1, h2⟩ := splitE_top e
    have hl := growE_top il (splitE e).2.2.1
    have hr := growE_top ir (splitE e).2.2.2
    simp only [growE]
    split
    · rw [nodeE_top]; omega
    · split
      · rw [nodeE_top]; omega
      · split
        · rw [nodeE_top]; omega
        · rw [nodeE_top]; omega
theorem growE_1 {il ir : B} {e : E} (h1 : il.none = true) : growE (.nd il ir) e = (nodeE (splitE e).2.1 (splitE e).2.2.1 (growE ir (splitE e).2.2.2).1, (growE ir (splitE e).2.2.2).2 + 1 + (splitE e).1) := by
  simp only [growE]; rw [if_pos h1]
theorem growE_2 {il ir : B} {e : E} (h1 : ¬ il.none = true) (h2 : ir.none = true) : growE (.nd il ir) e = (nodeE (splitE e).2.1 (growE il (splitE e).2.2.1).1 (splitE e).2.2.2, (growE il (splitE e).2.2.1).2 + 1 + (splitE e).1) := by
  simp only [growE]; rw [if_neg h1, if_pos h2]
theorem growE_3 {il ir : B} {e : E} (h1 : ¬ il.none = true) (h2 : ¬ ir.none = true) (h3 : (growE il (splitE e).2.2.1).2 < (growE ir (splitE e).2.2.2).2) : growE (.nd il ir) e = (nodeE (splitE e).2.1 (growE il (splitE e).2.2.1).1 (splitE e).2.2.2, (growE il (splitE e).2.2.1).2 + 1 + (splitE e).1) := by
  simp only [growE]; rw [if_neg h1, if_neg h2, if_pos h3]
theorem growE_4 {il ir : B} {e : E} (h1 : ¬ il.none = true) (h2 : ¬ ir.none = true) (h3 : ¬ (growE il (splitE e).2.2.1).2 < (growE ir (splitE e).2.2.2).2) : growE (.nd il ir) e = (nodeE (splitE e).2.1 (splitE e).2.2.1 (growE ir (splitE e).2.2.2).1, (growE ir (splitE e).2.2.2).2 + 1 + (splitE e).1) := by
  simp only [growE]; rw [if_neg h1, if_neg h2, if_neg h3]
theorem wrap_two (a : Nat) (m : Int) (n : Nat) (h : a ≤ 8008) (hm : m = (n : Int)) (hn : n ≤ 1000) : IntKind.i64.wrap (IntKind.i64.wrap ((a : Int) + 1) + m) = ((a + 1 + n : Nat) : Int) := by
  rw [wrap64 (z := (a : Int) + 1) (by omega) (by omega), wrap64 (by omega) (by omega)]; omega
theorem nothing_b (b : B) : PCalls Try.prog F_ident_Nothing [tv b.t] (.bool b.none) := by
  have h := nothing_calls b.t
  cases b with
  | lf o => exact h
  | nd l r => exact h
theorem xlift1 (e : E) (h : e.top < 2 ^ 59) : PCalls Try.prog F_event_lift [xtv e.t, .int .i64 1] (xtv (e.lift 1).t) := by
  have := e.top_n
  have c := xlift_calls e 1 (e.n + 1) (by omega) (by omega) (by omega)
  rw [← xtv_lift] at c
  exact c
theorem xgrow_calls : ∀ (d : Nat) (i : B) (e : E), d ≤ 8 → i.dep ≤ d → e.top < 2 ^ 59 → PCalls Try.prog F_event_grow [tv i.t, xtv e.t] (.tup [xtv (growE i e).1.t, .int .i64 ((growE i e).2 : Nat)]) := by
  intro d
  induction d with
  | zero => intro i e _ h; have := i.dep_pos; omega
  | succ d ih =>
    intro i e hd8 hd he
    cases i with
    | lf o =>
      rw [tv_lf]
      have cl := xlift1 e he
      show PCalls Try.prog F_event_grow _ (.tup [xtv (e.lift 1).t, .int .i64 0])
      refine calls_event_grow (walk0 300 trivial (fun A eA => ?_))
      simp (disch := first | omega | (simp only [avs_len, List.length_cons, List.length_append, List.length_nil, List.length_take, List.length_drop, List.length_map]; omega) | (simp only [cells, scal1, allSz, List.length_cons, List.length_nil, List.length_append, List.length_map, List.all_cons, List.all_nil, avs_len, beq_self_eq_true, Bool.and_self, and_self, or_true, true_or, reduceCtorEq, *]; done) | fail) only [c_event_grow, go_sem, Nat.reduceAdd, Nat.reduceSub, Nat.reduceMul, Nat.reduceLT, Nat.reduceLeDiff, Int.reduceToNat, Nat.reduceEqDiff, Nat.reduceBEq, ↓reduceIte, reduceCtorEq, eA]
      repeat ((first | refine call0 300 trivial trivial (by first | exact cl) (by first | exact .inl rfl | exact .inr rfl) (fun A eA => ?_) | refine call1 300 trivial trivial (by first | exact cl) (fun A eA => ?_)); simp (disch := first | omega | (simp only [avs_len, List.length_cons, List.length_append, List.length_nil, List.length_take, List.length_drop, List.length_map]; omega) | (simp only [cells, scal1, allSz, List.length_cons, List.length_nil, List.length_append, List.length_map, List.all_cons, List.all_nil, avs_len, beq_self_eq_true, Bool.and_self, and_self, or_true, true_or, reduceCtorEq, *]; done) | fail) only [c_event_grow, go_sem, Nat.reduceAdd, Nat.reduceSub, Nat.reduceMul, Nat.reduceLT, Nat.reduceLeDiff, Int.reduceToNat, Nat.reduceEqDiff, Nat.reduceBEq, ↓reduceIte, reduceCtorEq, eA])
      exact doneG rfl
    | nd il ir =>
      simp only [B.dep] at hd
      rw [tv_nd]
      obtain ⟨s1, s2⟩ := splitE_top e
      have cl := ih il (splitE e).2.2.1 (by omega) (by omega) (by omega)
      have cr := ih ir (splitE e).2.2.2 (by omega) (by omega) (by omega)
      have tl := growE_top il (splitE e).2.2.1
      have tr := growE_top ir (splitE e).2.2.2
      have pl := growE_price d il (splitE e).2.2.1 (by omega)
      have pr := growE_price d ir (splitE e).2.2.2 (by omega)
      have n1 := nothing_b il
      have n2 := nothing_b ir
      have ca := xleaf_b e
      have kl := xnode_calls (splitE e).2.1 (growE il (splitE e).2.2.1).1 (splitE e).2.2.2 (by omega)
      have kr := xnode_calls (splitE e).2.1 (splitE e).2.2.1 (growE ir (splitE e).2.2.2).1 (by omega)
      have bl : (growE il (splitE e).2.2.1).2 ≤ 8008 := by omega
      have br : (growE ir (splitE e).2.2.2).2 ≤ 8008 := by omega
      cases e with
      | lf n =>
        simp only [splitE] at cl cr kl kr bl br
        have wl := wrap_two _ 1000 1000 bl rfl (by omega)
        have wr := wrap_two _ 1000 1000 br rfl (by omega)
        rw [xtv_lf] at ca
        show PCalls Try.prog F_event_grow [_, AV.agg [.int .i64 (n : Nat), .fz 2 (xtavs []) none]] _
        simp only [xtavs]
        have cl : PCalls Try.prog F_event_grow [tv il.t, .agg [.int .i64 0, .nils]] _ := PCalls.arg [tv il.t] (xwk_leaf 0) cl
        have cr : PCalls Try.prog F_event_grow [tv ir.t, .agg [.int .i64 0, .nils]] _ := PCalls.arg [tv ir.t] (xwk_leaf 0) cr
        have kl : PCalls Try.prog F_event_node [.int .i64 (n : Nat), xtv (growE il (E.lf 0)).1.t, .agg [.int .i64 0, .nils]] _ := PCalls.arg [.int .i64 (n : Nat), xtv (growE il (E.lf 0)).1.t] (xwk_leaf 0) kl
        have kr : PCalls Try.prog F_event_node [.int .i64 (n : Nat), .agg [.int .i64 0, .nils], xtv (growE ir (E.lf 0)).1.t] _ := PCalls.arg [.int .i64 (n : Nat)] (xwk_leaf 0) kr
        refine calls_event_grow (walk0 300 trivial (fun A eA => ?_))
        by_cases h1 : il.none = true
        · rw [growE_1 h1]
          rw [h1] at n1
          simp (disch := first | omega | (simp only [avs_len, List.length_cons, List.length_append, List.length_nil, List.length_take, List.length_drop, List.length_map]; omega) | (simp only [cells, scal1, allSz, List.length_cons, List.length_nil, List.length_append, List.length_map, List.all_cons, List.all_nil, avs_len, beq_self_eq_true, Bool.and_self, and_self, or_true, true_or, reduceCtorEq, *]; done) | fail) only [c_event_grow, go_sem, Nat.reduceAdd, Nat.reduceSub, Nat.reduceMul, Nat.reduceLT, Nat.reduceLeDiff, Int.reduceToNat, Nat.reduceEqDiff, Nat.reduceBEq, ↓reduceIte, reduceCtorEq, eA]
          repeat ((first | refine call0 300 trivial trivial (by first | exact ca | exact n1 | exact cr | exact kr) (by first | exact .inl rfl | exact .inr rfl) (fun A eA => ?_) | refine call1 300 trivial trivial (by first | exact ca | exact n1 | exact cr | exact kr) (fun A eA => ?_)); simp (disch := first | omega | (simp only [avs_len, List.length_cons, List.length_append, List.length_nil, List.length_take, List.length_drop, List.length_map]; omega) | (simp only [cells, scal1, allSz, List.length_cons, List.length_nil, List.length_append, List.length_map, List.all_cons, List.all_nil, avs_len, beq_self_eq_true, Bool.and_self, and_self, or_true, true_or, reduceCtorEq, *]; done) | fail) only [c_event_grow, go_sem, Nat.reduceAdd, Nat.reduceSub, Nat.reduceMul, Nat.reduceLT, Nat.reduceLeDiff, Int.reduceToNat, Nat.reduceEqDiff, Nat.reduceBEq, ↓reduceIte, reduceCtorEq, eA, E.leaf, wr])
          exact doneG rfl
        · have h1n := h1
          rw [Bool.not_eq_true] at h1
          rw [h1] at n1
          by_cases h2 : ir.none = true
          · rw [growE_2 h1n h2]
            rw [h2] at n2
            simp (disch := first | omega | (simp only [avs_len, List.length_cons, List.length_append, List.length_nil, List.length_take, List.length_drop, List.length_map]; omega) | (simp only [cells, scal1, allSz, List.length_cons, List.length_nil, List.length_append, List.length_map, List.all_cons, List.all_nil, avs_len, beq_self_eq_true, Bool.and_self, and_self, or_true, true_or, reduceCtorEq, *]; done) | fail) only [c_event_grow, go_sem, Nat.reduceAdd, Nat.reduceSub, Nat.reduceMul, Nat.reduceLT, Nat.reduceLeDiff, Int.reduceToNat, Nat.reduceEqDiff, Nat.reduceBEq, ↓reduceIte, reduceCtorEq, eA]
            repeat ((first | refine call0 300 trivial trivial (by first | exact ca | exact n1 | exact n2 | exact cl | exact kl) (by first | exact .inl rfl | exact .inr rfl) (fun A eA => ?_) | refine call1 300 trivial trivial (by first | exact ca | exact n1 | exact n2 | exact cl | exact kl) (fun A eA => ?_)); simp (disch := first | omega | (simp only [avs_len, List.length_cons, List.length_append, List.length_nil, List.length_take, List.length_drop, List.length_map]; omega) | (simp only [cells, scal1, allSz, List.length_cons, List.length_nil, List.length_append, List.length_map, List.all_cons, List.all_nil, avs_len, beq_self_eq_true, Bool.and_self, and_self, or_true, true_or, reduceCtorEq, *]; done) | fail) only [c_event_grow, go_sem, Nat.reduceAdd, Nat.reduceSub, Nat.reduceMul, Nat.reduceLT, Nat.reduceLeDiff, Int.reduceToNat, Nat.reduceEqDiff, Nat.reduceBEq, ↓reduceIte, reduceCtorEq, eA, E.leaf, wl])
            exact doneG rfl
          · have h2n := h2
            rw [Bool.not_eq_true] at h2
            rw [h2] at n2
            by_cases h3 : (growE il (E.lf 0)).2 < (growE ir (E.lf 0)).2
            · rw [growE_3 (e := E.lf n) h1n h2n h3]
              have h3' : (((growE il (E.lf 0)).2 : Nat) : Int) < (((growE ir (E.lf 0)).2 : Nat) : Int) := by omega
              simp (disch := first | omega | (simp only [avs_len, List.length_cons, List.length_append, List.length_nil, List.length_take, List.length_drop, List.length_map]; omega) | (simp only [cells, scal1, allSz, List.length_cons, List.length_nil, List.length_append, List.length_map, List.all_cons, List.all_nil, avs_len, beq_self_eq_true, Bool.and_self, and_self, or_true, true_or, reduceCtorEq, *]; done) | fail) only [c_event_grow, go_sem, Nat.reduceAdd, Nat.reduceSub, Nat.reduceMul, Nat.reduceLT, Nat.reduceLeDiff, Int.reduceToNat, Nat.reduceEqDiff, Nat.reduceBEq, ↓reduceIte, reduceCtorEq, eA]
              repeat ((first | refine call0 300 trivial trivial (by first | exact ca | exact n1 | exact n2 | exact cl | exact cr | exact kl) (by first | exact .inl rfl | exact .inr rfl) (fun A eA => ?_) | refine call1 300 trivial trivial (by first | exact ca | exact n1 | exact n2 | exact cl | exact cr | exact kl) (fun A eA => ?_)); simp (disch := first | omega | (simp only [avs_len, List.length_cons, List.length_append, List.length_nil, List.length_take, List.length_drop, List.length_map]; omega) | (simp only [cells, scal1, allSz, List.length_cons, List.length_nil, List.length_append, List.length_map, List.all_cons, List.all_nil, avs_len, beq_self_eq_true, Bool.and_self, and_self, or_true, true_or, reduceCtorEq, *]; done) | fail) only [c_event_grow, go_sem, Nat.reduceAdd, Nat.reduceSub, Nat.reduceMul, Nat.reduceLT, Nat.reduceLeDiff, Int.reduceToNat, Nat.reduceEqDiff, Nat.reduceBEq, ↓reduceIte, reduceCtorEq, eA, E.leaf, wl, h3'])
              exact doneG rfl
            · rw [growE_4 (e := E.lf n) h1n h2n h3]
              have h3' : ¬ (((growE il (E.lf 0)).2 : Nat) : Int) < (((growE ir (E.lf 0)).2 : Nat) : Int) := by omega
              simp (disch := first | omega | (simp only [avs_len, List.length_cons, List.length_append, List.length_nil, List.length_take, List.length_drop, List.length_map]; omega) | (simp only [cells, scal1, allSz, List.length_cons, List.length_nil, List.length_append, List.length_map, List.all_cons, List.all_nil, avs_len, beq_self_eq_true, Bool.and_self, and_self, or_true, true_or, reduceCtorEq, *]; done) | fail) only [c_event_grow, go_sem, Nat.reduceAdd, Nat.reduceSub, Nat.reduceMul, Nat.reduceLT, Nat.reduceLeDiff, Int.reduceToNat, Nat.reduceEqDiff, Nat.reduceBEq, ↓reduceIte, reduceCtorEq, eA]
              repeat ((first | refine call0 300 trivial trivial (by first | exact ca | exact n1 | exact n2 | exact cl | exact cr | exact kr) (by first | exact .inl rfl | exact .inr rfl) (fun A eA => ?_) | refine call1 300 trivial trivial (by first | exact ca | exact n1 | exact n2 | exact cl | exact cr | exact kr) (fun A eA => ?_)); simp (disch := first | omega | (simp only [avs_len, List.length_cons, List.length_append, List.length_nil, List.length_take, List.length_drop, List.length_map]; omega) | (simp only [cells, scal1, allSz, List.length_cons, List.length_nil, List.length_append, List.length_map, List.all_cons, List.all_nil, avs_len, beq_self_eq_true, Bool.and_self, and_self, or_true, true_or, reduceCtorEq, *]; done) | fail) only [c_event_grow, go_sem, Nat.reduceAdd, Nat.reduceSub, Nat.reduceMul, Nat.reduceLT, Nat.reduceLeDiff, Int.reduceToNat, Nat.reduceEqDiff, Nat.reduceBEq, ↓reduceIte, reduceCtorEq, eA, E.leaf, wr, h3'])
              exact doneG rfl
      | nd n l r =>
        simp only [splitE] at cl cr kl kr bl br
        have wl := wrap_two _ 0 0 bl rfl (by omega)
        have wr := wrap_two _ 0 0 br rfl (by omega)
        rw [xtv_nd] at ca
        show PCalls Try.prog F_event_grow [_, AV.agg [.int .i64 (n : Nat), .fz 2 (xtavs [l.t, r.t]) none]] _
        simp only [xtavs, xtav_tv]
        refine calls_event_grow (walk0 300 trivial (fun A eA => ?_))
        by_cases h1 : il.none = true
        · rw [growE_1 h1]
          rw [h1] at n1
          simp (disch := first | omega | (simp only [avs_len, List.length_cons, List.length_append, List.length_nil, List.length_take, List.length_drop, List.length_map]; omega) | (simp only [cells, scal1, allSz, List.length_cons, List.length_nil, List.length_append, List.length_map, List.all_cons, List.all_nil, avs_len, beq_self_eq_true, Bool.and_self, and_self, or_true, true_or, reduceCtorEq, *]; done) | fail) only [c_event_grow, go_sem, Nat.reduceAdd, Nat.reduceSub, Nat.reduceMul, Nat.reduceLT, Nat.reduceLeDiff, Int.reduceToNat, Nat.reduceEqDiff, Nat.reduceBEq, ↓reduceIte, reduceCtorEq, eA]
          repeat ((first | refine call0 300 trivial trivial (by first | exact ca | exact n1 | exact cr | exact kr) (by first | exact .inl rfl | exact .inr rfl) (fun A eA => ?_) | refine call1 300 trivial trivial (by first | exact ca | exact n1 | exact cr | exact kr) (fun A eA => ?_)); simp (disch := first | omega | (simp only [avs_len, List.length_cons, List.length_append, List.length_nil, List.length_take, List.length_drop, List.length_map]; omega) | (simp only [cells, scal1, allSz, List.length_cons, List.length_nil, List.length_append, List.length_map, List.all_cons, List.all_nil, avs_len, beq_self_eq_true, Bool.and_self, and_self, or_true, true_or, reduceCtorEq, *]; done) | fail) only [c_event_grow, go_sem, Nat.reduceAdd, Nat.reduceSub, Nat.reduceMul, Nat.reduceLT, Nat.reduceLeDiff, Int.reduceToNat, Nat.reduceEqDiff, Nat.reduceBEq, ↓reduceIte, reduceCtorEq, eA, E.leaf, wr])
          exact doneG rfl
        · have h1n := h1
          rw [Bool.not_eq_true] at h1
          rw [h1] at n1
          by_cases h2 : ir.none = true
          · rw [growE_2 h1n h2]
            rw [h2] at n2
            simp (disch := first | omega | (simp only [avs_len, List.length_cons, List.length_append, List.length_nil, List.length_take, List.length_drop, List.length_map]; omega) | (simp only [cells, scal1, allSz, List.length_cons, List.length_nil, List.length_append, List.length_map, List.all_cons, List.all_nil, avs_len, beq_self_eq_true, Bool.and_self, and_self, or_true, true_or, reduceCtorEq, *]; done) | fail) only [c_event_grow, go_sem, Nat.reduceAdd, Nat.reduceSub, Nat.reduceMul, Nat.reduceLT, Nat.reduceLeDiff, Int.reduceToNat, Nat.reduceEqDiff, Nat.reduceBEq, ↓reduceIte, reduceCtorEq, eA]
            repeat ((first | refine call0 300 trivial trivial (by first | exact ca | exact n1 | exact n2 | exact cl | exact kl) (by first | exact .inl rfl | exact .inr rfl) (fun A eA => ?_) | refine call1 300 trivial trivial (by first | exact ca | exact n1 | exact n2 | exact cl | exact kl) (fun A eA => ?_)); simp (disch := first | omega | (simp only [avs_len, List.length_cons, List.length_append, List.length_nil, List.length_take, List.length_drop, List.length_map]; omega) | (simp only [cells, scal1, allSz, List.length_cons, List.length_nil, List.length_append, List.length_map, List.all_cons, List.all_nil, avs_len, beq_self_eq_true, Bool.and_self, and_self, or_true, true_or, reduceCtorEq, *]; done) | fail) only [c_event_grow, go_sem, Nat.reduceAdd, Nat.reduceSub, Nat.reduceMul, Nat.reduceLT, Nat.reduceLeDiff, Int.reduceToNat, Nat.reduceEqDiff, Nat.reduceBEq, ↓reduceIte, reduceCtorEq, eA, E.leaf, wl])
            exact doneG rfl
          · have h2n := h2
            rw [Bool.not_eq_true] at h2
            rw [h2] at n2
            by_cases h3 : (growE il l).2 < (growE ir r).2
            · rw [growE_3 (e := E.nd n l r) h1n h2n h3]
              have h3' : (((growE il l).2 : Nat) : Int) < (((growE ir r).2 : Nat) : Int) := by omega
              simp (disch := first | omega | (simp only [avs_len, List.length_cons, List.length_append, List.length_nil, List.length_take, List.length_drop, List.length_map]; omega) | (simp only [cells, scal1, allSz, List.length_cons, List.length_nil, List.length_append, List.length_map, List.all_cons, List.all_nil, avs_len, beq_self_eq_true, Bool.and_self, and_self, or_true, true_or, reduceCtorEq, *]; done) | fail) only [c_event_grow, go_sem, Nat.reduceAdd, Nat.reduceSub, Nat.reduceMul, Nat.reduceLT, Nat.reduceLeDiff, Int.reduceToNat, Nat.reduceEqDiff, Nat.reduceBEq, ↓reduceIte, reduceCtorEq, eA]
              repeat ((first | refine call0 300 trivial trivial (by first | exact ca | exact n1 | exact n2 | exact cl | exact cr | exact kl) (by first | exact .inl rfl | exact .inr rfl) (fun A eA => ?_) | refine call1 300 trivial trivial (by first | exact ca | exact n1 | exact n2 | exact cl | exact cr | exact kl) (fun A eA => ?_)); simp (disch := first | omega | (simp only [avs_len, List.length_cons, List.length_append, List.length_nil, List.length_take, List.length_drop, List.length_map]; omega) | (simp only [cells, scal1, allSz, List.length_cons, List.length_nil, List.length_append, List.length_map, List.all_cons, List.all_nil, avs_len, beq_self_eq_true, Bool.and_self, and_self, or_true, true_or, reduceCtorEq, *]; done) | fail) only [c_event_grow, go_sem, Nat.reduceAdd, Nat.reduceSub, Nat.reduceMul, Nat.reduceLT, Nat.reduceLeDiff, Int.reduceToNat, Nat.reduceEqDiff, Nat.reduceBEq, ↓reduceIte, reduceCtorEq, eA, E.leaf, wl, h3'])
              exact doneG rfl
            · rw [growE_4 (e := E.nd n l r) h1n h2n h3]
              have h3' : ¬ (((growE il l).2 : Nat) : Int) < (((growE ir r).2 : Nat) : Int) := by omega
              simp (disch := first | omega | (simp only [avs_len, List.length_cons, List.length_append, List.length_nil, List.length_take, List.length_drop, List.length_map]; omega) | (simp only [cells, scal1, allSz, List.length_cons, List.length_nil, List.length_append, List.length_map, List.all_cons, List.all_nil, avs_len, beq_self_eq_true, Bool.and_self, and_self, or_true, true_or, reduceCtorEq, *]; done) | fail) only [c_event_grow, go_sem, Nat.reduceAdd, Nat.reduceSub, Nat.reduceMul, Nat.reduceLT, Nat.reduceLeDiff, Int.reduceToNat, Nat.reduceEqDiff, Nat.reduceBEq, ↓reduceIte, reduceCtorEq, eA]
              repeat ((first | refine call0 300 trivial trivial (by first | exact ca | exact n1 | exact n2 | exact cl | exact cr | exact kr) (by first | exact .inl rfl | exact .inr rfl) (fun A eA => ?_) | refine call1 300 trivial trivial (by first | exact ca | exact n1 | exact n2 | exact cl | exact cr | exact kr) (fun A eA => ?_)); simp (disch := first | omega | (simp only [avs_len, List.length_cons, List.length_append, List.length_nil, List.length_take, List.length_drop, List.length_map]; omega) | (simp only [cells, scal1, allSz, List.length_cons, List.length_nil, List.length_append, List.length_map, List.all_cons, List.all_nil, avs_len, beq_self_eq_true, Bool.and_self, and_self, or_true, true_or, reduceCtorEq, *]; done) | fail) only [c_event_grow, go_sem, Nat.reduceAdd, Nat.reduceSub, Nat.reduceMul, Nat.reduceLT, Nat.reduceLeDiff, Int.reduceToNat, Nat.reduceEqDiff, Nat.reduceBEq, ↓reduceIte, reduceCtorEq, eA, E.leaf, wr, h3'])
              exact doneG rfl
end Go.Proofs.Ytmokhopjnjecbab
/- Filling and growing tell more just where the identity has places: plain. -/
namespace Go.Ev
set_option linter.unusedVariables false
set_option linter.unnecessarySimpa false
set_option linter.unusedSimpArgs false

/-- An identity's places. -/
def rowsG : Nat → B → List Bool
  | d, .lf o => List.replicate (2 ^ d) o
  | 0, .nd l r => [false]
  | d + 1, .nd l r => rowsG d l ++ rowsG d r
theorem rowsG_lf (d : Nat) (o : Bool) : rowsG d (.lf o) = List.replicate (2 ^ d) o := by cases d <;> rfl
theorem rowsG_len : ∀ (d : Nat) (b : B), (rowsG d b).length = 2 ^ d
  | d, .lf o => by rw [rowsG_lf]; simp
  | 0, .nd l r => by simp [rowsG]
  | d + 1, .nd l r => by simp only [rowsG, List.length_append, rowsG_len, Nat.pow_succ]; omega
/-- Nowhere less, and more only where it may be. -/
def upR : List Bool → List Nat → List Nat → Bool
  | m :: ms, x :: xs, y :: ys => decide (x ≤ y) && (m || decide (y ≤ x)) && upR ms xs ys
  | [], [], [] => true
  | _, _, _ => false
theorem upR_refl : ∀ (ms : List Bool) (xs : List Nat), ms.length = xs.length → upR ms xs xs = true
  | [], [], _ => rfl
  | m :: ms, x :: xs, h => by simp [upR, upR_refl ms xs (by simpa using h)]
  | [], _ :: _, h => by simp at h
  | _ :: _, [], h => by simp at h
theorem upR_append : ∀ (ms ms2 : List Bool) (xs xs2 ys ys2 : List Nat), upR ms xs ys = true → upR ms2 xs2 ys2 = true → upR (ms ++ ms2) (xs ++ xs2) (ys ++ ys2) = true
  | [], ms2, [], xs2, [], ys2, _, h => h
  | m :: ms, ms2, x :: xs, xs2, y :: ys, ys2, h, h2 => by
    simp only [upR, Bool.and_eq_true] at h
    simp only [List.cons_append, upR, Bool.and_eq_true]
    exact ⟨h.1, upR_append ms ms2 xs xs2 ys ys2 h.2 h2⟩
  | [], _, [], _, _ :: _, _, h, _ => by simp [upR] at h
  | [], _, _ :: _, _, _, _, h, _ => by simp [upR] at h
  | _ :: _, _, [], _, _, _, h, _ => by simp [upR] at h
  | _ :: _, _, _ :: _, _, [], _, h, _ => by simp [upR] at h
theorem upR_all : ∀ (xs ys : List Nat), xs.length = ys.length → (∀ (j : Nat) x y, xs[j]? = some x → ys[j]? = some y → x ≤ y) → upR (List.replicate xs.length true) xs ys = true
  | [], [], _, _ => rfl
  | x :: xs, y :: ys, h, hh => by
    simp only [List.length_cons, List.replicate_succ, upR, Bool.true_or, Bool.and_true, Bool.and_eq_true, decide_eq_true_eq]
    exact ⟨hh 0 x y rfl rfl, upR_all xs ys (by simpa using h) (fun j a b ha hb => hh (j + 1) a b (by simpa using ha) (by simpa using hb))⟩
  | [], _ :: _, h, _ => by simp at h
  | _ :: _, [], h, _ => by simp at h
theorem upR_rep {xs : List Nat} {n c : Nat} (hl : xs.length = n) (h : ∀ x ∈ xs, x ≤ c) : upR (List.replicate n true) xs (List.replicate n c) = true := by
  subst hl
  refine upR_all _ _ (by simp) (fun j x y hx hy => ?_)
  have h1 := List.mem_of_getElem? hx
  have h2 := List.mem_of_getElem? hy
  rw [List.eq_of_mem_replicate h2]
  exact h x h1
theorem fillR_len : ∀ (i : B) (row : List Nat), (∃ d, row.length = 2 ^ d ∧ i.dep ≤ d + 1) → (fillR i row).length = row.length
  | .lf o, row, _ => by simp only [fillR]; split <;> simp
  | .nd il ir, row, ⟨d, h, hd⟩ => by
    simp only [B.dep] at hd
    match d with
    | 0 => have := il.dep_pos; omega
    | d + 1 =>
      have hp : 2 ^ (d + 1) = 2 ^ d + 2 ^ d := by rw [Nat.pow_succ]; omega
      have h1 : (row.take (row.length / 2)).length = 2 ^ d := by rw [List.length_take]; omega
      have h2 : (row.drop (row.length / 2)).length = 2 ^ d := by rw [List.length_drop]; omega
      have il1 := fillR_len il _ ⟨d, h1, by omega⟩
      have ir1 := fillR_len ir _ ⟨d, h2, by omega⟩
      simp only [fillR]
      split
      · rfl
      · split
        · simp only [List.length_append, List.length_replicate, ir1, h2]; omega
        · split
          · simp only [List.length_append, List.length_replicate, il1, h1]; omega
          · simp only [List.length_append, il1, ir1, h1, h2]; omega
theorem fill_up : ∀ (d : Nat) (i : B) (row : List Nat), row.length = 2 ^ d → i.dep ≤ d + 1 → upR (rowsG d i) row (fillR i row) = true
  | d, .lf o, row, h, _ => by
    rw [rowsG_lf]
    simp only [fillR]
    cases o with
    | true => rw [if_pos rfl, h]; exact upR_rep h (fun x hx => mostR_ge x hx)
    | false => rw [if_neg (by simp)]; exact upR_refl _ _ (by simp [h])
  | 0, .nd il ir, row, h, hd => by have := il.dep_pos; simp only [B.dep] at hd; omega
  | d + 1, .nd il ir, row, h, hd => by
    simp only [B.dep] at hd
    have hp : 2 ^ (d + 1) = 2 ^ d + 2 ^ d := by rw [Nat.pow_succ]; omega
    have h1 : (row.take (row.length / 2)).length = 2 ^ d := by rw [List.length_take]; omega
    have h2 : (row.drop (row.length / 2)).length = 2 ^ d := by rw [List.length_drop]; omega
    have hh : row.length / 2 = 2 ^ d := by omega
    have il1 := fill_up d il _ h1 (by omega)
    have ir1 := fill_up d ir _ h2 (by omega)
    have e : row = row.take (row.length / 2) ++ row.drop (row.length / 2) := (List.take_append_drop _ _).symm
    simp only [fillR]
    split
    · exact upR_refl _ _ (by rw [rowsG_len, h])
    · simp only [rowsG]
      split
      · rename_i ho
        rw [B.one_lf ho, rowsG_lf]
        conv => lhs; arg 2; rw [e]
        refine upR_append _ _ _ _ _ _ ?_ ir1
        rw [hh] at h1 ⊢
        exact upR_rep h1 (fun x hx => Nat.le_trans (mostR_ge x hx) (Nat.le_max_left _ _))
      · split
        · rename_i ho
          rw [B.one_lf ho, rowsG_lf]
          conv => lhs; arg 2; rw [e]
          refine upR_append _ _ _ _ _ _ il1 ?_
          rw [hh] at h2 ⊢
          exact upR_rep h2 (fun x hx => Nat.le_trans (mostR_ge x hx) (Nat.le_max_left _ _))
        · conv => lhs; arg 2; rw [e]
          exact upR_append _ _ _ _ _ _ il1 ir1
theorem flat_const : ∀ (i : B) (row : List Nat), (∃ d, row.length = 2 ^ d ∧ i.dep ≤ d + 1) → (∀ x ∈ row, ∀ y ∈ row, x = y) → flatR i row
  | .lf o, row, ⟨d, h, _⟩, hc => by
    intro _
    have hne : row ≠ [] := by intro q; rw [q] at h; have : 0 < 2 ^ d := Nat.pow_pos (by omega); simp at h; omega
    exact hc _ (leastR_mem hne) _ (mostR_mem hne)
  | .nd il ir, row, ⟨d, h, hd⟩, hc => by
    simp only [B.dep] at hd
    match d with
    | 0 => have := il.dep_pos; omega
    | d + 1 =>
      have hp : 2 ^ (d + 1) = 2 ^ d + 2 ^ d := by rw [Nat.pow_succ]; omega
      exact ⟨flat_const il _ ⟨d, by rw [List.length_take]; omega, by omega⟩ (fun x hx y hy => hc x (List.mem_of_mem_take hx) y (List.mem_of_mem_take hy)), flat_const ir _ ⟨d, by rw [List.length_drop]; omega, by omega⟩ (fun x hx y hy => hc x (List.mem_of_mem_drop hx) y (List.mem_of_mem_drop hy))⟩
theorem const_of {row : List Nat} (h : leastR row = mostR row) : ∀ x ∈ row, ∀ y ∈ row, x = y := by
  intro x hx y hy
  have := leastR_le x hx
  have := leastR_le y hy
  have := mostR_ge x hx
  have := mostR_ge y hy
  omega
theorem fill_flat : ∀ (d : Nat) (i : B) (row : List Nat), row.length = 2 ^ d → i.dep ≤ d + 1 → fillR i row = row → flatR i row
  | d, .lf o, row, h, hd, he => by
    intro ho
    simp only [fillR, ho, if_true] at he
    have hne : row ≠ [] := by intro q; rw [q] at h; have : 0 < 2 ^ d := Nat.pow_pos (by omega); simp at h; omega
    have hm := leastR_mem hne
    have hm2 : leastR row ∈ List.replicate row.length (mostR row) := by rw [he]; exact hm
    exact List.eq_of_mem_replicate hm2
  | 0, .nd il ir, row, h, hd, _ => by have := il.dep_pos; simp only [B.dep] at hd; omega
  | d + 1, .nd il ir, row, h, hd, he => by
    by_cases hc : leastR row = mostR row
    · exact flat_const _ _ ⟨d + 1, h, hd⟩ (const_of hc)
    · simp only [B.dep] at hd
      have hp : 2 ^ (d + 1) = 2 ^ d + 2 ^ d := by rw [Nat.pow_succ]; omega
      have h1 : (row.take (row.length / 2)).length = 2 ^ d := by rw [List.length_take]; omega
      have h2 : (row.drop (row.length / 2)).length = 2 ^ d := by rw [List.length_drop]; omega
      have hh : row.length / 2 = 2 ^ d := by omega
      have e : row = row.take (row.length / 2) ++ row.drop (row.length / 2) := (List.take_append_drop _ _).symm
      have l1 := fillR_len il _ ⟨d, h1, by omega⟩
      have l2 := fillR_len ir _ ⟨d, h2, by omega⟩
      simp only [fillR] at he
      rw [if_neg hc] at he
      have cflat : ∀ (q : List Nat) (c n : Nat), q.length = 2 ^ d → q = List.replicate n c → ∀ i : B, i.dep ≤ d + 1 → flatR i q := by
        intro q c n hq hqe i hi
        exact flat_const i q ⟨d, hq, hi⟩ (fun x hx y hy => by rw [hqe] at hx hy; rw [List.eq_of_mem_replicate hx, List.eq_of_mem_replicate hy])
      split at he
      · conv at he => rhs; rw [e]
        obtain ⟨a, b⟩ := List.append_inj he (by simp; omega)
        exact ⟨cflat _ _ _ h1 a.symm il (by omega), fill_flat d ir _ h2 (by omega) b⟩
      · split at he
        · conv at he => rhs; rw [e]
          obtain ⟨a, b⟩ := List.append_inj he (by rw [l1])
          exact ⟨fill_flat d il _ h1 (by omega) a, cflat _ _ _ h2 b.symm ir (by omega)⟩
        · conv at he => rhs; rw [e]
          obtain ⟨a, b⟩ := List.append_inj he (by rw [l1])
          exact ⟨fill_flat d il _ h1 (by omega) a, fill_flat d ir _ h2 (by omega) b⟩
theorem grow_up : ∀ (d : Nat) (i : B) (row : List Nat), row.length = 2 ^ d → i.short = true → i.dep ≤ d + 1 → i.none = false → flatR i row → upR (rowsG d i) row (growR i row).1 = true ∧ (growR i row).1 ≠ row ∧ (growR i row).1.length = row.length
  | d, .lf o, row, h, _, _, hn, hf => by
    have ho : o = true := by simpa [B.none] using hn
    subst ho
    have hne : row ≠ [] := by intro q; rw [q] at h; have : 0 < 2 ^ d := Nat.pow_pos (by omega); simp at h; omega
    have hc := const_of (hf rfl)
    obtain ⟨x, l, rfl⟩ := List.exists_cons_of_ne_nil hne
    rw [rowsG_lf]
    simp only [growR, List.headD_cons]
    refine ⟨?_, ?_, by simp⟩
    · rw [h]; exact upR_rep h (fun y hy => by rw [hc y hy x List.mem_cons_self]; omega)
    · simp only [List.length_cons, List.replicate_succ]
      intro q
      have := (List.cons.inj q).1
      omega
  | 0, .nd il ir, row, h, _, hd, _, _ => by have := il.dep_pos; simp only [B.dep] at hd; omega
  | d + 1, .nd il ir, row, h, hs, hd, _, hf => by
    have hs' := hs
    simp only [B.short, Bool.and_eq_true] at hs'
    simp only [B.dep] at hd
    have hp : 2 ^ (d + 1) = 2 ^ d + 2 ^ d := by rw [Nat.pow_succ]; omega
    have h1 : (row.take (row.length / 2)).length = 2 ^ d := by rw [List.length_take]; omega
    have h2 : (row.drop (row.length / 2)).length = 2 ^ d := by rw [List.length_drop]; omega
    have hh : row.length / 2 = 2 ^ d := by omega
    have e : row = row.take (row.length / 2) ++ row.drop (row.length / 2) := (List.take_append_drop _ _).symm
    have il1 := fun q => grow_up d il _ h1 hs'.1.1 (by omega) q hf.1
    have ir1 := fun q => grow_up d ir _ h2 hs'.1.2 (by omega) q hf.2
    have rl : upR (rowsG d il) (row.take (row.length / 2)) (row.take (row.length / 2)) = true := upR_refl _ _ (by rw [rowsG_len, h1])
    have rr : upR (rowsG d ir) (row.drop (row.length / 2)) (row.drop (row.length / 2)) = true := upR_refl _ _ (by rw [rowsG_len, h2])
    have R : il.none = false ∨ True → ∀ (a : List Nat), upR (rowsG d ir) (row.drop (row.length / 2)) a = true ∧ a ≠ row.drop (row.length / 2) ∧ a.length = (row.drop (row.length / 2)).length → upR (rowsG (d + 1) (.nd il ir)) row (row.take (row.length / 2) ++ a) = true ∧ row.take (row.length / 2) ++ a ≠ row ∧ (row.take (row.length / 2) ++ a).length = row.length := by
      intro _ a ha
      refine ⟨?_, ?_, ?_⟩
      · simp only [rowsG]; conv => lhs; arg 2; rw [e]
        exact upR_append _ _ _ _ _ _ rl ha.1
      · intro q; conv at q => rhs; rw [e]
        exact ha.2.1 (List.append_cancel_left q)
      · rw [List.length_append, ha.2.2, h1, h2]; omega
    have L : ∀ (a : List Nat), upR (rowsG d il) (row.take (row.length / 2)) a = true ∧ a ≠ row.take (row.length / 2) ∧ a.length = (row.take (row.length / 2)).length → upR (rowsG (d + 1) (.nd il ir)) row (a ++ row.drop (row.length / 2)) = true ∧ a ++ row.drop (row.length / 2) ≠ row ∧ (a ++ row.drop (row.length / 2)).length = row.length := by
      intro a ha
      refine ⟨?_, ?_, ?_⟩
      · simp only [rowsG]; conv => lhs; arg 2; rw [e]
        exact upR_append _ _ _ _ _ _ ha.1 rr
      · intro q; conv at q => rhs; rw [e]
        exact ha.2.1 (List.append_cancel_right q)
      · rw [List.length_append, ha.2.2, h1, h2]; omega
    simp only [growR]
    by_cases n1 : il.none = true
    · rw [if_pos n1]; exact R (.inr trivial) _ (ir1 (short_none hs n1))
    · by_cases n2 : ir.none = true
      · rw [if_neg n1, if_pos n2]; exact L _ (il1 (by simpa using n1))
      · rw [if_neg n1, if_neg n2]
        split
        · exact R (.inr trivial) _ (ir1 (by simpa using n2))
        · exact L _ (il1 (by simpa using n1))
end Go.Ev
/- The walks through the reference's flat and fill. -/
-- short
namespace Go.Proofs.Ytmokhopjnjecbab
open Go.Ev
set_option linter.unusedVariables false
set_option linter.unusedSimpArgs false
set_option maxRecDepth 100000
set_option maxHeartbeats 1600000

theorem catCells_ivs : ∀ ns : List Nat, catCells (ivs ns) = ivs ns
  | [] => rfl
  | n :: ns => by simp only [List.map_cons, catCells, cells, List.cons_append, List.nil_append]; rw [catCells_ivs ns]
theorem ivs_rep (n m : Nat) : ivs (List.replicate n m) = List.replicate n (AV.int .i64 (m : Nat)) := by simp
theorem refFlat_calls (m n : Nat) (hs : n < 2 ^ 30) : PCalls Try.prog F_ref04_flat [.int .i64 (m : Nat), .int .i64 (n : Nat)] (.fz 1 (ivs (List.replicate n m)) none) := by
  have hL : (ivs (List.replicate n m)).length = n := by simp
  have key : ∀ (r i : Nat), i + r = n → ∀ cs0 : List AV, cs0 = partR (ivs (List.replicate n m)) (.int .i64 0) i → ∀ nx : Ctr,
      RunsX Try.prog 0 (Gives [.t 4] (.fz 1 (ivs (List.replicate n m)) none)) (i_ref04_flat_0 ++ [.c c_ref04_flat_k0]) (s_ref04_flat_0 (.int .i64 (m : Nat)) (.sl 0 8 0 1 0 n) (.int .i64 (n : Nat)) (.int .i64 (i : Nat))) [(0, 8, 0, some cs0)] nx := by
    intro r
    induction r with
    | zero =>
      intro i hi cs0 hcs0 nx
      obtain rfl : i = n := by omega
      have e0 : cs0 = ivs (List.replicate i m) := by rw [hcs0]; have := partR_all (ivs (List.replicate i m)) (.int .i64 0); rwa [hL] at this
      subst e0
      have hi1 : ¬ ((i : Int) < (i : Int)) := by omega
      refine round (its := [.blk 0 wb_ref04_flat_0]) (k0 := [.c c_ref04_flat_k0]) 100 trivial trivial (fun A eA => ?_)
      simp (disch := first | omega | (simp only [avs_len, List.length_cons, List.length_append, List.length_nil, List.length_take, List.length_drop, List.length_map]; omega) | (simp only [cells, scal1, allSz, List.length_cons, List.length_nil, List.length_append, List.length_map, List.all_cons, List.all_nil, avs_len, beq_self_eq_true, Bool.and_self, and_self, or_true, true_or, reduceCtorEq, *]; done) | fail) only [c_ref04_flat, wl_ref04_flat_0, s_ref04_flat_0, c_ref04_flat_l0, wb_ref04_flat_0, c_ref04_flat_k0, go_sem, Nat.reduceAdd, Nat.reduceSub, Nat.reduceMul, Nat.reduceLT, Nat.reduceLeDiff, Int.reduceToNat, Nat.reduceEqDiff, Nat.reduceBEq, ↓reduceIte, reduceCtorEq, eA, hi1]
      refine walk0 (its := [.c c_ref04_flat_k0]) 100 trivial (fun A eA => ?_)
      simp (disch := first | omega | (simp only [avs_len, List.length_cons, List.length_append, List.length_nil, List.length_take, List.length_drop, List.length_map]; omega) | (simp only [cells, scal1, allSz, List.length_cons, List.length_nil, List.length_append, List.length_map, List.all_cons, List.all_nil, avs_len, beq_self_eq_true, Bool.and_self, and_self, or_true, true_or, reduceCtorEq, *]; done) | fail) only [c_ref04_flat, wl_ref04_flat_0, s_ref04_flat_0, c_ref04_flat_l0, wb_ref04_flat_0, c_ref04_flat_k0, go_sem, Nat.reduceAdd, Nat.reduceSub, Nat.reduceMul, Nat.reduceLT, Nat.reduceLeDiff, Int.reduceToNat, Nat.reduceEqDiff, Nat.reduceBEq, ↓reduceIte, reduceCtorEq, eA]
      refine doneG ?_
      have ht : List.take i (ivs (List.replicate i m)) = ivs (List.replicate i m) := List.take_of_length_le (by omega)
      simp (disch := first | omega | (simp only [avs_len, List.length_cons, List.length_append, List.length_nil, List.length_take, List.length_drop, List.length_map]; omega) | (simp only [cells, scal1, allSz, List.length_cons, List.length_nil, List.length_append, List.length_map, List.all_cons, List.all_nil, avs_len, beq_self_eq_true, Bool.and_self, and_self, or_true, true_or, reduceCtorEq, *]; done) | fail) only [go_sem, Nat.reduceAdd, Nat.reduceSub, Nat.reduceMul, Nat.reduceLT, Nat.reduceLeDiff, Int.reduceToNat, Nat.reduceEqDiff, Nat.reduceBEq, ↓reduceIte, reduceCtorEq, ht, hL, ↓frz_ivs, chunk]
    | succ r ih =>
      intro i hi cs0 hcs0 nx
      have hat : (ivs (List.replicate n m))[i]? = some (.int .i64 (m : Nat)) := by rw [List.getElem?_map, List.getElem?_replicate, if_pos (by omega)]; rfl
      have hput := partR_put (ivs (List.replicate n m)) (.int .i64 0) _ i hat
      have hlen := partR_len (ivs (List.replicate n m)) (.int .i64 0) i (by omega)
      rw [← hcs0] at hput hlen
      have w1 : IntKind.i64.wrap ((i : Int) + 1) = ((i + 1 : Nat) : Int) := by rw [IntKind.wrap_i64]; omega
      have hih := ih (i + 1) (by omega) _ hput
      have hcs : cs0.length = n := by omega
      have hi1 : (i : Int) < (n : Int) := by omega
      refine round (its := [.blk 0 wb_ref04_flat_0]) (k0 := [.c c_ref04_flat_k0]) 100 trivial trivial (fun A eA => ?_)
      simp (disch := first | omega | (simp only [avs_len, List.length_cons, List.length_append, List.length_nil, List.length_take, List.length_drop, List.length_map]; omega) | (simp only [cells, scal1, allSz, List.length_cons, List.length_nil, List.length_append, List.length_map, List.all_cons, List.all_nil, avs_len, beq_self_eq_true, Bool.and_self, and_self, or_true, true_or, reduceCtorEq, *]; done) | fail) only [c_ref04_flat, wl_ref04_flat_0, s_ref04_flat_0, c_ref04_flat_l0, wb_ref04_flat_0, c_ref04_flat_k0, go_sem, Nat.reduceAdd, Nat.reduceSub, Nat.reduceMul, Nat.reduceLT, Nat.reduceLeDiff, Int.reduceToNat, Nat.reduceEqDiff, Nat.reduceBEq, ↓reduceIte, reduceCtorEq, eA, hi1, scal1, List.all_cons, List.all_nil, Bool.and_self, Int.toNat_natCast, w1, hcs]
      exact hih _
  have hp0 : List.replicate n (AV.int .i64 0) = partR (ivs (List.replicate n m)) (.int .i64 0) 0 := by
    show _ = List.take 0 _ ++ List.replicate (_ - 0) _
    rw [hL]; rfl
  refine calls_ref04_flat ?_
  simp only [List.replicate, List.length_cons, List.length_nil, Nat.reduceAdd, Nat.reduceSub, List.cons_append, List.nil_append]
  refine walk0 100 trivial (fun A eA => ?_)
  simp (disch := first | omega | (simp only [avs_len, List.length_cons, List.length_append, List.length_nil, List.length_take, List.length_drop, List.length_map]; omega) | (simp only [cells, scal1, allSz, List.length_cons, List.length_nil, List.length_append, List.length_map, List.all_cons, List.all_nil, avs_len, beq_self_eq_true, Bool.and_self, and_self, or_true, true_or, reduceCtorEq, *]; done) | fail) only [c_ref04_flat, wl_ref04_flat_0, s_ref04_flat_0, c_ref04_flat_l0, wb_ref04_flat_0, c_ref04_flat_k0, go_sem, Nat.reduceAdd, Nat.reduceSub, Nat.reduceMul, Nat.reduceLT, Nat.reduceLeDiff, Int.reduceToNat, Nat.reduceEqDiff, Nat.reduceBEq, ↓reduceIte, reduceCtorEq, eA, scal1, List.all_cons, List.all_nil, Bool.and_self, ivs_len, Int.toNat_natCast]
  exact key n 0 (by omega) _ hp0 (bump zeroC 8)
end Go.Proofs.Ytmokhopjnjecbab
/- The walk through the reference's fill. -/
-- short
-- fuel 300
namespace Go.Proofs.Ytmokhopjnjecbab
open Go.Ev
set_option linter.unusedVariables false
set_option linter.unusedSimpArgs false
set_option maxRecDepth 100000
set_option maxHeartbeats 3200000

theorem row_ne {row : List Nat} {d : Nat} (h : row.length = 2 ^ d) : row ≠ [] := by
  intro q; rw [q] at h; have : 0 < 2 ^ d := Nat.pow_pos (by omega); simp at h; omega
theorem mx_nat (a b : Nat) : (if ((b : Nat) : Int) > ((a : Nat) : Int) then ((b : Nat) : Int) else ((a : Nat) : Int)) = ((max a b : Nat) : Int) := by split <;> omega
theorem refFill_calls : ∀ (d : Nat) (i : B) (row : List Nat), d ≤ 20 → i.dep ≤ d + 1 → row.length = 2 ^ d → PCalls Try.prog F_ref04_fill [tv i.t, .fz 1 (ivs row) none] (.fz 1 (ivs (fillR i row)) none) := by
  intro d
  induction d with
  | zero =>
    intro i row _ hd hl
    have hne := row_ne hl
    cases i with
    | lf o =>
      rw [tv_lf]
      have c1 := refMost_calls row hne (by omega)
      have c2 := refFlat_calls (mostR row) row.length (by omega)
      refine calls_ref04_fill (walk0 300 trivial (fun A eA => ?_))
      cases o with
      | true =>
        simp (disch := first | omega | (simp only [avs_len, List.length_cons, List.length_append, List.length_nil, List.length_take, List.length_drop, List.length_map]; omega) | (simp only [cells, scal1, allSz, List.length_cons, List.length_nil, List.length_append, List.length_map, List.all_cons, List.all_nil, avs_len, beq_self_eq_true, Bool.and_self, and_self, or_true, true_or, reduceCtorEq, *]; done) | fail) only [c_ref04_fill, go_sem, Nat.reduceAdd, Nat.reduceSub, Nat.reduceMul, Nat.reduceLT, Nat.reduceLeDiff, Int.reduceToNat, Nat.reduceEqDiff, Nat.reduceBEq, ↓reduceIte, reduceCtorEq, eA]
        repeat ((first | refine call0 300 trivial trivial (by first | exact c1 | exact c2) (by first | exact .inl rfl | exact .inr rfl) (fun A eA => ?_) | refine call1 300 trivial trivial (by first | exact c1 | exact c2) (fun A eA => ?_)); simp (disch := first | omega | (simp only [avs_len, List.length_cons, List.length_append, List.length_nil, List.length_take, List.length_drop, List.length_map]; omega) | (simp only [cells, scal1, allSz, List.length_cons, List.length_nil, List.length_append, List.length_map, List.all_cons, List.all_nil, avs_len, beq_self_eq_true, Bool.and_self, and_self, or_true, true_or, reduceCtorEq, *]; done) | fail) only [c_ref04_fill, go_sem, Nat.reduceAdd, Nat.reduceSub, Nat.reduceMul, Nat.reduceLT, Nat.reduceLeDiff, Int.reduceToNat, Nat.reduceEqDiff, Nat.reduceBEq, ↓reduceIte, reduceCtorEq, eA, List.length_map])
        exact doneG rfl
      | false =>
        simp (disch := first | omega | (simp only [avs_len, List.length_cons, List.length_append, List.length_nil, List.length_take, List.length_drop, List.length_map]; omega) | (simp only [cells, scal1, allSz, List.length_cons, List.length_nil, List.length_append, List.length_map, List.all_cons, List.all_nil, avs_len, beq_self_eq_true, Bool.and_self, and_self, or_true, true_or, reduceCtorEq, *]; done) | fail) only [c_ref04_fill, go_sem, Nat.reduceAdd, Nat.reduceSub, Nat.reduceMul, Nat.reduceLT, Nat.reduceLeDiff, Int.reduceToNat, Nat.reduceEqDiff, Nat.reduceBEq, ↓reduceIte, reduceCtorEq, eA]
        exact doneG rfl
    | nd il ir => have := il.dep_pos; simp only [B.dep] at hd; omega
  | succ d ih =>
    intro i row hd20 hd hl
    have hne := row_ne hl
    have hle : (2 : Nat) ^ (d + 1) ≤ 2 ^ 20 := Nat.pow_le_pow_right (by omega) hd20
    cases i with
    | lf o =>
      rw [tv_lf]
      have c1 := refMost_calls row hne (by omega)
      have c2 := refFlat_calls (mostR row) row.length (by omega)
      refine calls_ref04_fill (walk0 300 trivial (fun A eA => ?_))
      cases o with
      | true =>
        simp (disch := first | omega | (simp only [avs_len, List.length_cons, List.length_append, List.length_nil, List.length_take, List.length_drop, List.length_map]; omega) | (simp only [cells, scal1, allSz, List.length_cons, List.length_nil, List.length_append, List.length_map, List.all_cons, List.all_nil, avs_len, beq_self_eq_true, Bool.and_self, and_self, or_true, true_or, reduceCtorEq, *]; done) | fail) only [c_ref04_fill, go_sem, Nat.reduceAdd, Nat.reduceSub, Nat.reduceMul, Nat.reduceLT, Nat.reduceLeDiff, Int.reduceToNat, Nat.reduceEqDiff, Nat.reduceBEq, ↓reduceIte, reduceCtorEq, eA]
        repeat ((first | refine call0 300 trivial trivial (by first | exact c1 | exact c2) (by first | exact .inl rfl | exact .inr rfl) (fun A eA => ?_) | refine call1 300 trivial trivial (by first | exact c1 | exact c2) (fun A eA => ?_)); simp (disch := first | omega | (simp only [avs_len, List.length_cons, List.length_append, List.length_nil, List.length_take, List.length_drop, List.length_map]; omega) | (simp only [cells, scal1, allSz, List.length_cons, List.length_nil, List.length_append, List.length_map, List.all_cons, List.all_nil, avs_len, beq_self_eq_true, Bool.and_self, and_self, or_true, true_or, reduceCtorEq, *]; done) | fail) only [c_ref04_fill, go_sem, Nat.reduceAdd, Nat.reduceSub, Nat.reduceMul, Nat.reduceLT, Nat.reduceLeDiff, Int.reduceToNat, Nat.reduceEqDiff, Nat.reduceBEq, ↓reduceIte, reduceCtorEq, eA, List.length_map])
        exact doneG rfl
      | false =>
        simp (disch := first | omega | (simp only [avs_len, List.length_cons, List.length_append, List.length_nil, List.length_take, List.length_drop, List.length_map]; omega) | (simp only [cells, scal1, allSz, List.length_cons, List.length_nil, List.length_append, List.length_map, List.all_cons, List.all_nil, avs_len, beq_self_eq_true, Bool.and_self, and_self, or_true, true_or, reduceCtorEq, *]; done) | fail) only [c_ref04_fill, go_sem, Nat.reduceAdd, Nat.reduceSub, Nat.reduceMul, Nat.reduceLT, Nat.reduceLeDiff, Int.reduceToNat, Nat.reduceEqDiff, Nat.reduceBEq, ↓reduceIte, reduceCtorEq, eA]
        exact doneG rfl
    | nd il ir =>
      rw [tv_nd]
      have c1 := refLeast_calls row hne (by omega)
      have c2 := refMost_calls row hne (by omega)
      simp only [fillR]
      by_cases hc : leastR row = mostR row
      · rw [if_pos hc]
        have hc' : ((leastR row : Nat) : Int) = ((mostR row : Nat) : Int) ↔ True := iff_of_true (by omega) trivial
        refine calls_ref04_fill (walk0 300 trivial (fun A eA => ?_))
        simp (disch := first | omega | (simp only [avs_len, List.length_cons, List.length_append, List.length_nil, List.length_take, List.length_drop, List.length_map]; omega) | (simp only [cells, scal1, allSz, List.length_cons, List.length_nil, List.length_append, List.length_map, List.all_cons, List.all_nil, avs_len, beq_self_eq_true, Bool.and_self, and_self, or_true, true_or, reduceCtorEq, *]; done) | fail) only [c_ref04_fill, go_sem, Nat.reduceAdd, Nat.reduceSub, Nat.reduceMul, Nat.reduceLT, Nat.reduceLeDiff, Int.reduceToNat, Nat.reduceEqDiff, Nat.reduceBEq, ↓reduceIte, reduceCtorEq, eA]
        repeat ((first | refine call0 300 trivial trivial (by first | exact c1 | exact c2) (by first | exact .inl rfl | exact .inr rfl) (fun A eA => ?_) | refine call1 300 trivial trivial (by first | exact c1 | exact c2) (fun A eA => ?_)); simp (disch := first | omega | (simp only [avs_len, List.length_cons, List.length_append, List.length_nil, List.length_take, List.length_drop, List.length_map]; omega) | (simp only [cells, scal1, allSz, List.length_cons, List.length_nil, List.length_append, List.length_map, List.all_cons, List.all_nil, avs_len, beq_self_eq_true, Bool.and_self, and_self, or_true, true_or, reduceCtorEq, *]; done) | fail) only [c_ref04_fill, go_sem, Nat.reduceAdd, Nat.reduceSub, Nat.reduceMul, Nat.reduceLT, Nat.reduceLeDiff, Int.reduceToNat, Nat.reduceEqDiff, Nat.reduceBEq, ↓reduceIte, reduceCtorEq, eA, hc'])
        exact doneG rfl
      · rw [if_neg hc]
        have hc' : ((leastR row : Nat) : Int) = ((mostR row : Nat) : Int) ↔ False := iff_of_false (by omega) id
        simp only [B.dep] at hd
        have hpos : 0 < 2 ^ d := Nat.pow_pos (by omega)
        have e : 2 ^ (d + 1) / 2 = 2 ^ d := by rw [Nat.pow_succ]; omega
        have e2 : 2 ^ (d + 1) - 2 ^ d = 2 ^ d := by rw [Nat.pow_succ]; omega
        have e3 : 2 ^ d ≤ 2 ^ (d + 1) := Nat.pow_le_pow_right (by omega) (by omega)
        have la : (row.take (2 ^ d)).length = 2 ^ d := by rw [List.length_take]; omega
        have lb : (row.drop (2 ^ d)).length = 2 ^ d := by rw [List.length_drop]; omega
        have nea := row_ne la
        have neb := row_ne lb
        have cl := ih il (row.take (2 ^ d)) (by omega) (by omega) la
        have cr := ih ir (row.drop (2 ^ d)) (by omega) (by omega) lb
        have lfa := fillR_len il (row.take (2 ^ d)) ⟨d, la, by omega⟩
        have lfb := fillR_len ir (row.drop (2 ^ d)) ⟨d, lb, by omega⟩
        have q1 : (row.length : Int).tdiv 2 = ((2 ^ d : Nat) : Int) := by rw [Int.tdiv_eq_ediv_of_nonneg (by omega), hl, ← e]; omega
        have hhalf : row.length / 2 = 2 ^ d := by omega
        rw [hhalf]
        generalize hK : (2 : Nat) ^ d = K at *
        have q2 : IntKind.i64.wrap (K : Int) = (K : Int) := by rw [IntKind.wrap_i64]; omega
        have hKl : K ≤ row.length := by omega
        have ht : List.take row.length (ivs row) = ivs row := by rw [List.take_of_length_le (by simp)]
        have hA : List.take K (ivs row) = ivs (row.take K) := List.map_take.symm
        have hB : List.drop K (ivs row) = ivs (row.drop K) := List.map_drop.symm
        generalize row.take K = a at *
        generalize row.drop K = b at *
        rw [la] at lfa
        rw [lb] at lfb
        have o1 := B.t_one il
        have o2 := B.t_one ir
        have z20 : ¬ ((2 : Int) = 0) := by omega
        by_cases h1 : il.one = true
        · rw [if_pos h1]
          rw [h1] at o1
          have nefb : fillR ir b ≠ [] := by intro q; rw [q] at lfb; simp at lfb; omega
          have m1 := refMost_calls a nea (by omega)
          have m2 := refLeast_calls (fillR ir b) nefb (by omega)
          have m3 := refFlat_calls (max (mostR a) (leastR (fillR ir b))) K (by omega)
          have emx := mx_nat (mostR a) (leastR (fillR ir b))
          have lr : (List.replicate K (max (mostR a) (leastR (fillR ir b)))).length = K := by simp
          generalize List.replicate K (max (mostR a) (leastR (fillR ir b))) = X at *
          generalize fillR ir b = Y at *
          refine calls_ref04_fill (walk0 300 trivial (fun A eA => ?_))
          simp (disch := first | omega | (simp only [avs_len, List.length_cons, List.length_append, List.length_nil, List.length_take, List.length_drop, List.length_map]; omega) | (simp only [cells, scal1, allSz, List.length_cons, List.length_nil, List.length_append, List.length_map, List.all_cons, List.all_nil, avs_len, beq_self_eq_true, Bool.and_self, and_self, or_true, true_or, reduceCtorEq, *]; done) | fail) only [c_ref04_fill, go_sem, Nat.reduceAdd, Nat.reduceSub, Nat.reduceMul, Nat.reduceLT, Nat.reduceLeDiff, Int.reduceToNat, Nat.reduceEqDiff, Nat.reduceBEq, ↓reduceIte, reduceCtorEq, eA, o1]
          repeat ((first | refine call0 300 trivial trivial (by first | exact c1 | exact c2 | exact cr | exact m1 | exact m2 | exact m3) (by first | exact .inl rfl | exact .inr rfl) (fun A eA => ?_) | refine call1 300 trivial trivial (by first | exact c1 | exact c2 | exact cr | exact m1 | exact m2 | exact m3) (fun A eA => ?_)); simp (disch := first | omega | (simp only [avs_len, List.length_cons, List.length_append, List.length_nil, List.length_take, List.length_drop, List.length_map]; omega) | (simp only [cells, scal1, allSz, List.length_cons, List.length_nil, List.length_append, List.length_map, List.all_cons, List.all_nil, avs_len, beq_self_eq_true, Bool.and_self, and_self, or_true, true_or, reduceCtorEq, *]; done) | fail) only [c_ref04_fill, go_sem, Nat.reduceAdd, Nat.reduceSub, Nat.reduceMul, Nat.reduceLT, Nat.reduceLeDiff, Int.reduceToNat, Nat.reduceEqDiff, Nat.reduceBEq, ↓reduceIte, reduceCtorEq, eA, o1, hc', z20, q1, q2, hA, hB, ht, emx, List.length_map, Int.toNat_natCast, ↓appK, catCells_ivs, catCells, lr, lfb])
          refine doneG ?_
          have hXY : ivs X ++ ivs Y = ivs (X ++ Y) := by simp
          have ht2 : List.take (K + K) (ivs (X ++ Y)) = ivs (X ++ Y) := List.take_of_length_le (by simp; omega)
          rw [hXY]
          simp (disch := first | omega | (simp only [avs_len, List.length_cons, List.length_append, List.length_nil, List.length_take, List.length_drop, List.length_map]; omega) | (simp only [cells, scal1, allSz, List.length_cons, List.length_nil, List.length_append, List.length_map, List.all_cons, List.all_nil, avs_len, beq_self_eq_true, Bool.and_self, and_self, or_true, true_or, reduceCtorEq, *]; done) | fail) only [go_sem, Nat.reduceAdd, Nat.reduceSub, Nat.reduceMul, Nat.reduceLT, Nat.reduceLeDiff, Int.reduceToNat, Nat.reduceEqDiff, Nat.reduceBEq, ↓reduceIte, reduceCtorEq, ht2, ↓frz_ivs, chunk]
        · rw [if_neg h1]
          rw [Bool.not_eq_true] at h1
          rw [h1] at o1
          rw [tv_of o1] at cl
          have nefa : fillR il a ≠ [] := by intro q; rw [q] at lfa; simp at lfa; omega
          by_cases h2 : ir.one = true
          · rw [if_pos h2]
            rw [h2] at o2
            have m1 := refMost_calls b neb (by omega)
            have m2 := refLeast_calls (fillR il a) nefa (by omega)
            have m3 := refFlat_calls (max (mostR b) (leastR (fillR il a))) K (by omega)
            have emx := mx_nat (mostR b) (leastR (fillR il a))
            have lr : (List.replicate K (max (mostR b) (leastR (fillR il a)))).length = K := by simp
            generalize List.replicate K (max (mostR b) (leastR (fillR il a))) = Y at *
            generalize fillR il a = X at *
            refine calls_ref04_fill (walk0 300 trivial (fun A eA => ?_))
            simp (disch := first | omega | (simp only [avs_len, List.length_cons, List.length_append, List.length_nil, List.length_take, List.length_drop, List.length_map]; omega) | (simp only [cells, scal1, allSz, List.length_cons, List.length_nil, List.length_append, List.length_map, List.all_cons, List.all_nil, avs_len, beq_self_eq_true, Bool.and_self, and_self, or_true, true_or, reduceCtorEq, *]; done) | fail) only [c_ref04_fill, go_sem, Nat.reduceAdd, Nat.reduceSub, Nat.reduceMul, Nat.reduceLT, Nat.reduceLeDiff, Int.reduceToNat, Nat.reduceEqDiff, Nat.reduceBEq, ↓reduceIte, reduceCtorEq, eA, o1, o2]
            repeat ((first | refine call0 300 trivial trivial (by first | exact c1 | exact c2 | exact cl | exact m1 | exact m2 | exact m3) (by first | exact .inl rfl | exact .inr rfl) (fun A eA => ?_) | refine call1 300 trivial trivial (by first | exact c1 | exact c2 | exact cl | exact m1 | exact m2 | exact m3) (fun A eA => ?_)); simp (disch := first | omega | (simp only [avs_len, List.length_cons, List.length_append, List.length_nil, List.length_take, List.length_drop, List.length_map]; omega) | (simp only [cells, scal1, allSz, List.length_cons, List.length_nil, List.length_append, List.length_map, List.all_cons, List.all_nil, avs_len, beq_self_eq_true, Bool.and_self, and_self, or_true, true_or, reduceCtorEq, *]; done) | fail) only [c_ref04_fill, go_sem, Nat.reduceAdd, Nat.reduceSub, Nat.reduceMul, Nat.reduceLT, Nat.reduceLeDiff, Int.reduceToNat, Nat.reduceEqDiff, Nat.reduceBEq, ↓reduceIte, reduceCtorEq, eA, o1, o2, hc', z20, q1, q2, hA, hB, ht, emx, List.length_map, Int.toNat_natCast, ↓appK, catCells_ivs, catCells, lr, lfa])
            refine doneG ?_
            have hXY : ivs X ++ ivs Y = ivs (X ++ Y) := by simp
            have ht2 : List.take (K + K) (ivs (X ++ Y)) = ivs (X ++ Y) := List.take_of_length_le (by simp; omega)
            rw [hXY]
            simp (disch := first | omega | (simp only [avs_len, List.length_cons, List.length_append, List.length_nil, List.length_take, List.length_drop, List.length_map]; omega) | (simp only [cells, scal1, allSz, List.length_cons, List.length_nil, List.length_append, List.length_map, List.all_cons, List.all_nil, avs_len, beq_self_eq_true, Bool.and_self, and_self, or_true, true_or, reduceCtorEq, *]; done) | fail) only [go_sem, Nat.reduceAdd, Nat.reduceSub, Nat.reduceMul, Nat.reduceLT, Nat.reduceLeDiff, Int.reduceToNat, Nat.reduceEqDiff, Nat.reduceBEq, ↓reduceIte, reduceCtorEq, ht2, ↓frz_ivs, chunk]
          · rw [if_neg h2]
            rw [Bool.not_eq_true] at h2
            rw [h2] at o2
            rw [tv_of o2] at cr
            generalize fillR ir b = Y at *
            generalize fillR il a = X at *
            refine calls_ref04_fill (walk0 300 trivial (fun A eA => ?_))
            simp (disch := first | omega | (simp only [avs_len, List.length_cons, List.length_append, List.length_nil, List.length_take, List.length_drop, List.length_map]; omega) | (simp only [cells, scal1, allSz, List.length_cons, List.length_nil, List.length_append, List.length_map, List.all_cons, List.all_nil, avs_len, beq_self_eq_true, Bool.and_self, and_self, or_true, true_or, reduceCtorEq, *]; done) | fail) only [c_ref04_fill, go_sem, Nat.reduceAdd, Nat.reduceSub, Nat.reduceMul, Nat.reduceLT, Nat.reduceLeDiff, Int.reduceToNat, Nat.reduceEqDiff, Nat.reduceBEq, ↓reduceIte, reduceCtorEq, eA, o1, o2]
            repeat ((first | refine call0 300 trivial trivial (by first | exact c1 | exact c2 | exact cl | exact cr) (by first | exact .inl rfl | exact .inr rfl) (fun A eA => ?_) | refine call1 300 trivial trivial (by first | exact c1 | exact c2 | exact cl | exact cr) (fun A eA => ?_)); simp (disch := first | omega | (simp only [avs_len, List.length_cons, List.length_append, List.length_nil, List.length_take, List.length_drop, List.length_map]; omega) | (simp only [cells, scal1, allSz, List.length_cons, List.length_nil, List.length_append, List.length_map, List.all_cons, List.all_nil, avs_len, beq_self_eq_true, Bool.and_self, and_self, or_true, true_or, reduceCtorEq, *]; done) | fail) only [c_ref04_fill, go_sem, Nat.reduceAdd, Nat.reduceSub, Nat.reduceMul, Nat.reduceLT, Nat.reduceLeDiff, Int.reduceToNat, Nat.reduceEqDiff, Nat.reduceBEq, ↓reduceIte, reduceCtorEq, eA, o1, o2, hc', z20, q1, q2, hA, hB, ht, List.length_map, Int.toNat_natCast, ↓appK, catCells_ivs, catCells, lfb, lfa])
            refine doneG ?_
            have hXY : ivs X ++ ivs Y = ivs (X ++ Y) := by simp
            have ht2 : List.take (K + K) (ivs (X ++ Y)) = ivs (X ++ Y) := List.take_of_length_le (by simp; omega)
            rw [hXY]
            simp (disch := first | omega | (simp only [avs_len, List.length_cons, List.length_append, List.length_nil, List.length_take, List.length_drop, List.length_map]; omega) | (simp only [cells, scal1, allSz, List.length_cons, List.length_nil, List.length_append, List.length_map, List.all_cons, List.all_nil, avs_len, beq_self_eq_true, Bool.and_self, and_self, or_true, true_or, reduceCtorEq, *]; done) | fail) only [go_sem, Nat.reduceAdd, Nat.reduceSub, Nat.reduceMul, Nat.reduceLT, Nat.reduceLeDiff, Int.reduceToNat, Nat.reduceEqDiff, Nat.reduceBEq, ↓reduceIte, reduceCtorEq, ht2, ↓frz_ivs, chunk]
end Go.Proofs.Ytmokhopjnjecbab
/- The walk through the identities' functions, on. -/
-- short
namespace Go.Proofs.Ytmokhopjnjecbab
open Go.Ev
set_option linter.unusedVariables false
set_option linter.unusedSimpArgs false
set_option maxRecDepth 100000
variable {R : List AV → Heap → Ctr → Prop} {k : List It} {H : Heap} {nx : Ctr} {φ : Nat}

theorem same_loop4 (d : Nat) (hd : d < 1000) (ihd : ∀ a b : Tree, a.size < 2 ^ 60 → PCalls Try.prog F_ident_same [tv a, tv b, .int .i64 (d : Nat)] (.bool (sm d a b))) (a b : Tree) (hl : a.ps.length = b.ps.length) (hs : a.size < 2 ^ 60) : ∀ (post pre post2 pre2 : List Tree), a.ps = pre ++ post → b.ps = pre2 ++ post2 → pre.length = pre2.length → ∀ nx : Ctr,
    RunsX Try.prog 0 (Gives [.t 6] (.bool (smL (sm d) post post2))) (i_ident_same_0 ++ [.c c_ident_same_k0]) (s_ident_same_0 (.int .i64 ((d + 1 : Nat) : Int)) (.ro [.bool a.one, .fz 2 (tavs a.ps) none]) (.ro [.bool b.one, .fz 2 (tavs b.ps) none]) (.int .i64 (a.ps.length : Nat)) (.int .i64 (pre.length : Nat))) [] nx := by
  have hls := len_size a
  intro post
  induction post with
  | nil =>
    intro pre post2 pre2 h1 h2 h3 nx
    have h5 : a.ps.length = pre.length := by rw [h1]; simp
    refine round (its := [.blk 0 wb_ident_same_0]) (k0 := [.c c_ident_same_k0]) 100 trivial trivial (fun A eA => ?_)
    simp (disch := first | omega | (simp only [avs_len, List.length_cons, List.length_append, List.length_nil, List.length_take, List.length_drop, List.length_map]; omega) | (simp only [cells, scal1, allSz, List.length_cons, List.length_nil, List.length_append, List.length_map, List.all_cons, List.all_nil, avs_len, beq_self_eq_true, Bool.and_self, and_self, or_true, true_or, reduceCtorEq, *]; done) | fail) only [c_ident_same, wl_ident_same_0, s_ident_same_0, c_ident_same_l0, wb_ident_same_0, c_ident_same_k0, go_sem, Nat.reduceAdd, Nat.reduceSub, Nat.reduceMul, Nat.reduceLT, Nat.reduceLeDiff, Int.reduceToNat, Nat.reduceEqDiff, Nat.reduceBEq, ↓reduceIte, reduceCtorEq, eA]
    refine walk0 (its := [.c c_ident_same_k0]) 100 trivial (fun A eA => ?_)
    simp (disch := first | omega | (simp only [avs_len, List.length_cons, List.length_append, List.length_nil, List.length_take, List.length_drop, List.length_map]; omega) | (simp only [cells, scal1, allSz, List.length_cons, List.length_nil, List.length_append, List.length_map, List.all_cons, List.all_nil, avs_len, beq_self_eq_true, Bool.and_self, and_self, or_true, true_or, reduceCtorEq, *]; done) | fail) only [c_ident_same, wl_ident_same_0, s_ident_same_0, c_ident_same_l0, wb_ident_same_0, c_ident_same_k0, go_sem, Nat.reduceAdd, Nat.reduceSub, Nat.reduceMul, Nat.reduceLT, Nat.reduceLeDiff, Int.reduceToNat, Nat.reduceEqDiff, Nat.reduceBEq, ↓reduceIte, reduceCtorEq, eA]
    cases post2 <;> exact doneG rfl
  | cons p post ih =>
    intro pre post2 pre2 h1 h2 h3 nx
    cases post2 with
    | nil => have h7 := congrArg List.length h1; have h8 := congrArg List.length h2; simp only [List.length_append, List.length_nil, List.length_cons] at h7 h8; omega
    | cons q post2 =>
      have hlt : pre.length < a.ps.length := by rw [h1]; simp
      have hpm : p ∈ a.ps := by rw [h1]; simp
      have hpz := size_lt hpm
      have g0 : (tavs a.ps)[pre.length]? = some (tv p) := by rw [tavs_get, h1]; simp
      have g1 : (tavs b.ps)[pre.length]? = some (tv q) := by rw [tavs_get, h2, h3]; simp
      have w1 : IntKind.i64.wrap ((pre.length : Int) + 1) = ((pre.length + 1 : Nat) : Int) := by rw [IntKind.wrap_i64]; omega
      have w2 : IntKind.i64.wrap (((d + 1 : Nat) : Int) - 1) = ((d : Nat) : Int) := by rw [IntKind.wrap_i64]; omega
      refine round (its := [.blk 0 wb_ident_same_0]) (k0 := [.c c_ident_same_k0]) 100 trivial trivial (fun A eA => ?_)
      simp (disch := first | omega | (simp only [avs_len, List.length_cons, List.length_append, List.length_nil, List.length_take, List.length_drop, List.length_map]; omega) | (simp only [cells, scal1, allSz, List.length_cons, List.length_nil, List.length_append, List.length_map, List.all_cons, List.all_nil, avs_len, beq_self_eq_true, Bool.and_self, and_self, or_true, true_or, reduceCtorEq, *]; done) | fail) only [c_ident_same, wl_ident_same_0, s_ident_same_0, c_ident_same_l0, wb_ident_same_0, c_ident_same_k0, go_sem, Nat.reduceAdd, Nat.reduceSub, Nat.reduceMul, Nat.reduceLT, Nat.reduceLeDiff, Int.reduceToNat, Nat.reduceEqDiff, Nat.reduceBEq, ↓reduceIte, reduceCtorEq, eA, Int.toNat_natCast, g0, g1, w2, scal1, List.all_cons, List.all_nil, Bool.and_self]
      refine call0 100 trivial trivial (ihd p q (by omega)) (.inl rfl) (fun A eA => ?_)
      cases hq : sm d p q with
      | false =>
        simp (disch := first | omega | (simp only [avs_len, List.length_cons, List.length_append, List.length_nil, List.length_take, List.length_drop, List.length_map]; omega) | (simp only [cells, scal1, allSz, List.length_cons, List.length_nil, List.length_append, List.length_map, List.all_cons, List.all_nil, avs_len, beq_self_eq_true, Bool.and_self, and_self, or_true, true_or, reduceCtorEq, *]; done) | fail) only [c_ident_same, wl_ident_same_0, s_ident_same_0, c_ident_same_l0, wb_ident_same_0, c_ident_same_k0, go_sem, Nat.reduceAdd, Nat.reduceSub, Nat.reduceMul, Nat.reduceLT, Nat.reduceLeDiff, Int.reduceToNat, Nat.reduceEqDiff, Nat.reduceBEq, ↓reduceIte, reduceCtorEq, eA]
        simp only [smL, hq, Bool.false_and]
        exact doneG rfl
      | true =>
        simp (disch := first | omega | (simp only [avs_len, List.length_cons, List.length_append, List.length_nil, List.length_take, List.length_drop, List.length_map]; omega) | (simp only [cells, scal1, allSz, List.length_cons, List.length_nil, List.length_append, List.length_map, List.all_cons, List.all_nil, avs_len, beq_self_eq_true, Bool.and_self, and_self, or_true, true_or, reduceCtorEq, *]; done) | fail) only [c_ident_same, wl_ident_same_0, s_ident_same_0, c_ident_same_l0, wb_ident_same_0, c_ident_same_k0, go_sem, Nat.reduceAdd, Nat.reduceSub, Nat.reduceMul, Nat.reduceLT, Nat.reduceLeDiff, Int.reduceToNat, Nat.reduceEqDiff, Nat.reduceBEq, ↓reduceIte, reduceCtorEq, eA, w1]
        simp only [smL, hq, Bool.true_and]
        have hih := ih (pre ++ [p]) post2 (pre2 ++ [q]) (by rw [h1]; simp) (by rw [h2]; simp) (by simp [h3]) nx
        rw [show (pre ++ [p]).length = pre.length + 1 by simp] at hih
        exact hih
theorem same4_calls : ∀ (d : Nat) (a b : Tree), d < 1000 → a.size < 2 ^ 60 → PCalls Try.prog F_ident_same [tv a, tv b, .int .i64 (d : Nat)] (.bool (sm d a b)) := by
  intro d
  induction d with
  | zero =>
    intro a b _ _
    refine calls_ident_same (walk0 100 trivial (fun A eA => ?_))
    simp (disch := first | omega | (simp only [avs_len, List.length_cons, List.length_append, List.length_nil, List.length_take, List.length_drop, List.length_map]; omega) | (simp only [cells, scal1, allSz, List.length_cons, List.length_nil, List.length_append, List.length_map, List.all_cons, List.all_nil, avs_len, beq_self_eq_true, Bool.and_self, and_self, or_true, true_or, reduceCtorEq, *]; done) | fail) only [c_ident_same, wl_ident_same_0, s_ident_same_0, c_ident_same_l0, wb_ident_same_0, c_ident_same_k0, go_sem, Nat.reduceAdd, Nat.reduceSub, Nat.reduceMul, Nat.reduceLT, Nat.reduceLeDiff, Int.reduceToNat, Nat.reduceEqDiff, Nat.reduceBEq, ↓reduceIte, reduceCtorEq, eA, scal1, tavs_len]
    exact doneG rfl
  | succ d ih =>
    intro a b hd hs
    refine calls_ident_same (walk0 100 trivial (fun A eA => ?_))
    simp only [sm]
    by_cases h1 : a.one = b.one
    · by_cases h2 : a.ps.length = b.ps.length
      · simp (disch := first | omega | (simp only [avs_len, List.length_cons, List.length_append, List.length_nil, List.length_take, List.length_drop, List.length_map]; omega) | (simp only [cells, scal1, allSz, List.length_cons, List.length_nil, List.length_append, List.length_map, List.all_cons, List.all_nil, avs_len, beq_self_eq_true, Bool.and_self, and_self, or_true, true_or, reduceCtorEq, *]; done) | fail) only [c_ident_same, wl_ident_same_0, s_ident_same_0, c_ident_same_l0, wb_ident_same_0, c_ident_same_k0, go_sem, Nat.reduceAdd, Nat.reduceSub, Nat.reduceMul, Nat.reduceLT, Nat.reduceLeDiff, Int.reduceToNat, Nat.reduceEqDiff, Nat.reduceBEq, ↓reduceIte, reduceCtorEq, eA, scal1, tavs_len, h1, beq_self_eq_true]
        rw [← h1, Bool.true_and]
        have := same_loop4 d (by omega) (fun a b hz => ih a b (by omega) hz) a b h2 hs a.ps [] b.ps [] rfl rfl rfl zeroC
        rw [← h1] at this
        exact this
      · simp (disch := first | omega | (simp only [avs_len, List.length_cons, List.length_append, List.length_nil, List.length_take, List.length_drop, List.length_map]; omega) | (simp only [cells, scal1, allSz, List.length_cons, List.length_nil, List.length_append, List.length_map, List.all_cons, List.all_nil, avs_len, beq_self_eq_true, Bool.and_self, and_self, or_true, true_or, reduceCtorEq, *]; done) | fail) only [c_ident_same, wl_ident_same_0, s_ident_same_0, c_ident_same_l0, wb_ident_same_0, c_ident_same_k0, go_sem, Nat.reduceAdd, Nat.reduceSub, Nat.reduceMul, Nat.reduceLT, Nat.reduceLeDiff, Int.reduceToNat, Nat.reduceEqDiff, Nat.reduceBEq, ↓reduceIte, reduceCtorEq, eA, scal1, tavs_len, h1, beq_self_eq_true]
        exact doneG rfl
    · have hb : (a.one == b.one) = false := by simp [h1]
      simp (disch := first | omega | (simp only [avs_len, List.length_cons, List.length_append, List.length_nil, List.length_take, List.length_drop, List.length_map]; omega) | (simp only [cells, scal1, allSz, List.length_cons, List.length_nil, List.length_append, List.length_map, List.all_cons, List.all_nil, avs_len, beq_self_eq_true, Bool.and_self, and_self, or_true, true_or, reduceCtorEq, *]; done) | fail) only [c_ident_same, wl_ident_same_0, s_ident_same_0, c_ident_same_l0, wb_ident_same_0, c_ident_same_k0, go_sem, Nat.reduceAdd, Nat.reduceSub, Nat.reduceMul, Nat.reduceLT, Nat.reduceLeDiff, Int.reduceToNat, Nat.reduceEqDiff, Nat.reduceBEq, ↓reduceIte, reduceCtorEq, eA, scal1, tavs_len, hb]
      simp only [h1, false_and, decide_false, Bool.false_and]
      exact doneG rfl
theorem Same4_calls (a b : Tree) (hs : a.size < 2 ^ 60) : PCalls Try.prog F_ident_Same [tv a, tv b] (.bool (sm 8 a b)) := by
  refine calls_ident_Same (walk0 100 trivial (fun A eA => ?_))
  simp (disch := first | omega | (simp only [avs_len, List.length_cons, List.length_append, List.length_nil, List.length_take, List.length_drop, List.length_map]; omega) | (simp only [cells, scal1, allSz, List.length_cons, List.length_nil, List.length_append, List.length_map, List.all_cons, List.all_nil, avs_len, beq_self_eq_true, Bool.and_self, and_self, or_true, true_or, reduceCtorEq, *]; done) | fail) only [c_ident_Same, go_sem, Nat.reduceAdd, Nat.reduceSub, Nat.reduceMul, Nat.reduceLT, Nat.reduceLeDiff, Int.reduceToNat, Nat.reduceEqDiff, Nat.reduceBEq, ↓reduceIte, reduceCtorEq, eA, scal1, tavs_len]
  refine call0 100 trivial trivial (same4_calls 8 a b (by omega) hs) (.inl rfl) (fun A eA => ?_)
  simp (disch := first | omega | (simp only [avs_len, List.length_cons, List.length_append, List.length_nil, List.length_take, List.length_drop, List.length_map]; omega) | (simp only [cells, scal1, allSz, List.length_cons, List.length_nil, List.length_append, List.length_map, List.all_cons, List.all_nil, avs_len, beq_self_eq_true, Bool.and_self, and_self, or_true, true_or, reduceCtorEq, *]; done) | fail) only [c_ident_Same, go_sem, Nat.reduceAdd, Nat.reduceSub, Nat.reduceMul, Nat.reduceLT, Nat.reduceLeDiff, Int.reduceToNat, Nat.reduceEqDiff, Nat.reduceBEq, ↓reduceIte, reduceCtorEq, eA]
  exact doneG rfl
theorem refSame_loop (a b : Tree) (hl : a.ps.length = b.ps.length) (hs : a.size < 2 ^ 60) (ihd : ∀ p ∈ a.ps, ∀ q : Tree, PCalls Try.prog F_ref04_Same [tv p, tv q] (.bool (teq p q))) : ∀ (post pre post2 pre2 : List Tree), a.ps = pre ++ post → b.ps = pre2 ++ post2 → pre.length = pre2.length → ∀ nx : Ctr,
    RunsX Try.prog 0 (Gives [.t 4] (.bool (smL teq post post2))) (i_ref04_Same_0 ++ [.c c_ref04_Same_k0]) (s_ref04_Same_0 (.ro [.bool a.one, .fz 2 (tavs a.ps) none]) (.ro [.bool b.one, .fz 2 (tavs b.ps) none]) (.int .i64 (a.ps.length : Nat)) (.int .i64 (pre.length : Nat))) [] nx := by
  have hls := len_size a
  intro post
  induction post with
  | nil =>
    intro pre post2 pre2 h1 h2 h3 nx
    have h5 : a.ps.length = pre.length := by rw [h1]; simp
    refine round (its := [.blk 0 wb_ref04_Same_0]) (k0 := [.c c_ref04_Same_k0]) 100 trivial trivial (fun A eA => ?_)
    simp (disch := first | omega | (simp only [avs_len, List.length_cons, List.length_append, List.length_nil, List.length_take, List.length_drop, List.length_map]; omega) | (simp only [cells, scal1, allSz, List.length_cons, List.length_nil, List.length_append, List.length_map, List.all_cons, List.all_nil, avs_len, beq_self_eq_true, Bool.and_self, and_self, or_true, true_or, reduceCtorEq, *]; done) | fail) only [c_ref04_Same, wl_ref04_Same_0, s_ref04_Same_0, c_ref04_Same_l0, wb_ref04_Same_0, c_ref04_Same_k0, go_sem, Nat.reduceAdd, Nat.reduceSub, Nat.reduceMul, Nat.reduceLT, Nat.reduceLeDiff, Int.reduceToNat, Nat.reduceEqDiff, Nat.reduceBEq, ↓reduceIte, reduceCtorEq, eA]
    refine walk0 (its := [.c c_ref04_Same_k0]) 100 trivial (fun A eA => ?_)
    simp (disch := first | omega | (simp only [avs_len, List.length_cons, List.length_append, List.length_nil, List.length_take, List.length_drop, List.length_map]; omega) | (simp only [cells, scal1, allSz, List.length_cons, List.length_nil, List.length_append, List.length_map, List.all_cons, List.all_nil, avs_len, beq_self_eq_true, Bool.and_self, and_self, or_true, true_or, reduceCtorEq, *]; done) | fail) only [c_ref04_Same, wl_ref04_Same_0, s_ref04_Same_0, c_ref04_Same_l0, wb_ref04_Same_0, c_ref04_Same_k0, go_sem, Nat.reduceAdd, Nat.reduceSub, Nat.reduceMul, Nat.reduceLT, Nat.reduceLeDiff, Int.reduceToNat, Nat.reduceEqDiff, Nat.reduceBEq, ↓reduceIte, reduceCtorEq, eA]
    cases post2 <;> exact doneG rfl
  | cons p post ih =>
    intro pre post2 pre2 h1 h2 h3 nx
    cases post2 with
    | nil => have h7 := congrArg List.length h1; have h8 := congrArg List.length h2; simp only [List.length_append, List.length_nil, List.length_cons] at h7 h8; omega
    | cons q post2 =>
      have hlt : pre.length < a.ps.length := by rw [h1]; simp
      have hpm : p ∈ a.ps := by rw [h1]; simp
      have g0 : (tavs a.ps)[pre.length]? = some (tv p) := by rw [tavs_get, h1]; simp
      have g1 : (tavs b.ps)[pre.length]? = some (tv q) := by rw [tavs_get, h2, h3]; simp
      have w1 : IntKind.i64.wrap ((pre.length : Int) + 1) = ((pre.length + 1 : Nat) : Int) := by rw [IntKind.wrap_i64]; omega
      refine round (its := [.blk 0 wb_ref04_Same_0]) (k0 := [.c c_ref04_Same_k0]) 100 trivial trivial (fun A eA => ?_)
      simp (disch := first | omega | (simp only [avs_len, List.length_cons, List.length_append, List.length_nil, List.length_take, List.length_drop, List.length_map]; omega) | (simp only [cells, scal1, allSz, List.length_cons, List.length_nil, List.length_append, List.length_map, List.all_cons, List.all_nil, avs_len, beq_self_eq_true, Bool.and_self, and_self, or_true, true_or, reduceCtorEq, *]; done) | fail) only [c_ref04_Same, wl_ref04_Same_0, s_ref04_Same_0, c_ref04_Same_l0, wb_ref04_Same_0, c_ref04_Same_k0, go_sem, Nat.reduceAdd, Nat.reduceSub, Nat.reduceMul, Nat.reduceLT, Nat.reduceLeDiff, Int.reduceToNat, Nat.reduceEqDiff, Nat.reduceBEq, ↓reduceIte, reduceCtorEq, eA, Int.toNat_natCast, g0, g1, scal1, List.all_cons, List.all_nil, Bool.and_self]
      refine call0 100 trivial trivial (ihd p hpm q) (.inl rfl) (fun A eA => ?_)
      cases hq : teq p q with
      | false =>
        simp (disch := first | omega | (simp only [avs_len, List.length_cons, List.length_append, List.length_nil, List.length_take, List.length_drop, List.length_map]; omega) | (simp only [cells, scal1, allSz, List.length_cons, List.length_nil, List.length_append, List.length_map, List.all_cons, List.all_nil, avs_len, beq_self_eq_true, Bool.and_self, and_self, or_true, true_or, reduceCtorEq, *]; done) | fail) only [c_ref04_Same, wl_ref04_Same_0, s_ref04_Same_0, c_ref04_Same_l0, wb_ref04_Same_0, c_ref04_Same_k0, go_sem, Nat.reduceAdd, Nat.reduceSub, Nat.reduceMul, Nat.reduceLT, Nat.reduceLeDiff, Int.reduceToNat, Nat.reduceEqDiff, Nat.reduceBEq, ↓reduceIte, reduceCtorEq, eA]
        simp only [smL, hq, Bool.false_and]
        exact doneG rfl
      | true =>
        simp (disch := first | omega | (simp only [avs_len, List.length_cons, List.length_append, List.length_nil, List.length_take, List.length_drop, List.length_map]; omega) | (simp only [cells, scal1, allSz, List.length_cons, List.length_nil, List.length_append, List.length_map, List.all_cons, List.all_nil, avs_len, beq_self_eq_true, Bool.and_self, and_self, or_true, true_or, reduceCtorEq, *]; done) | fail) only [c_ref04_Same, wl_ref04_Same_0, s_ref04_Same_0, c_ref04_Same_l0, wb_ref04_Same_0, c_ref04_Same_k0, go_sem, Nat.reduceAdd, Nat.reduceSub, Nat.reduceMul, Nat.reduceLT, Nat.reduceLeDiff, Int.reduceToNat, Nat.reduceEqDiff, Nat.reduceBEq, ↓reduceIte, reduceCtorEq, eA, w1]
        simp only [smL, hq, Bool.true_and]
        have hih := ih (pre ++ [p]) post2 (pre2 ++ [q]) (by rw [h1]; simp) (by rw [h2]; simp) (by simp [h3]) nx
        rw [show (pre ++ [p]).length = pre.length + 1 by simp] at hih
        exact hih
theorem refSame_calls : ∀ (a : Tree), a.size < 2 ^ 60 → ∀ b, PCalls Try.prog F_ref04_Same [tv a, tv b] (.bool (teq a b)) := by
  intro a
  induction a using Tree.ind with
  | h a ih =>
    intro hs b
    rw [teq_step]
    refine calls_ref04_Same (walk0 100 trivial (fun A eA => ?_))
    by_cases h1 : a.one = b.one
    · by_cases h2 : a.ps.length = b.ps.length
      · simp (disch := first | omega | (simp only [avs_len, List.length_cons, List.length_append, List.length_nil, List.length_take, List.length_drop, List.length_map]; omega) | (simp only [cells, scal1, allSz, List.length_cons, List.length_nil, List.length_append, List.length_map, List.all_cons, List.all_nil, avs_len, beq_self_eq_true, Bool.and_self, and_self, or_true, true_or, reduceCtorEq, *]; done) | fail) only [c_ref04_Same, wl_ref04_Same_0, s_ref04_Same_0, c_ref04_Same_l0, wb_ref04_Same_0, c_ref04_Same_k0, go_sem, Nat.reduceAdd, Nat.reduceSub, Nat.reduceMul, Nat.reduceLT, Nat.reduceLeDiff, Int.reduceToNat, Nat.reduceEqDiff, Nat.reduceBEq, ↓reduceIte, reduceCtorEq, eA, scal1, tavs_len, h1, beq_self_eq_true]
        rw [← h1, Bool.true_and]
        have := refSame_loop a b h2 hs (fun p hp q => ih p hp (by have := size_lt hp; omega) q) a.ps [] b.ps [] rfl rfl rfl zeroC
        rw [← h1] at this
        exact this
      · simp (disch := first | omega | (simp only [avs_len, List.length_cons, List.length_append, List.length_nil, List.length_take, List.length_drop, List.length_map]; omega) | (simp only [cells, scal1, allSz, List.length_cons, List.length_nil, List.length_append, List.length_map, List.all_cons, List.all_nil, avs_len, beq_self_eq_true, Bool.and_self, and_self, or_true, true_or, reduceCtorEq, *]; done) | fail) only [c_ref04_Same, wl_ref04_Same_0, s_ref04_Same_0, c_ref04_Same_l0, wb_ref04_Same_0, c_ref04_Same_k0, go_sem, Nat.reduceAdd, Nat.reduceSub, Nat.reduceMul, Nat.reduceLT, Nat.reduceLeDiff, Int.reduceToNat, Nat.reduceEqDiff, Nat.reduceBEq, ↓reduceIte, reduceCtorEq, eA, scal1, tavs_len, h1, beq_self_eq_true]
        exact doneG rfl
    · have hb : (a.one == b.one) = false := by simp [h1]
      simp (disch := first | omega | (simp only [avs_len, List.length_cons, List.length_append, List.length_nil, List.length_take, List.length_drop, List.length_map]; omega) | (simp only [cells, scal1, allSz, List.length_cons, List.length_nil, List.length_append, List.length_map, List.all_cons, List.all_nil, avs_len, beq_self_eq_true, Bool.and_self, and_self, or_true, true_or, reduceCtorEq, *]; done) | fail) only [c_ref04_Same, wl_ref04_Same_0, s_ref04_Same_0, c_ref04_Same_l0, wb_ref04_Same_0, c_ref04_Same_k0, go_sem, Nat.reduceAdd, Nat.reduceSub, Nat.reduceMul, Nat.reduceLT, Nat.reduceLeDiff, Int.reduceToNat, Nat.reduceEqDiff, Nat.reduceBEq, ↓reduceIte, reduceCtorEq, eA, scal1, tavs_len, hb]
      simp only [h1, false_and, decide_false, Bool.false_and]
      exact doneG rfl
end Go.Proofs.Ytmokhopjnjecbab
/- The walk through the identities' functions, on. -/
-- short
namespace Go.Proofs.Ytmokhopjnjecbab
open Go.Ev
set_option linter.unusedVariables false
set_option linter.unusedSimpArgs false
set_option maxRecDepth 100000
variable {R : List AV → Heap → Ctr → Prop} {k : List It} {H : Heap} {nx : Ctr} {φ : Nat}

/-- No deeper than that? -/
noncomputable def flatb (d : Nat) (t : Tree) : Bool := @decide (flatTo d t) (Classical.propDecidable _)
theorem flatb_true {d : Nat} {t : Tree} : flatb d t = true ↔ flatTo d t := by simp [flatb]
theorem flatb_false {d : Nat} {t : Tree} : flatb d t = false ↔ ¬ flatTo d t := by simp [flatb]
theorem shallow_loop (d : Nat) (hd : d < 1000) (ihd : ∀ t : Tree, t.size < 2 ^ 60 → PCalls Try.prog F_ident_shallow [tv t, .int .i64 (d : Nat)] (.bool (flatb d t))) (a : Tree) (hs : a.size < 2 ^ 60) : ∀ (post pre : List Tree), a.ps = pre ++ post → (∀ p ∈ pre, flatTo d p) → ∀ nx : Ctr,
    RunsX Try.prog 0 (Gives [.t 4] (.bool (flatb (d + 1) a))) (i_ident_shallow_0 ++ [.c c_ident_shallow_k0]) (s_ident_shallow_0 (.int .i64 ((d + 1 : Nat) : Int)) (.fz 2 (tavs a.ps) none) (.int .i64 (a.ps.length : Nat)) (.int .i64 (pre.length : Nat))) [] nx := by
  have hls := len_size a
  intro post
  induction post with
  | nil =>
    intro pre h1 h2 nx
    have h5 : a.ps.length = pre.length := by rw [h1]; simp
    have h6 : flatb (d + 1) a = true := by rw [flatb_true]; intro p hp; rw [h1, List.append_nil] at hp; exact h2 p hp
    refine round (its := [.blk 0 wb_ident_shallow_0]) (k0 := [.c c_ident_shallow_k0]) 100 trivial trivial (fun A eA => ?_)
    simp (disch := first | omega | (simp only [avs_len, List.length_cons, List.length_append, List.length_nil, List.length_take, List.length_drop, List.length_map]; omega) | (simp only [cells, scal1, allSz, List.length_cons, List.length_nil, List.length_append, List.length_map, List.all_cons, List.all_nil, avs_len, beq_self_eq_true, Bool.and_self, and_self, or_true, true_or, reduceCtorEq, *]; done) | fail) only [c_ident_shallow, wl_ident_shallow_0, s_ident_shallow_0, c_ident_shallow_l0, wb_ident_shallow_0, c_ident_shallow_k0, go_sem, Nat.reduceAdd, Nat.reduceSub, Nat.reduceMul, Nat.reduceLT, Nat.reduceLeDiff, Int.reduceToNat, Nat.reduceEqDiff, Nat.reduceBEq, ↓reduceIte, reduceCtorEq, eA]
    refine walk0 (its := [.c c_ident_shallow_k0]) 100 trivial (fun A eA => ?_)
    simp (disch := first | omega | (simp only [avs_len, List.length_cons, List.length_append, List.length_nil, List.length_take, List.length_drop, List.length_map]; omega) | (simp only [cells, scal1, allSz, List.length_cons, List.length_nil, List.length_append, List.length_map, List.all_cons, List.all_nil, avs_len, beq_self_eq_true, Bool.and_self, and_self, or_true, true_or, reduceCtorEq, *]; done) | fail) only [c_ident_shallow, wl_ident_shallow_0, s_ident_shallow_0, c_ident_shallow_l0, wb_ident_shallow_0, c_ident_shallow_k0, go_sem, Nat.reduceAdd, Nat.reduceSub, Nat.reduceMul, Nat.reduceLT, Nat.reduceLeDiff, Int.reduceToNat, Nat.reduceEqDiff, Nat.reduceBEq, ↓reduceIte, reduceCtorEq, eA, h6]
    exact doneG rfl
  | cons p post ih =>
    intro pre h1 h2 nx
    have hlt : pre.length < a.ps.length := by rw [h1]; simp
    have hpm : p ∈ a.ps := by rw [h1]; simp
    have hpz := size_lt hpm
    have g0 : (tavs a.ps)[pre.length]? = some (tv p) := by rw [tavs_get, h1]; simp
    have w1 : IntKind.i64.wrap ((pre.length : Int) + 1) = ((pre.length + 1 : Nat) : Int) := by rw [IntKind.wrap_i64]; omega
    have w2 : IntKind.i64.wrap (((d + 1 : Nat) : Int) - 1) = ((d : Nat) : Int) := by rw [IntKind.wrap_i64]; omega
    have hno : ¬ flatTo d p → flatb (d + 1) a = false := by intro hx; rw [flatb_false]; intro h; exact hx (h p hpm)
    refine round (its := [.blk 0 wb_ident_shallow_0]) (k0 := [.c c_ident_shallow_k0]) 100 trivial trivial (fun A eA => ?_)
    by_cases hd0 : d = 0
    · subst hd0
      simp (disch := first | omega | (simp only [avs_len, List.length_cons, List.length_append, List.length_nil, List.length_take, List.length_drop, List.length_map]; omega) | (simp only [cells, scal1, allSz, List.length_cons, List.length_nil, List.length_append, List.length_map, List.all_cons, List.all_nil, avs_len, beq_self_eq_true, Bool.and_self, and_self, or_true, true_or, reduceCtorEq, *]; done) | fail) only [c_ident_shallow, wl_ident_shallow_0, s_ident_shallow_0, c_ident_shallow_l0, wb_ident_shallow_0, c_ident_shallow_k0, go_sem, Nat.reduceAdd, Nat.reduceSub, Nat.reduceMul, Nat.reduceLT, Nat.reduceLeDiff, Int.reduceToNat, Nat.reduceEqDiff, Nat.reduceBEq, ↓reduceIte, reduceCtorEq, eA, Int.toNat_natCast, g0, w2, scal1, List.all_cons, List.all_nil, Bool.and_self]
      rw [hno (by simp [flatTo])]
      exact doneG rfl
    · simp (disch := first | omega | (simp only [avs_len, List.length_cons, List.length_append, List.length_nil, List.length_take, List.length_drop, List.length_map]; omega) | (simp only [cells, scal1, allSz, List.length_cons, List.length_nil, List.length_append, List.length_map, List.all_cons, List.all_nil, avs_len, beq_self_eq_true, Bool.and_self, and_self, or_true, true_or, reduceCtorEq, *]; done) | fail) only [c_ident_shallow, wl_ident_shallow_0, s_ident_shallow_0, c_ident_shallow_l0, wb_ident_shallow_0, c_ident_shallow_k0, go_sem, Nat.reduceAdd, Nat.reduceSub, Nat.reduceMul, Nat.reduceLT, Nat.reduceLeDiff, Int.reduceToNat, Nat.reduceEqDiff, Nat.reduceBEq, ↓reduceIte, reduceCtorEq, eA, Int.toNat_natCast, g0, w2, scal1, List.all_cons, List.all_nil, Bool.and_self]
      refine call0 100 trivial trivial (ihd p (by omega)) (.inl rfl) (fun A eA => ?_)
      cases hq : flatb d p with
      | false =>
        simp (disch := first | omega | (simp only [avs_len, List.length_cons, List.length_append, List.length_nil, List.length_take, List.length_drop, List.length_map]; omega) | (simp only [cells, scal1, allSz, List.length_cons, List.length_nil, List.length_append, List.length_map, List.all_cons, List.all_nil, avs_len, beq_self_eq_true, Bool.and_self, and_self, or_true, true_or, reduceCtorEq, *]; done) | fail) only [c_ident_shallow, wl_ident_shallow_0, s_ident_shallow_0, c_ident_shallow_l0, wb_ident_shallow_0, c_ident_shallow_k0, go_sem, Nat.reduceAdd, Nat.reduceSub, Nat.reduceMul, Nat.reduceLT, Nat.reduceLeDiff, Int.reduceToNat, Nat.reduceEqDiff, Nat.reduceBEq, ↓reduceIte, reduceCtorEq, eA]
        rw [hno (flatb_false.1 hq)]
        exact doneG rfl
      | true =>
        simp (disch := first | omega | (simp only [avs_len, List.length_cons, List.length_append, List.length_nil, List.length_take, List.length_drop, List.length_map]; omega) | (simp only [cells, scal1, allSz, List.length_cons, List.length_nil, List.length_append, List.length_map, List.all_cons, List.all_nil, avs_len, beq_self_eq_true, Bool.and_self, and_self, or_true, true_or, reduceCtorEq, *]; done) | fail) only [c_ident_shallow, wl_ident_shallow_0, s_ident_shallow_0, c_ident_shallow_l0, wb_ident_shallow_0, c_ident_shallow_k0, go_sem, Nat.reduceAdd, Nat.reduceSub, Nat.reduceMul, Nat.reduceLT, Nat.reduceLeDiff, Int.reduceToNat, Nat.reduceEqDiff, Nat.reduceBEq, ↓reduceIte, reduceCtorEq, eA, w1]
        have hih := ih (pre ++ [p]) (by rw [h1]; simp) (by intro x hx; rcases List.mem_append.1 hx with hx | hx; exact h2 x hx; rw [List.mem_singleton.1 hx]; exact flatb_true.1 hq) (bump nx 6)
        rw [show (pre ++ [p]).length = pre.length + 1 by simp] at hih
        exact hih
theorem shallow_calls : ∀ (d : Nat) (t : Tree), d < 1000 → t.size < 2 ^ 60 → PCalls Try.prog F_ident_shallow [tv t, .int .i64 (d : Nat)] (.bool (flatb d t)) := by
  intro d
  induction d with
  | zero =>
    intro t _ hs
    have hls := len_size t
    have h6 : flatb 0 t = false := by rw [flatb_false]; simp [flatTo]
    refine calls_ident_shallow (walk0 100 trivial (fun A eA => ?_))
    simp (disch := first | omega | (simp only [avs_len, List.length_cons, List.length_append, List.length_nil, List.length_take, List.length_drop, List.length_map]; omega) | (simp only [cells, scal1, allSz, List.length_cons, List.length_nil, List.length_append, List.length_map, List.all_cons, List.all_nil, avs_len, beq_self_eq_true, Bool.and_self, and_self, or_true, true_or, reduceCtorEq, *]; done) | fail) only [c_ident_shallow, wl_ident_shallow_0, s_ident_shallow_0, c_ident_shallow_l0, wb_ident_shallow_0, c_ident_shallow_k0, go_sem, Nat.reduceAdd, Nat.reduceSub, Nat.reduceMul, Nat.reduceLT, Nat.reduceLeDiff, Int.reduceToNat, Nat.reduceEqDiff, Nat.reduceBEq, ↓reduceIte, reduceCtorEq, eA, scal1, tavs_len]
    refine round (its := [.blk 0 wb_ident_shallow_0]) (k0 := [.c c_ident_shallow_k0]) 100 trivial trivial (fun A eA => ?_)
    by_cases h0 : t.ps = []
    · have h5 : t.ps.length = 0 := by rw [h0]; rfl
      simp (disch := first | omega | (simp only [avs_len, List.length_cons, List.length_append, List.length_nil, List.length_take, List.length_drop, List.length_map]; omega) | (simp only [cells, scal1, allSz, List.length_cons, List.length_nil, List.length_append, List.length_map, List.all_cons, List.all_nil, avs_len, beq_self_eq_true, Bool.and_self, and_self, or_true, true_or, reduceCtorEq, *]; done) | fail) only [c_ident_shallow, wl_ident_shallow_0, s_ident_shallow_0, c_ident_shallow_l0, wb_ident_shallow_0, c_ident_shallow_k0, go_sem, Nat.reduceAdd, Nat.reduceSub, Nat.reduceMul, Nat.reduceLT, Nat.reduceLeDiff, Int.reduceToNat, Nat.reduceEqDiff, Nat.reduceBEq, ↓reduceIte, reduceCtorEq, eA]
      refine walk0 (its := [.c c_ident_shallow_k0]) 100 trivial (fun A eA => ?_)
      simp (disch := first | omega | (simp only [avs_len, List.length_cons, List.length_append, List.length_nil, List.length_take, List.length_drop, List.length_map]; omega) | (simp only [cells, scal1, allSz, List.length_cons, List.length_nil, List.length_append, List.length_map, List.all_cons, List.all_nil, avs_len, beq_self_eq_true, Bool.and_self, and_self, or_true, true_or, reduceCtorEq, *]; done) | fail) only [c_ident_shallow, wl_ident_shallow_0, s_ident_shallow_0, c_ident_shallow_l0, wb_ident_shallow_0, c_ident_shallow_k0, go_sem, Nat.reduceAdd, Nat.reduceSub, Nat.reduceMul, Nat.reduceLT, Nat.reduceLeDiff, Int.reduceToNat, Nat.reduceEqDiff, Nat.reduceBEq, ↓reduceIte, reduceCtorEq, eA, h6]
      exact doneG rfl
    · obtain ⟨p, ps, hp⟩ : ∃ p ps, t.ps = p :: ps := by cases h : t.ps with | nil => exact absurd h h0 | cons p ps => exact ⟨p, ps, rfl⟩
      have hlt : 0 < t.ps.length := by rw [hp]; simp
      have g0 : (tavs t.ps)[0]? = some (tv p) := by rw [tavs_get, hp]; simp
      simp (disch := first | omega | (simp only [avs_len, List.length_cons, List.length_append, List.length_nil, List.length_take, List.length_drop, List.length_map]; omega) | (simp only [cells, scal1, allSz, List.length_cons, List.length_nil, List.length_append, List.length_map, List.all_cons, List.all_nil, avs_len, beq_self_eq_true, Bool.and_self, and_self, or_true, true_or, reduceCtorEq, *]; done) | fail) only [c_ident_shallow, wl_ident_shallow_0, s_ident_shallow_0, c_ident_shallow_l0, wb_ident_shallow_0, c_ident_shallow_k0, go_sem, Nat.reduceAdd, Nat.reduceSub, Nat.reduceMul, Nat.reduceLT, Nat.reduceLeDiff, Int.reduceToNat, Nat.reduceEqDiff, Nat.reduceBEq, ↓reduceIte, reduceCtorEq, eA, Int.toNat_natCast, g0, scal1, List.all_cons, List.all_nil, Bool.and_self, h6]
      exact doneG rfl
  | succ d ih =>
    intro t hd hs
    refine calls_ident_shallow (walk0 100 trivial (fun A eA => ?_))
    simp (disch := first | omega | (simp only [avs_len, List.length_cons, List.length_append, List.length_nil, List.length_take, List.length_drop, List.length_map]; omega) | (simp only [cells, scal1, allSz, List.length_cons, List.length_nil, List.length_append, List.length_map, List.all_cons, List.all_nil, avs_len, beq_self_eq_true, Bool.and_self, and_self, or_true, true_or, reduceCtorEq, *]; done) | fail) only [c_ident_shallow, wl_ident_shallow_0, s_ident_shallow_0, c_ident_shallow_l0, wb_ident_shallow_0, c_ident_shallow_k0, go_sem, Nat.reduceAdd, Nat.reduceSub, Nat.reduceMul, Nat.reduceLT, Nat.reduceLeDiff, Int.reduceToNat, Nat.reduceEqDiff, Nat.reduceBEq, ↓reduceIte, reduceCtorEq, eA, scal1, tavs_len]
    exact shallow_loop d (by omega) (fun t h => ih t (by omega) h) t hs t.ps [] rfl (by simp) zeroC
/-- The rows appended, frozen, are the list. -/
theorem wk_tree {o : Bool} {x : AV} {ps : List Tree} (h : Wk1 x (.fz 2 (tavs ps) none)) : Wk1 (.agg [.bool o, x]) (tv (.mk o ps)) := by
  refine Wk1.agg rfl (fun j a b ha hb => ?_)
  rcases j with _ | _ | j
  · simp at ha hb; subst ha hb; exact Wk1.refl _
  · simp at ha hb; subst ha hb; exact h
  · simp at ha
theorem wk_leaf (o : Bool) : Wk1 (.agg [.bool o, .nils]) (tv (.mk o [])) := wk_tree (by simp only [tavs]; exact Wk1.nils 2)
theorem cat_len : ∀ ps : List Tree, (catCells (tavs ps)).length = ps.length * 2
  | [] => by simp [tavs, catCells]
  | p :: ps => by simp only [tavs, catCells, tav_tv, cells, List.length_append, cat_len ps, List.length_cons, List.length_nil]; omega
theorem cat_snoc : ∀ (ps : List Tree) (p : Tree), catCells (tavs (ps ++ [p])) = catCells (tavs ps) ++ [.bool p.one, .fz 2 (tavs p.ps) none]
  | [], p => by simp [tavs, catCells, tav_tv, cells]
  | q :: ps, p => by simp only [List.cons_append, tavs, catCells, cat_snoc ps p, List.append_assoc]
theorem frz_cat {α : Type} (n : Nat) (H : Heap) : ∀ (ps : List Tree) (ok : List AV → List (Nat × Nat) → α) (bd : α), mapK (frzK (n + 1) H) (catCells (tavs ps)) ok bd = ok (catCells (tavs ps)) []
  | [], ok, bd => by simp [tavs, catCells, mapK]
  | p :: ps, ok, bd => by simp only [tavs, catCells, tav_tv, cells, List.cons_append, List.nil_append, mapK, frzK_bool, frzK_fz, frz_cat n H ps, List.append_nil]
theorem chunk_cat : ∀ (ps : List Tree), chunk 2 ps.length (catCells (tavs ps)) = tavs ps := by
  intro ps
  show chunkN 2 _ _ = _
  induction ps with
  | nil => rfl
  | cons p ps ih => simp only [tavs, catCells, tav_tv, cells, List.length_cons, chunkN, List.cons_append, List.nil_append, List.take, List.drop, ih]
theorem cat_take (ps : List Tree) : (catCells (tavs ps)).take (ps.length * 2) = catCells (tavs ps) := by rw [← cat_len, List.take_length]
abbrev cloneH (o : Bool) (e : Option Nat) (pre : List Tree) : Heap := (0, 4, 0, some [.bool false, .nils]) :: (0, 6, 0, some [.bool o, accV 0 39 2 e pre.length]) :: accE 0 39 e (catCells (tavs pre))
theorem clone_loop (d : Nat) (hd : d < 1000) (ihd : ∀ t : Tree, t.size < 2 ^ 32 → flatTo d t → PCalls Try.prog F_ident_clone [tv t, .int .i64 (d : Nat)] (.tup [tv t, .bool true])) (a : Tree) (hs : a.size < 2 ^ 32) (hfl : flatTo (d + 1) a) : ∀ (post pre : List Tree), a.ps = pre ++ post → ∀ (e : Option Nat) (nx : Ctr), (e = none → pre = []) →
    RunsX Try.prog 0 (Gives [.cn 4 2, .t 5] (.tup [tv a, .bool true])) (i_ident_clone_0 ++ [.c c_ident_clone_k0]) (s_ident_clone_0 (.int .i64 ((d + 1 : Nat) : Int)) (.ptr 0 4 0 0) (.ptr 0 6 0 0) (.fz 2 (tavs a.ps) none) (.int .i64 (a.ps.length : Nat)) (.int .i64 (pre.length : Nat))) (cloneH a.one e pre) nx := by
  have hls := len_size a
  intro post
  induction post with
  | nil =>
    intro pre h1 e nx he
    rw [List.append_nil] at h1
    have h5 : a.ps.length = pre.length := by rw [h1]
    refine round (its := [.blk 0 wb_ident_clone_0]) (k0 := [.c c_ident_clone_k0]) 100 trivial trivial (fun A eA => ?_)
    cases e with
    | none =>
      have hp := he rfl
      simp (disch := first | omega | (simp only [avs_len, List.length_cons, List.length_append, List.length_nil, List.length_take, List.length_drop, List.length_map]; omega) | (simp only [cells, scal1, allSz, List.length_cons, List.length_nil, List.length_append, List.length_map, List.all_cons, List.all_nil, avs_len, beq_self_eq_true, Bool.and_self, and_self, or_true, true_or, reduceCtorEq, *]; done) | fail) only [c_ident_clone, wl_ident_clone_0, s_ident_clone_0, c_ident_clone_l0, wb_ident_clone_0, c_ident_clone_k0, go_sem, Nat.reduceAdd, Nat.reduceSub, Nat.reduceMul, Nat.reduceLT, Nat.reduceLeDiff, Int.reduceToNat, Nat.reduceEqDiff, Nat.reduceBEq, ↓reduceIte, reduceCtorEq, eA, cloneH, accV, accE]
      refine walk0 (its := [.c c_ident_clone_k0]) 100 trivial (fun A eA => ?_)
      simp (disch := first | omega | (simp only [avs_len, List.length_cons, List.length_append, List.length_nil, List.length_take, List.length_drop, List.length_map]; omega) | (simp only [cells, scal1, allSz, List.length_cons, List.length_nil, List.length_append, List.length_map, List.all_cons, List.all_nil, avs_len, beq_self_eq_true, Bool.and_self, and_self, or_true, true_or, reduceCtorEq, *]; done) | fail) only [c_ident_clone, wl_ident_clone_0, s_ident_clone_0, c_ident_clone_l0, wb_ident_clone_0, c_ident_clone_k0, go_sem, Nat.reduceAdd, Nat.reduceSub, Nat.reduceMul, Nat.reduceLT, Nat.reduceLeDiff, Int.reduceToNat, Nat.reduceEqDiff, Nat.reduceBEq, ↓reduceIte, reduceCtorEq, eA]
      refine doneW rfl (Wk1.tup rfl (fun j x y hx hy => ?_))
      rcases j with _ | _ | j
      · simp at hx hy; subst hx hy; have := wk_leaf a.one; show Wk1 _ (.agg [.bool a.one, .fz 2 (tavs a.ps) none]); rw [h1, hp]; exact this
      · simp at hx hy; subst hx hy; exact Wk1.refl _
      · simp at hx
    | some g =>
      simp (disch := first | omega | (simp only [avs_len, List.length_cons, List.length_append, List.length_nil, List.length_take, List.length_drop, List.length_map]; omega) | (simp only [cells, scal1, allSz, List.length_cons, List.length_nil, List.length_append, List.length_map, List.all_cons, List.all_nil, avs_len, beq_self_eq_true, Bool.and_self, and_self, or_true, true_or, reduceCtorEq, *]; done) | fail) only [c_ident_clone, wl_ident_clone_0, s_ident_clone_0, c_ident_clone_l0, wb_ident_clone_0, c_ident_clone_k0, go_sem, Nat.reduceAdd, Nat.reduceSub, Nat.reduceMul, Nat.reduceLT, Nat.reduceLeDiff, Int.reduceToNat, Nat.reduceEqDiff, Nat.reduceBEq, ↓reduceIte, reduceCtorEq, eA, cloneH, accV, accE]
      refine walk0 (its := [.c c_ident_clone_k0]) 100 trivial (fun A eA => ?_)
      simp (disch := first | omega | (simp only [avs_len, List.length_cons, List.length_append, List.length_nil, List.length_take, List.length_drop, List.length_map]; omega) | (simp only [cells, scal1, allSz, List.length_cons, List.length_nil, List.length_append, List.length_map, List.all_cons, List.all_nil, avs_len, beq_self_eq_true, Bool.and_self, and_self, or_true, true_or, reduceCtorEq, *]; done) | fail) only [c_ident_clone, wl_ident_clone_0, s_ident_clone_0, c_ident_clone_l0, wb_ident_clone_0, c_ident_clone_k0, go_sem, Nat.reduceAdd, Nat.reduceSub, Nat.reduceMul, Nat.reduceLT, Nat.reduceLeDiff, Int.reduceToNat, Nat.reduceEqDiff, Nat.reduceBEq, ↓reduceIte, reduceCtorEq, eA]
      refine doneG ?_
      simp (disch := first | omega | (simp only [avs_len, List.length_cons, List.length_append, List.length_nil, List.length_take, List.length_drop, List.length_map]; omega) | (simp only [cells, scal1, allSz, List.length_cons, List.length_nil, List.length_append, List.length_map, List.all_cons, List.all_nil, avs_len, beq_self_eq_true, Bool.and_self, and_self, or_true, true_or, reduceCtorEq, *]; done) | fail) only [go_sem, Nat.reduceAdd, Nat.reduceSub, Nat.reduceMul, Nat.reduceLT, Nat.reduceLeDiff, Int.reduceToNat, Nat.reduceEqDiff, Nat.reduceBEq, ↓reduceIte, reduceCtorEq, cat_len, cat_take, ↓frz_cat, chunk_cat]
      show _ = some (AV.tup [.agg [.bool a.one, .fz 2 (tavs a.ps) none], _])
      rw [h1]
  | cons p post ih =>
    intro pre h1 e nx he
    have hlt : pre.length < a.ps.length := by rw [h1]; simp
    have hpm : p ∈ a.ps := by rw [h1]; simp
    have hpz := size_lt hpm
    have g0 : (tavs a.ps)[pre.length]? = some (tv p) := by rw [tavs_get, h1]; simp
    have w1 : IntKind.i64.wrap ((pre.length : Int) + 1) = ((pre.length + 1 : Nat) : Int) := by rw [IntKind.wrap_i64]; omega
    have w2 : IntKind.i64.wrap (((d + 1 : Nat) : Int) - 1) = ((d : Nat) : Int) := by rw [IntKind.wrap_i64]; omega
    have hpf : flatTo d p := hfl p hpm
    have hd0 : d ≠ 0 := by rintro rfl; exact hpf
    refine round (its := [.blk 0 wb_ident_clone_0]) (k0 := [.c c_ident_clone_k0]) 100 trivial trivial (fun A eA => ?_)
    cases e with
    | none =>
      have hp := he rfl
      simp (disch := first | omega | (simp only [avs_len, List.length_cons, List.length_append, List.length_nil, List.length_take, List.length_drop, List.length_map]; omega) | (simp only [cells, scal1, allSz, List.length_cons, List.length_nil, List.length_append, List.length_map, List.all_cons, List.all_nil, avs_len, beq_self_eq_true, Bool.and_self, and_self, or_true, true_or, reduceCtorEq, *]; done) | fail) only [c_ident_clone, wl_ident_clone_0, s_ident_clone_0, c_ident_clone_l0, wb_ident_clone_0, c_ident_clone_k0, go_sem, Nat.reduceAdd, Nat.reduceSub, Nat.reduceMul, Nat.reduceLT, Nat.reduceLeDiff, Int.reduceToNat, Nat.reduceEqDiff, Nat.reduceBEq, ↓reduceIte, reduceCtorEq, eA, Int.toNat_natCast, g0, w2, scal1, List.all_cons, List.all_nil, Bool.and_self, cloneH, accV, accE]
      refine call0 100 trivial trivial (ihd p (by omega) hpf) (.inl rfl) (fun A eA => ?_)
      simp (disch := first | omega | (simp only [avs_len, List.length_cons, List.length_append, List.length_nil, List.length_take, List.length_drop, List.length_map]; omega) | (simp only [cells, scal1, allSz, List.length_cons, List.length_nil, List.length_append, List.length_map, List.all_cons, List.all_nil, avs_len, beq_self_eq_true, Bool.and_self, and_self, or_true, true_or, reduceCtorEq, *]; done) | fail) only [c_ident_clone, wl_ident_clone_0, s_ident_clone_0, c_ident_clone_l0, wb_ident_clone_0, c_ident_clone_k0, go_sem, Nat.reduceAdd, Nat.reduceSub, Nat.reduceMul, Nat.reduceLT, Nat.reduceLeDiff, Int.reduceToNat, Nat.reduceEqDiff, Nat.reduceBEq, ↓reduceIte, reduceCtorEq, eA, w1, ↓appK, allSz, catCells, scal1, List.all_cons, List.all_nil, Bool.and_self]
      have hih := ih (pre ++ [p]) (by rw [h1]; simp) (some (nx 39)) (bump (bump (bump nx 8) 9) 39) (by simp)
      simp only [cloneH, List.length_append, List.length_cons, List.length_nil, Nat.zero_add, cat_snoc] at hih
      subst hp
      exact hih
    | some g =>
      simp (disch := first | omega | (simp only [avs_len, List.length_cons, List.length_append, List.length_nil, List.length_take, List.length_drop, List.length_map]; omega) | (simp only [cells, scal1, allSz, List.length_cons, List.length_nil, List.length_append, List.length_map, List.all_cons, List.all_nil, avs_len, beq_self_eq_true, Bool.and_self, and_self, or_true, true_or, reduceCtorEq, *]; done) | fail) only [c_ident_clone, wl_ident_clone_0, s_ident_clone_0, c_ident_clone_l0, wb_ident_clone_0, c_ident_clone_k0, go_sem, Nat.reduceAdd, Nat.reduceSub, Nat.reduceMul, Nat.reduceLT, Nat.reduceLeDiff, Int.reduceToNat, Nat.reduceEqDiff, Nat.reduceBEq, ↓reduceIte, reduceCtorEq, eA, Int.toNat_natCast, g0, w2, scal1, List.all_cons, List.all_nil, Bool.and_self, cloneH, accV, accE]
      refine call0 100 trivial trivial (ihd p (by omega) hpf) (.inl rfl) (fun A eA => ?_)
      simp (disch := first | omega | (simp only [avs_len, List.length_cons, List.length_append, List.length_nil, List.length_take, List.length_drop, List.length_map]; omega) | (simp only [cells, scal1, allSz, List.length_cons, List.length_nil, List.length_append, List.length_map, List.all_cons, List.all_nil, avs_len, beq_self_eq_true, Bool.and_self, and_self, or_true, true_or, reduceCtorEq, *]; done) | fail) only [c_ident_clone, wl_ident_clone_0, s_ident_clone_0, c_ident_clone_l0, wb_ident_clone_0, c_ident_clone_k0, go_sem, Nat.reduceAdd, Nat.reduceSub, Nat.reduceMul, Nat.reduceLT, Nat.reduceLeDiff, Int.reduceToNat, Nat.reduceEqDiff, Nat.reduceBEq, ↓reduceIte, reduceCtorEq, eA, w1, ↓appK, allSz, catCells, cat_len, scal1, List.all_cons, List.all_nil, Bool.and_self]
      have hih := ih (pre ++ [p]) (by rw [h1]; simp) (some (nx 39)) (bump (bump (bump nx 8) 9) 39) (by simp)
      simp only [cloneH, List.length_append, List.length_cons, List.length_nil, Nat.zero_add, cat_snoc] at hih
      exact hih
theorem clone_calls : ∀ (d : Nat) (t : Tree), d < 1000 → t.size < 2 ^ 32 → flatTo d t → PCalls Try.prog F_ident_clone [tv t, .int .i64 (d : Nat)] (.tup [tv t, .bool true]) := by
  intro d
  induction d with
  | zero => intro t _ _ h; exact absurd h (by simp [flatTo])
  | succ d ih =>
    intro t hd hs hf
    refine calls_ident_clone (walk0 100 trivial (fun A eA => ?_))
    simp (disch := first | omega | (simp only [avs_len, List.length_cons, List.length_append, List.length_nil, List.length_take, List.length_drop, List.length_map]; omega) | (simp only [cells, scal1, allSz, List.length_cons, List.length_nil, List.length_append, List.length_map, List.all_cons, List.all_nil, avs_len, beq_self_eq_true, Bool.and_self, and_self, or_true, true_or, reduceCtorEq, *]; done) | fail) only [c_ident_clone, wl_ident_clone_0, s_ident_clone_0, c_ident_clone_l0, wb_ident_clone_0, c_ident_clone_k0, go_sem, Nat.reduceAdd, Nat.reduceSub, Nat.reduceMul, Nat.reduceLT, Nat.reduceLeDiff, Int.reduceToNat, Nat.reduceEqDiff, Nat.reduceBEq, ↓reduceIte, reduceCtorEq, eA, scal1, tavs_len, List.all_cons, List.all_nil, Bool.and_self]
    exact clone_loop d (by omega) (fun t h => ih t (by omega) h) t hs hf t.ps [] rfl none _ (fun _ => rfl)
noncomputable def cloneT (t : Tree) : Tree := if flatb 8 t then t else .mk false []
theorem Clone_calls (t : Tree) (hs : t.size < 2 ^ 32) : PCalls Try.prog F_ident_Clone [tv t] (tv (cloneT t)) := by
  refine calls_ident_Clone (walk0 100 trivial (fun A eA => ?_))
  simp (disch := first | omega | (simp only [avs_len, List.length_cons, List.length_append, List.length_nil, List.length_take, List.length_drop, List.length_map]; omega) | (simp only [cells, scal1, allSz, List.length_cons, List.length_nil, List.length_append, List.length_map, List.all_cons, List.all_nil, avs_len, beq_self_eq_true, Bool.and_self, and_self, or_true, true_or, reduceCtorEq, *]; done) | fail) only [c_ident_Clone, go_sem, Nat.reduceAdd, Nat.reduceSub, Nat.reduceMul, Nat.reduceLT, Nat.reduceLeDiff, Int.reduceToNat, Nat.reduceEqDiff, Nat.reduceBEq, ↓reduceIte, reduceCtorEq, eA, scal1, tavs_len]
  refine call0 100 trivial trivial (shallow_calls 8 t (by omega) (by omega)) (.inl rfl) (fun A eA => ?_)
  cases hq : flatb 8 t with
  | false =>
    simp (disch := first | omega | (simp only [avs_len, List.length_cons, List.length_append, List.length_nil, List.length_take, List.length_drop, List.length_map]; omega) | (simp only [cells, scal1, allSz, List.length_cons, List.length_nil, List.length_append, List.length_map, List.all_cons, List.all_nil, avs_len, beq_self_eq_true, Bool.and_self, and_self, or_true, true_or, reduceCtorEq, *]; done) | fail) only [c_ident_Clone, go_sem, Nat.reduceAdd, Nat.reduceSub, Nat.reduceMul, Nat.reduceLT, Nat.reduceLeDiff, Int.reduceToNat, Nat.reduceEqDiff, Nat.reduceBEq, ↓reduceIte, reduceCtorEq, eA, scal1, List.all_cons, List.all_nil, Bool.and_self]
    rw [show cloneT t = .mk false [] by simp [cloneT, hq]]
    exact doneW rfl (wk_leaf false)
  | true =>
    simp (disch := first | omega | (simp only [avs_len, List.length_cons, List.length_append, List.length_nil, List.length_take, List.length_drop, List.length_map]; omega) | (simp only [cells, scal1, allSz, List.length_cons, List.length_nil, List.length_append, List.length_map, List.all_cons, List.all_nil, avs_len, beq_self_eq_true, Bool.and_self, and_self, or_true, true_or, reduceCtorEq, *]; done) | fail) only [c_ident_Clone, go_sem, Nat.reduceAdd, Nat.reduceSub, Nat.reduceMul, Nat.reduceLT, Nat.reduceLeDiff, Int.reduceToNat, Nat.reduceEqDiff, Nat.reduceBEq, ↓reduceIte, reduceCtorEq, eA, scal1, List.all_cons, List.all_nil, Bool.and_self]
    refine call0 100 trivial trivial (clone_calls 8 t (by omega) hs (flatb_true.1 hq)) (.inl rfl) (fun A eA => ?_)
    simp (disch := first | omega | (simp only [avs_len, List.length_cons, List.length_append, List.length_nil, List.length_take, List.length_drop, List.length_map]; omega) | (simp only [cells, scal1, allSz, List.length_cons, List.length_nil, List.length_append, List.length_map, List.all_cons, List.all_nil, avs_len, beq_self_eq_true, Bool.and_self, and_self, or_true, true_or, reduceCtorEq, *]; done) | fail) only [c_ident_Clone, go_sem, Nat.reduceAdd, Nat.reduceSub, Nat.reduceMul, Nat.reduceLT, Nat.reduceLeDiff, Int.reduceToNat, Nat.reduceEqDiff, Nat.reduceBEq, ↓reduceIte, reduceCtorEq, eA, scal1, List.all_cons, List.all_nil, Bool.and_self]
    rw [show cloneT t = t by simp [cloneT, hq]]
    exact doneG rfl
theorem All_calls : PCalls Try.prog F_ident_All [] (tv (.mk true [])) := by
  refine calls_ident_All (walk0 100 trivial (fun A eA => ?_))
  simp (disch := first | omega | (simp only [avs_len, List.length_cons, List.length_append, List.length_nil, List.length_take, List.length_drop, List.length_map]; omega) | (simp only [cells, scal1, allSz, List.length_cons, List.length_nil, List.length_append, List.length_map, List.all_cons, List.all_nil, avs_len, beq_self_eq_true, Bool.and_self, and_self, or_true, true_or, reduceCtorEq, *]; done) | fail) only [c_ident_All, go_sem, Nat.reduceAdd, Nat.reduceSub, Nat.reduceMul, Nat.reduceLT, Nat.reduceLeDiff, Int.reduceToNat, Nat.reduceEqDiff, Nat.reduceBEq, ↓reduceIte, reduceCtorEq, eA, scal1, tavs_len]
  exact doneW rfl (wk_leaf true)
end Go.Proofs.Ytmokhopjnjecbab
/- The walk through the reference's grow. -/
-- short
-- fuel 300
namespace Go.Ev
theorem growR_len : ∀ (i : B) (row : List Nat), (∃ d, row.length = 2 ^ d ∧ i.dep ≤ d + 1) → (growR i row).1.length = row.length
  | .lf o, row, _ => by simp [growR]
  | .nd il ir, row, ⟨d, h, hd⟩ => by
    simp only [B.dep] at hd
    match d with
    | 0 => have := il.dep_pos; omega
    | d + 1 =>
      have hp : 2 ^ (d + 1) = 2 ^ d + 2 ^ d := by rw [Nat.pow_succ]; omega
      have h1 : (row.take (row.length / 2)).length = 2 ^ d := by rw [List.length_take]; omega
      have h2 : (row.drop (row.length / 2)).length = 2 ^ d := by rw [List.length_drop]; omega
      have il1 := growR_len il _ ⟨d, h1, by omega⟩
      have ir1 := growR_len ir _ ⟨d, h2, by omega⟩
      simp only [growR]
      split
      · simp only [List.length_append, ir1, h1, h2]; omega
      · split
        · simp only [List.length_append, il1, h1, h2]; omega
        · split
          · simp only [List.length_append, ir1, h1, h2]; omega
          · simp only [List.length_append, il1, h1, h2]; omega
theorem growR_price : ∀ (d : Nat) (i : B) (row : List Nat), i.dep ≤ d → (growR i row).2 ≤ 1001 * d
  | 0, i, row, h => by have := i.dep_pos; omega
  | d + 1, .lf o, row, _ => by simp [growR]
  | d + 1, .nd il ir, row, h => by
    simp only [B.dep] at h
    have hl := growR_price d il (row.take (row.length / 2)) (by omega)
    have hr := growR_price d ir (row.drop (row.length / 2)) (by omega)
    have hm : (if leastR row = mostR row then 1001 else 1) ≤ 1001 := by split <;> omega
    simp only [growR]
    split
    · show _ + _ ≤ _; omega
    · split
      · show _ + _ ≤ _; omega
      · split
        · show _ + _ ≤ _; omega
        · show _ + _ ≤ _; omega
theorem growR_1 {il ir : B} {row : List Nat} (h1 : il.none = true) : growR (.nd il ir) row = (row.take (row.length / 2) ++ (growR ir (row.drop (row.length / 2))).1, (if leastR row = mostR row then 1001 else 1) + (growR ir (row.drop (row.length / 2))).2) := by
  simp only [growR]; rw [if_pos h1]
theorem growR_2 {il ir : B} {row : List Nat} (h1 : ¬ il.none = true) (h2 : ir.none = true) : growR (.nd il ir) row = ((growR il (row.take (row.length / 2))).1 ++ row.drop (row.length / 2), (if leastR row = mostR row then 1001 else 1) + (growR il (row.take (row.length / 2))).2) := by
  simp only [growR]; rw [if_neg h1, if_pos h2]
theorem growR_3 {il ir : B} {row : List Nat} (h1 : ¬ il.none = true) (h2 : ¬ ir.none = true) (h3 : (growR ir (row.drop (row.length / 2))).2 ≤ (growR il (row.take (row.length / 2))).2) : growR (.nd il ir) row = (row.take (row.length / 2) ++ (growR ir (row.drop (row.length / 2))).1, (if leastR row = mostR row then 1001 else 1) + (growR ir (row.drop (row.length / 2))).2) := by
  simp only [growR]; rw [if_neg h1, if_neg h2, if_pos h3]
theorem growR_4 {il ir : B} {row : List Nat} (h1 : ¬ il.none = true) (h2 : ¬ ir.none = true) (h3 : ¬ (growR ir (row.drop (row.length / 2))).2 ≤ (growR il (row.take (row.length / 2))).2) : growR (.nd il ir) row = ((growR il (row.take (row.length / 2))).1 ++ row.drop (row.length / 2), (if leastR row = mostR row then 1001 else 1) + (growR il (row.take (row.length / 2))).2) := by
  simp only [growR]; rw [if_neg h1, if_neg h2, if_neg h3]
end Go.Ev
namespace Go.Proofs.Ytmokhopjnjecbab
open Go.Ev
set_option linter.unusedVariables false
set_option linter.unusedSimpArgs false
set_option maxRecDepth 100000
set_option maxHeartbeats 3200000

theorem B.t_size2 : ∀ (b : B), b.t.size = b.nodes
  | .lf o => by simp [B.t, Tree.size, sizes, B.nodes]
  | .nd l r => by simp only [B.t, Tree.size, sizes, B.nodes, B.t_size2 l, B.t_size2 r]; omega
theorem nodes_dep : ∀ (b : B) (d : Nat), b.dep ≤ d → b.nodes < 2 ^ d
  | b, 0, h => by have := b.dep_pos; omega
  | .lf o, d + 1, _ => by have : 0 < 2 ^ d := Nat.pow_pos (by omega); simp only [B.nodes, Nat.pow_succ]; omega
  | .nd l r, d + 1, h => by
    simp only [B.dep] at h
    have a := nodes_dep l d (by omega)
    have b := nodes_dep r d (by omega)
    simp only [B.nodes, Nat.pow_succ]; omega
theorem same_none (b : B) (hd : b.dep ≤ 8) : PCalls Try.prog F_ref04_Same [tv b.t, .agg [.bool false, .nils]] (.bool b.none) := by
  have hs := nodes_dep b 8 hd
  have c := refSame_calls b.t (by rw [B.t_size2]; omega) (.mk false [])
  have e : teq b.t (.mk false []) = b.none := by
    rw [Bool.eq_iff_iff, teq_true]
    cases b with
    | lf o => cases o <;> simp [B.t, B.none]
    | nd l r => simp [B.t, B.none]
  rw [e] at c
  exact PCalls.arg [tv b.t] (wk_leaf false) c
theorem refGrow_calls : ∀ (d : Nat) (i : B) (row : List Nat), d ≤ 7 → i.short = true → i.dep ≤ d + 1 → i.none = false → row.length = 2 ^ d → (∀ x ∈ row, x < 2 ^ 60) → PCalls Try.prog F_ref04_grow [tv i.t, .fz 1 (ivs row) none] (.tup [.fz 1 (ivs (growR i row).1) none, .int .i64 ((growR i row).2 : Nat)]) := by
  intro d
  induction d with
  | zero =>
    intro i row hd7 his hd hn hl hx
    cases i with
    | lf o =>
      rw [tv_lf]
      have hne := row_ne hl
      obtain ⟨x, l, rfl⟩ := List.exists_cons_of_ne_nil hne
      have hx0 := hx x List.mem_cons_self
      have g0 : (ivs (x :: l))[(0 : Int).toNat]? = some (.int .i64 (x : Nat)) := rfl
      have w1 : IntKind.i64.wrap ((x : Int) + 1) = ((x + 1 : Nat) : Int) := by rw [wrap64 (by omega) (by omega)]; omega
      have c1 := refFlat_calls (x + 1) (x :: l).length (by rw [hl]; exact Nat.lt_of_le_of_lt (Nat.pow_le_pow_right (by omega) (show _ ≤ 8 by omega)) (by decide))
      show PCalls Try.prog F_ref04_grow _ (.tup [.fz 1 (ivs (List.replicate (x :: l).length (x + 1))) none, .int .i64 0])
      generalize hXX : (x :: l) = XX at *
      refine calls_ref04_grow (walk0 300 trivial (fun A eA => ?_))
      simp (disch := first | omega | (simp only [avs_len, List.length_cons, List.length_append, List.length_nil, List.length_take, List.length_drop, List.length_map]; omega) | (simp only [cells, scal1, allSz, List.length_cons, List.length_nil, List.length_append, List.length_map, List.all_cons, List.all_nil, avs_len, beq_self_eq_true, Bool.and_self, and_self, or_true, true_or, reduceCtorEq, *]; done) | fail) only [c_ref04_grow, go_sem, Nat.reduceAdd, Nat.reduceSub, Nat.reduceMul, Nat.reduceLT, Nat.reduceLeDiff, Int.reduceToNat, Nat.reduceEqDiff, Nat.reduceBEq, ↓reduceIte, reduceCtorEq, eA, ↓optI_of g0, w1, List.length_map]
      repeat ((first | refine call0 300 trivial trivial (by first | exact c1) (by first | exact .inl rfl | exact .inr rfl) (fun A eA => ?_) | refine call1 300 trivial trivial (by first | exact c1) (fun A eA => ?_)); simp (disch := first | omega | (simp only [avs_len, List.length_cons, List.length_append, List.length_nil, List.length_take, List.length_drop, List.length_map]; omega) | (simp only [cells, scal1, allSz, List.length_cons, List.length_nil, List.length_append, List.length_map, List.all_cons, List.all_nil, avs_len, beq_self_eq_true, Bool.and_self, and_self, or_true, true_or, reduceCtorEq, *]; done) | fail) only [c_ref04_grow, go_sem, Nat.reduceAdd, Nat.reduceSub, Nat.reduceMul, Nat.reduceLT, Nat.reduceLeDiff, Int.reduceToNat, Nat.reduceEqDiff, Nat.reduceBEq, ↓reduceIte, reduceCtorEq, eA, ↓optI_of g0, w1, List.length_map])
      exact doneG rfl
    | nd il ir => have := il.dep_pos; simp only [B.dep] at hd; omega
  | succ d ih =>
    intro i row hd7 his hd hn hl hx
    cases i with
    | lf o =>
      rw [tv_lf]
      have hne := row_ne hl
      obtain ⟨x, l, rfl⟩ := List.exists_cons_of_ne_nil hne
      have hx0 := hx x List.mem_cons_self
      have g0 : (ivs (x :: l))[(0 : Int).toNat]? = some (.int .i64 (x : Nat)) := rfl
      have w1 : IntKind.i64.wrap ((x : Int) + 1) = ((x + 1 : Nat) : Int) := by rw [wrap64 (by omega) (by omega)]; omega
      have c1 := refFlat_calls (x + 1) (x :: l).length (by rw [hl]; exact Nat.lt_of_le_of_lt (Nat.pow_le_pow_right (by omega) (show _ ≤ 8 by omega)) (by decide))
      show PCalls Try.prog F_ref04_grow _ (.tup [.fz 1 (ivs (List.replicate (x :: l).length (x + 1))) none, .int .i64 0])
      generalize hXX : (x :: l) = XX at *
      refine calls_ref04_grow (walk0 300 trivial (fun A eA => ?_))
      simp (disch := first | omega | (simp only [avs_len, List.length_cons, List.length_append, List.length_nil, List.length_take, List.length_drop, List.length_map]; omega) | (simp only [cells, scal1, allSz, List.length_cons, List.length_nil, List.length_append, List.length_map, List.all_cons, List.all_nil, avs_len, beq_self_eq_true, Bool.and_self, and_self, or_true, true_or, reduceCtorEq, *]; done) | fail) only [c_ref04_grow, go_sem, Nat.reduceAdd, Nat.reduceSub, Nat.reduceMul, Nat.reduceLT, Nat.reduceLeDiff, Int.reduceToNat, Nat.reduceEqDiff, Nat.reduceBEq, ↓reduceIte, reduceCtorEq, eA, ↓optI_of g0, w1, List.length_map]
      repeat ((first | refine call0 300 trivial trivial (by first | exact c1) (by first | exact .inl rfl | exact .inr rfl) (fun A eA => ?_) | refine call1 300 trivial trivial (by first | exact c1) (fun A eA => ?_)); simp (disch := first | omega | (simp only [avs_len, List.length_cons, List.length_append, List.length_nil, List.length_take, List.length_drop, List.length_map]; omega) | (simp only [cells, scal1, allSz, List.length_cons, List.length_nil, List.length_append, List.length_map, List.all_cons, List.all_nil, avs_len, beq_self_eq_true, Bool.and_self, and_self, or_true, true_or, reduceCtorEq, *]; done) | fail) only [c_ref04_grow, go_sem, Nat.reduceAdd, Nat.reduceSub, Nat.reduceMul, Nat.reduceLT, Nat.reduceLeDiff, Int.reduceToNat, Nat.reduceEqDiff, Nat.reduceBEq, ↓reduceIte, reduceCtorEq, eA, ↓optI_of g0, w1, List.length_map])
      exact doneG rfl
    | nd il ir =>
      have hne := row_ne hl
      have hle : (2 : Nat) ^ (d + 1) ≤ 2 ^ 20 := Nat.pow_le_pow_right (by omega) (by omega)
      rw [tv_nd]
      have his' := his
      simp only [B.short, Bool.and_eq_true] at his'
      simp only [B.dep] at hd
      have c1 := refLeast_calls row hne (by omega)
      have c2 := refMost_calls row hne (by omega)
      have s1 := same_none il (by omega)
      have s2 := same_none ir (by omega)
      have hpos : 0 < 2 ^ d := Nat.pow_pos (by omega)
      have e : 2 ^ (d + 1) / 2 = 2 ^ d := by rw [Nat.pow_succ]; omega
      have e2 : 2 ^ (d + 1) - 2 ^ d = 2 ^ d := by rw [Nat.pow_succ]; omega
      have e3 : 2 ^ d ≤ 2 ^ (d + 1) := Nat.pow_le_pow_right (by omega) (by omega)
      have la : (row.take (2 ^ d)).length = 2 ^ d := by rw [List.length_take]; omega
      have lb : (row.drop (2 ^ d)).length = 2 ^ d := by rw [List.length_drop]; omega
      have cl := fun q => ih il (row.take (2 ^ d)) (by omega) his'.1.1 (by omega) q la (fun x h => hx x (List.mem_of_mem_take h))
      have cr := fun q => ih ir (row.drop (2 ^ d)) (by omega) his'.1.2 (by omega) q lb (fun x h => hx x (List.mem_of_mem_drop h))
      have lfa := growR_len il (row.take (2 ^ d)) ⟨d, la, by omega⟩
      have lfb := growR_len ir (row.drop (2 ^ d)) ⟨d, lb, by omega⟩
      have pa := growR_price (d + 1) il (row.take (2 ^ d)) (by omega)
      have pb := growR_price (d + 1) ir (row.drop (2 ^ d)) (by omega)
      have q1 : (row.length : Int).tdiv 2 = ((2 ^ d : Nat) : Int) := by rw [Int.tdiv_eq_ediv_of_nonneg (by omega), hl, ← e]; omega
      have hhalf : row.length / 2 = 2 ^ d := by omega
      generalize hK : (2 : Nat) ^ d = K at *
      have q2 : IntKind.i64.wrap (K : Int) = (K : Int) := by rw [IntKind.wrap_i64]; omega
      have hKl : K ≤ row.length := by omega
      have ht : List.take row.length (ivs row) = ivs row := by rw [List.take_of_length_le (by simp)]
      have hA : List.take K (ivs row) = ivs (row.take K) := List.map_take.symm
      have hB : List.drop K (ivs row) = ivs (row.drop K) := List.map_drop.symm
      obtain ⟨a, haT⟩ : ∃ a, a = row.take K := ⟨_, rfl⟩
      obtain ⟨b, hbD⟩ : ∃ b, b = row.drop K := ⟨_, rfl⟩
      rw [← haT] at hA la cl lfa pa
      rw [← hbD] at hB lb cr lfb pb
      rw [la] at lfa
      rw [lb] at lfb
      have z20 : ¬ ((2 : Int) = 0) := by omega
      by_cases hc : leastR row = mostR row
      · have hcc : ((leastR row : Nat) : Int) = ((mostR row : Nat) : Int) ↔ True := iff_of_true (by omega) trivial
        have hifc : (if leastR row = mostR row then 1001 else 1) = 1001 := if_pos hc
        have wl : IntKind.i64.wrap (1001 + (((growR il a).2 : Nat) : Int)) = ((1001 + (growR il a).2 : Nat) : Int) := by rw [wrap64 (by omega) (by omega)]; omega
        have wr : IntKind.i64.wrap (1001 + (((growR ir b).2 : Nat) : Int)) = ((1001 + (growR ir b).2 : Nat) : Int) := by rw [wrap64 (by omega) (by omega)]; omega
        by_cases h1 : il.none = true
        · rw [growR_1 h1, hhalf, hifc, ← haT, ← hbD]
          rw [h1] at s1
          have h2 := short_none his h1
          rw [h2] at s2
          have cr := cr h2
          refine calls_ref04_grow (walk0 300 trivial (fun A eA => ?_))
          simp (disch := first | omega | (simp only [avs_len, List.length_cons, List.length_append, List.length_nil, List.length_take, List.length_drop, List.length_map]; omega) | (simp only [cells, scal1, allSz, List.length_cons, List.length_nil, List.length_append, List.length_map, List.all_cons, List.all_nil, avs_len, beq_self_eq_true, Bool.and_self, and_self, or_true, true_or, reduceCtorEq, *]; done) | fail) only [c_ref04_grow, go_sem, Nat.reduceAdd, Nat.reduceSub, Nat.reduceMul, Nat.reduceLT, Nat.reduceLeDiff, Int.reduceToNat, Nat.reduceEqDiff, Nat.reduceBEq, ↓reduceIte, reduceCtorEq, eA]
          repeat ((first | refine call0 300 trivial trivial (by first | exact c1 | exact c2 | exact s1 | exact s2 | exact cr) (by first | exact .inl rfl | exact .inr rfl) (fun A eA => ?_) | refine call1 300 trivial trivial (by first | exact c1 | exact c2 | exact s1 | exact s2 | exact cr) (fun A eA => ?_)); simp (disch := first | omega | (simp only [avs_len, List.length_cons, List.length_append, List.length_nil, List.length_take, List.length_drop, List.length_map]; omega) | (simp only [cells, scal1, allSz, List.length_cons, List.length_nil, List.length_append, List.length_map, List.all_cons, List.all_nil, avs_len, beq_self_eq_true, Bool.and_self, and_self, or_true, true_or, reduceCtorEq, *]; done) | fail) only [c_ref04_grow, go_sem, Nat.reduceAdd, Nat.reduceSub, Nat.reduceMul, Nat.reduceLT, Nat.reduceLeDiff, Int.reduceToNat, Nat.reduceEqDiff, Nat.reduceBEq, ↓reduceIte, reduceCtorEq, eA, hcc, z20, q1, q2, hA, hB, ht, List.length_map, Int.toNat_natCast, ↓appK, catCells_ivs, catCells, wr, la, lfb])
          refine doneG ?_
          have hXY : ivs a ++ ivs (growR ir b).1 = ivs (a ++ (growR ir b).1) := by simp
          have ht2 : List.take (K + K) (ivs (a ++ (growR ir b).1)) = ivs (a ++ (growR ir b).1) := List.take_of_length_le (by simp; omega)
          rw [hXY]
          simp (disch := first | omega | (simp only [avs_len, List.length_cons, List.length_append, List.length_nil, List.length_take, List.length_drop, List.length_map]; omega) | (simp only [cells, scal1, allSz, List.length_cons, List.length_nil, List.length_append, List.length_map, List.all_cons, List.all_nil, avs_len, beq_self_eq_true, Bool.and_self, and_self, or_true, true_or, reduceCtorEq, *]; done) | fail) only [go_sem, Nat.reduceAdd, Nat.reduceSub, Nat.reduceMul, Nat.reduceLT, Nat.reduceLeDiff, Int.reduceToNat, Nat.reduceEqDiff, Nat.reduceBEq, ↓reduceIte, reduceCtorEq, ht2, ↓frz_ivs, chunk]
        · have h1n := h1
          rw [Bool.not_eq_true] at h1
          rw [h1] at s1
          have cl := cl h1
          by_cases h2 : ir.none = true
          · rw [growR_2 h1n h2, hhalf, hifc, ← haT, ← hbD]
            rw [h2] at s2
            refine calls_ref04_grow (walk0 300 trivial (fun A eA => ?_))
            simp (disch := first | omega | (simp only [avs_len, List.length_cons, List.length_append, List.length_nil, List.length_take, List.length_drop, List.length_map]; omega) | (simp only [cells, scal1, allSz, List.length_cons, List.length_nil, List.length_append, List.length_map, List.all_cons, List.all_nil, avs_len, beq_self_eq_true, Bool.and_self, and_self, or_true, true_or, reduceCtorEq, *]; done) | fail) only [c_ref04_grow, go_sem, Nat.reduceAdd, Nat.reduceSub, Nat.reduceMul, Nat.reduceLT, Nat.reduceLeDiff, Int.reduceToNat, Nat.reduceEqDiff, Nat.reduceBEq, ↓reduceIte, reduceCtorEq, eA]
            repeat ((first | refine call0 300 trivial trivial (by first | exact c1 | exact c2 | exact s1 | exact s2 | exact cl) (by first | exact .inl rfl | exact .inr rfl) (fun A eA => ?_) | refine call1 300 trivial trivial (by first | exact c1 | exact c2 | exact s1 | exact s2 | exact cl) (fun A eA => ?_)); simp (disch := first | omega | (simp only [avs_len, List.length_cons, List.length_append, List.length_nil, List.length_take, List.length_drop, List.length_map]; omega) | (simp only [cells, scal1, allSz, List.length_cons, List.length_nil, List.length_append, List.length_map, List.all_cons, List.all_nil, avs_len, beq_self_eq_true, Bool.and_self, and_self, or_true, true_or, reduceCtorEq, *]; done) | fail) only [c_ref04_grow, go_sem, Nat.reduceAdd, Nat.reduceSub, Nat.reduceMul, Nat.reduceLT, Nat.reduceLeDiff, Int.reduceToNat, Nat.reduceEqDiff, Nat.reduceBEq, ↓reduceIte, reduceCtorEq, eA, hcc, z20, q1, q2, hA, hB, ht, List.length_map, Int.toNat_natCast, ↓appK, catCells_ivs, catCells, wl, lb, lfa])
            refine doneG ?_
            have hXY : ivs (growR il a).1 ++ ivs b = ivs ((growR il a).1 ++ b) := by simp
            have ht2 : List.take (K + K) (ivs ((growR il a).1 ++ b)) = ivs ((growR il a).1 ++ b) := List.take_of_length_le (by simp; omega)
            rw [hXY]
            simp (disch := first | omega | (simp only [avs_len, List.length_cons, List.length_append, List.length_nil, List.length_take, List.length_drop, List.length_map]; omega) | (simp only [cells, scal1, allSz, List.length_cons, List.length_nil, List.length_append, List.length_map, List.all_cons, List.all_nil, avs_len, beq_self_eq_true, Bool.and_self, and_self, or_true, true_or, reduceCtorEq, *]; done) | fail) only [go_sem, Nat.reduceAdd, Nat.reduceSub, Nat.reduceMul, Nat.reduceLT, Nat.reduceLeDiff, Int.reduceToNat, Nat.reduceEqDiff, Nat.reduceBEq, ↓reduceIte, reduceCtorEq, ht2, ↓frz_ivs, chunk]
          · have h2n := h2
            rw [Bool.not_eq_true] at h2
            rw [h2] at s2
            have cr := cr h2
            by_cases h3 : (growR ir (row.drop (row.length / 2))).2 ≤ (growR il (row.take (row.length / 2))).2
            · rw [growR_3 h1n h2n h3]
              rw [hhalf, ← haT, ← hbD] at h3
              rw [hhalf, hifc, ← haT, ← hbD]
              have h3' : (((growR ir b).2 : Nat) : Int) ≤ (((growR il a).2 : Nat) : Int) := by omega
              refine calls_ref04_grow (walk0 300 trivial (fun A eA => ?_))
              simp (disch := first | omega | (simp only [avs_len, List.length_cons, List.length_append, List.length_nil, List.length_take, List.length_drop, List.length_map]; omega) | (simp only [cells, scal1, allSz, List.length_cons, List.length_nil, List.length_append, List.length_map, List.all_cons, List.all_nil, avs_len, beq_self_eq_true, Bool.and_self, and_self, or_true, true_or, reduceCtorEq, *]; done) | fail) only [c_ref04_grow, go_sem, Nat.reduceAdd, Nat.reduceSub, Nat.reduceMul, Nat.reduceLT, Nat.reduceLeDiff, Int.reduceToNat, Nat.reduceEqDiff, Nat.reduceBEq, ↓reduceIte, reduceCtorEq, eA]
              repeat ((first | refine call0 300 trivial trivial (by first | exact c1 | exact c2 | exact s1 | exact s2 | exact cl | exact cr) (by first | exact .inl rfl | exact .inr rfl) (fun A eA => ?_) | refine call1 300 trivial trivial (by first | exact c1 | exact c2 | exact s1 | exact s2 | exact cl | exact cr) (fun A eA => ?_)); simp (disch := first | omega | (simp only [avs_len, List.length_cons, List.length_append, List.length_nil, List.length_take, List.length_drop, List.length_map]; omega) | (simp only [cells, scal1, allSz, List.length_cons, List.length_nil, List.length_append, List.length_map, List.all_cons, List.all_nil, avs_len, beq_self_eq_true, Bool.and_self, and_self, or_true, true_or, reduceCtorEq, *]; done) | fail) only [c_ref04_grow, go_sem, Nat.reduceAdd, Nat.reduceSub, Nat.reduceMul, Nat.reduceLT, Nat.reduceLeDiff, Int.reduceToNat, Nat.reduceEqDiff, Nat.reduceBEq, ↓reduceIte, reduceCtorEq, eA, hcc, z20, q1, q2, hA, hB, ht, List.length_map, Int.toNat_natCast, ↓appK, catCells_ivs, catCells, wr, la, lfb, h3'])
              refine doneG ?_
              have hXY : ivs a ++ ivs (growR ir b).1 = ivs (a ++ (growR ir b).1) := by simp
              have ht2 : List.take (K + K) (ivs (a ++ (growR ir b).1)) = ivs (a ++ (growR ir b).1) := List.take_of_length_le (by simp; omega)
              rw [hXY]
              simp (disch := first | omega | (simp only [avs_len, List.length_cons, List.length_append, List.length_nil, List.length_take, List.length_drop, List.length_map]; omega) | (simp only [cells, scal1, allSz, List.length_cons, List.length_nil, List.length_append, List.length_map, List.all_cons, List.all_nil, avs_len, beq_self_eq_true, Bool.and_self, and_self, or_true, true_or, reduceCtorEq, *]; done) | fail) only [go_sem, Nat.reduceAdd, Nat.reduceSub, Nat.reduceMul, Nat.reduceLT, Nat.reduceLeDiff, Int.reduceToNat, Nat.reduceEqDiff, Nat.reduceBEq, ↓reduceIte, reduceCtorEq, ht2, ↓frz_ivs, chunk]
            · rw [growR_4 h1n h2n h3]
              rw [hhalf, ← haT, ← hbD] at h3
              rw [hhalf, hifc, ← haT, ← hbD]
              have h3' : ¬ (((growR ir b).2 : Nat) : Int) ≤ (((growR il a).2 : Nat) : Int) := by omega
              refine calls_ref04_grow (walk0 300 trivial (fun A eA => ?_))
              simp (disch := first | omega | (simp only [avs_len, List.length_cons, List.length_append, List.length_nil, List.length_take, List.length_drop, List.length_map]; omega) | (simp only [cells, scal1, allSz, List.length_cons, List.length_nil, List.length_append, List.length_map, List.all_cons, List.all_nil, avs_len, beq_self_eq_true, Bool.and_self, and_self, or_true, true_or, reduceCtorEq, *]; done) | fail) only [c_ref04_grow, go_sem, Nat.reduceAdd, Nat.reduceSub, Nat.reduceMul, Nat.reduceLT, Nat.reduceLeDiff, Int.reduceToNat, Nat.reduceEqDiff, Nat.reduceBEq, ↓reduceIte, reduceCtorEq, eA]
              repeat ((first | refine call0 300 trivial trivial (by first | exact c1 | exact c2 | exact s1 | exact s2 | exact cl | exact cr) (by first | exact .inl rfl | exact .inr rfl) (fun A eA => ?_) | refine call1 300 trivial trivial (by first | exact c1 | exact c2 | exact s1 | exact s2 | exact cl | exact cr) (fun A eA => ?_)); simp (disch := first | omega | (simp only [avs_len, List.length_cons, List.length_append, List.length_nil, List.length_take, List.length_drop, List.length_map]; omega) | (simp only [cells, scal1, allSz, List.length_cons, List.length_nil, List.length_append, List.length_map, List.all_cons, List.all_nil, avs_len, beq_self_eq_true, Bool.and_self, and_self, or_true, true_or, reduceCtorEq, *]; done) | fail) only [c_ref04_grow, go_sem, Nat.reduceAdd, Nat.reduceSub, Nat.reduceMul, Nat.reduceLT, Nat.reduceLeDiff, Int.reduceToNat, Nat.reduceEqDiff, Nat.reduceBEq, ↓reduceIte, reduceCtorEq, eA, hcc, z20, q1, q2, hA, hB, ht, List.length_map, Int.toNat_natCast, ↓appK, catCells_ivs, catCells, wl, lb, lfa, h3'])
              refine doneG ?_
              have hXY : ivs (growR il a).1 ++ ivs b = ivs ((growR il a).1 ++ b) := by simp
              have ht2 : List.take (K + K) (ivs ((growR il a).1 ++ b)) = ivs ((growR il a).1 ++ b) := List.take_of_length_le (by simp; omega)
              rw [hXY]
              simp (disch := first | omega | (simp only [avs_len, List.length_cons, List.length_append, List.length_nil, List.length_take, List.length_drop, List.length_map]; omega) | (simp only [cells, scal1, allSz, List.length_cons, List.length_nil, List.length_append, List.length_map, List.all_cons, List.all_nil, avs_len, beq_self_eq_true, Bool.and_self, and_self, or_true, true_or, reduceCtorEq, *]; done) | fail) only [go_sem, Nat.reduceAdd, Nat.reduceSub, Nat.reduceMul, Nat.reduceLT, Nat.reduceLeDiff, Int.reduceToNat, Nat.reduceEqDiff, Nat.reduceBEq, ↓reduceIte, reduceCtorEq, ht2, ↓frz_ivs, chunk]
      · have hcc : ((leastR row : Nat) : Int) = ((mostR row : Nat) : Int) ↔ False := iff_of_false (by omega) id
        have hifc : (if leastR row = mostR row then 1001 else 1) = 1 := if_neg hc
        have wl : IntKind.i64.wrap (1 + (((growR il a).2 : Nat) : Int)) = ((1 + (growR il a).2 : Nat) : Int) := by rw [wrap64 (by omega) (by omega)]; omega
        have wr : IntKind.i64.wrap (1 + (((growR ir b).2 : Nat) : Int)) = ((1 + (growR ir b).2 : Nat) : Int) := by rw [wrap64 (by omega) (by omega)]; omega
        by_cases h1 : il.none = true
        · rw [growR_1 h1, hhalf, hifc, ← haT, ← hbD]
          rw [h1] at s1
          have h2 := short_none his h1
          rw [h2] at s2
          have cr := cr h2
          refine calls_ref04_grow (walk0 300 trivial (fun A eA => ?_))
          simp (disch := first | omega | (simp only [avs_len, List.length_cons, List.length_append, List.length_nil, List.length_take, List.length_drop, List.length_map]; omega) | (simp only [cells, scal1, allSz, List.length_cons, List.length_nil, List.length_append, List.length_map, List.all_cons, List.all_nil, avs_len, beq_self_eq_true, Bool.and_self, and_self, or_true, true_or, reduceCtorEq, *]; done) | fail) only [c_ref04_grow, go_sem, Nat.reduceAdd, Nat.reduceSub, Nat.reduceMul, Nat.reduceLT, Nat.reduceLeDiff, Int.reduceToNat, Nat.reduceEqDiff, Nat.reduceBEq, ↓reduceIte, reduceCtorEq, eA]
          repeat ((first | refine call0 300 trivial trivial (by first | exact c1 | exact c2 | exact s1 | exact s2 | exact cr) (by first | exact .inl rfl | exact .inr rfl) (fun A eA => ?_) | refine call1 300 trivial trivial (by first | exact c1 | exact c2 | exact s1 | exact s2 | exact cr) (fun A eA => ?_)); simp (disch := first | omega | (simp only [avs_len, List.length_cons, List.length_append, List.length_nil, List.length_take, List.length_drop, List.length_map]; omega) | (simp only [cells, scal1, allSz, List.length_cons, List.length_nil, List.length_append, List.length_map, List.all_cons, List.all_nil, avs_len, beq_self_eq_true, Bool.and_self, and_self, or_true, true_or, reduceCtorEq, *]; done) | fail) only [c_ref04_grow, go_sem, Nat.reduceAdd, Nat.reduceSub, Nat.reduceMul, Nat.reduceLT, Nat.reduceLeDiff, Int.reduceToNat, Nat.reduceEqDiff, Nat.reduceBEq, ↓reduceIte, reduceCtorEq, eA, hcc, z20, q1, q2, hA, hB, ht, List.length_map, Int.toNat_natCast, ↓appK, catCells_ivs, catCells, wr, la, lfb])
          refine doneG ?_
          have hXY : ivs a ++ ivs (growR ir b).1 = ivs (a ++ (growR ir b).1) := by simp
          have ht2 : List.take (K + K) (ivs (a ++ (growR ir b).1)) = ivs (a ++ (growR ir b).1) := List.take_of_length_le (by simp; omega)
          rw [hXY]
          simp (disch := first | omega | (simp only [avs_len, List.length_cons, List.length_append, List.length_nil, List.length_take, List.length_drop, List.length_map]; omega) | (simp only [cells, scal1, allSz, List.length_cons, List.length_nil, List.length_append, List.length_map, List.all_cons, List.all_nil, avs_len, beq_self_eq_true, Bool.and_self, and_self, or_true, true_or, reduceCtorEq, *]; done) | fail) only [go_sem, Nat.reduceAdd, Nat.reduceSub, Nat.reduceMul, Nat.reduceLT, Nat.reduceLeDiff, Int.reduceToNat, Nat.reduceEqDiff, Nat.reduceBEq, ↓reduceIte, reduceCtorEq, ht2, ↓frz_ivs, chunk]
        · have h1n := h1
          rw [Bool.not_eq_true] at h1
          rw [h1] at s1
          have cl := cl h1
          by_cases h2 : ir.none = true
          · rw [growR_2 h1n h2, hhalf, hifc, ← haT, ← hbD]
            rw [h2] at s2
            refine calls_ref04_grow (walk0 300 trivial (fun A eA => ?_))
            simp (disch := first | omega | (simp only [avs_len, List.length_cons, List.length_append, List.length_nil, List.length_take, List.length_drop, List.length_map]; omega) | (simp only [cells, scal1, allSz, List.length_cons, List.length_nil, List.length_append, List.length_map, List.all_cons, List.all_nil, avs_len, beq_self_eq_true, Bool.and_self, and_self, or_true, true_or, reduceCtorEq, *]; done) | fail) only [c_ref04_grow, go_sem, Nat.reduceAdd, Nat.reduceSub, Nat.reduceMul, Nat.reduceLT, Nat.reduceLeDiff, Int.reduceToNat, Nat.reduceEqDiff, Nat.reduceBEq, ↓reduceIte, reduceCtorEq, eA]
            repeat ((first | refine call0 300 trivial trivial (by first | exact c1 | exact c2 | exact s1 | exact s2 | exact cl) (by first | exact .inl rfl | exact .inr rfl) (fun A eA => ?_) | refine call1 300 trivial trivial (by first | exact c1 | exact c2 | exact s1 | exact s2 | exact cl) (fun A eA => ?_)); simp (disch := first | omega | (simp only [avs_len, List.length_cons, List.length_append, List.length_nil, List.length_take, List.length_drop, List.length_map]; omega) | (simp only [cells, scal1, allSz, List.length_cons, List.length_nil, List.length_append, List.length_map, List.all_cons, List.all_nil, avs_len, beq_self_eq_true, Bool.and_self, and_self, or_true, true_or, reduceCtorEq, *]; done) | fail) only [c_ref04_grow, go_sem, Nat.reduceAdd, Nat.reduceSub, Nat.reduceMul, Nat.reduceLT, Nat.reduceLeDiff, Int.reduceToNat, Nat.reduceEqDiff, Nat.reduceBEq, ↓reduceIte, reduceCtorEq, eA, hcc, z20, q1, q2, hA, hB, ht, List.length_map, Int.toNat_natCast, ↓appK, catCells_ivs, catCells, wl, lb, lfa])
            refine doneG ?_
            have hXY : ivs (growR il a).1 ++ ivs b = ivs ((growR il a).1 ++ b) := by simp
            have ht2 : List.take (K + K) (ivs ((growR il a).1 ++ b)) = ivs ((growR il a).1 ++ b) := List.take_of_length_le (by simp; omega)
            rw [hXY]
            simp (disch := first | omega | (simp only [avs_len, List.length_cons, List.length_append, List.length_nil, List.length_take, List.length_drop, List.length_map]; omega) | (simp only [cells, scal1, allSz, List.length_cons, List.length_nil, List.length_append, List.length_map, List.all_cons, List.all_nil, avs_len, beq_self_eq_true, Bool.and_self, and_self, or_true, true_or, reduceCtorEq, *]; done) | fail) only [go_sem, Nat.reduceAdd, Nat.reduceSub, Nat.reduceMul, Nat.reduceLT, Nat.reduceLeDiff, Int.reduceToNat, Nat.reduceEqDiff, Nat.reduceBEq, ↓reduceIte, reduceCtorEq, ht2, ↓frz_ivs, chunk]
          · have h2n := h2
            rw [Bool.not_eq_true] at h2
            rw [h2] at s2
            have cr := cr h2
            by_cases h3 : (growR ir (row.drop (row.length / 2))).2 ≤ (growR il (row.take (row.length / 2))).2
            · rw [growR_3 h1n h2n h3]
              rw [hhalf, ← haT, ← hbD] at h3
              rw [hhalf, hifc, ← haT, ← hbD]
              have h3' : (((growR ir b).2 : Nat) : Int) ≤ (((growR il a).2 : Nat) : Int) := by omega
              refine calls_ref04_grow (walk0 300 trivial (fun A eA => ?_))
              simp (disch := first | omega | (simp only [avs_len, List.length_cons, List.length_append, List.length_nil, List.length_take, List.length_drop, List.length_map]; omega) | (simp only [cells, scal1, allSz, List.length_cons, List.length_nil, List.length_append, List.length_map, List.all_cons, List.all_nil, avs_len, beq_self_eq_true, Bool.and_self, and_self, or_true, true_or, reduceCtorEq, *]; done) | fail) only [c_ref04_grow, go_sem, Nat.reduceAdd, Nat.reduceSub, Nat.reduceMul, Nat.reduceLT, Nat.reduceLeDiff, Int.reduceToNat, Nat.reduceEqDiff, Nat.reduceBEq, ↓reduceIte, reduceCtorEq, eA]
              repeat ((first | refine call0 300 trivial trivial (by first | exact c1 | exact c2 | exact s1 | exact s2 | exact cl | exact cr) (by first | exact .inl rfl | exact .inr rfl) (fun A eA => ?_) | refine call1 300 trivial trivial (by first | exact c1 | exact c2 | exact s1 | exact s2 | exact cl | exact cr) (fun A eA => ?_)); simp (disch := first | omega | (simp only [avs_len, List.length_cons, List.length_append, List.length_nil, List.length_take, List.length_drop, List.length_map]; omega) | (simp only [cells, scal1, allSz, List.length_cons, List.length_nil, List.length_append, List.length_map, List.all_cons, List.all_nil, avs_len, beq_self_eq_true, Bool.and_self, and_self, or_true, true_or, reduceCtorEq, *]; done) | fail) only [c_ref04_grow, go_sem, Nat.reduceAdd, Nat.reduceSub, Nat.reduceMul, Nat.reduceLT, Nat.reduceLeDiff, Int.reduceToNat, Nat.reduceEqDiff, Nat.reduceBEq, ↓reduceIte, reduceCtorEq, eA, hcc, z20, q1, q2, hA, hB, ht, List.length_map, Int.toNat_natCast, ↓appK, catCells_ivs, catCells, wr, la, lfb, h3'])
              refine doneG ?_
              have hXY : ivs a ++ ivs (growR ir b).1 = ivs (a ++ (growR ir b).1) := by simp
              have ht2 : List.take (K + K) (ivs (a ++ (growR ir b).1)) = ivs (a ++ (growR ir b).1) := List.take_of_length_le (by simp; omega)
              rw [hXY]
              simp (disch := first | omega | (simp only [avs_len, List.length_cons, List.length_append, List.length_nil, List.length_take, List.length_drop, List.length_map]; omega) | (simp only [cells, scal1, allSz, List.length_cons, List.length_nil, List.length_append, List.length_map, List.all_cons, List.all_nil, avs_len, beq_self_eq_true, Bool.and_self, and_self, or_true, true_or, reduceCtorEq, *]; done) | fail) only [go_sem, Nat.reduceAdd, Nat.reduceSub, Nat.reduceMul, Nat.reduceLT, Nat.reduceLeDiff, Int.reduceToNat, Nat.reduceEqDiff, Nat.reduceBEq, ↓reduceIte, reduceCtorEq, ht2, ↓frz_ivs, chunk]
            · rw [growR_4 h1n h2n h3]
              rw [hhalf, ← haT, ← hbD] at h3
              rw [hhalf, hifc, ← haT, ← hbD]
              have h3' : ¬ (((growR ir b).2 : Nat) : Int) ≤ (((growR il a).2 : Nat) : Int) := by omega
              refine calls_ref04_grow (walk0 300 trivial (fun A eA => ?_))
              simp (disch := first | omega | (simp only [avs_len, List.length_cons, List.length_append, List.length_nil, List.length_take, List.length_drop, List.length_map]; omega) | (simp only [cells, scal1, allSz, List.length_cons, List.length_nil, List.length_append, List.length_map, List.all_cons, List.all_nil, avs_len, beq_self_eq_true, Bool.and_self, and_self, or_true, true_or, reduceCtorEq, *]; done) | fail) only [c_ref04_grow, go_sem, Nat.reduceAdd, Nat.reduceSub, Nat.reduceMul, Nat.reduceLT, Nat.reduceLeDiff, Int.reduceToNat, Nat.reduceEqDiff, Nat.reduceBEq, ↓reduceIte, reduceCtorEq, eA]
              repeat ((first | refine call0 300 trivial trivial (by first | exact c1 | exact c2 | exact s1 | exact s2 | exact cl | exact cr) (by first | exact .inl rfl | exact .inr rfl) (fun A eA => ?_) | refine call1 300 trivial trivial (by first | exact c1 | exact c2 | exact s1 | exact s2 | exact cl | exact cr) (fun A eA => ?_)); simp (disch := first | omega | (simp only [avs_len, List.length_cons, List.length_append, List.length_nil, List.length_take, List.length_drop, List.length_map]; omega) | (simp only [cells, scal1, allSz, List.length_cons, List.length_nil, List.length_append, List.length_map, List.all_cons, List.all_nil, avs_len, beq_self_eq_true, Bool.and_self, and_self, or_true, true_or, reduceCtorEq, *]; done) | fail) only [c_ref04_grow, go_sem, Nat.reduceAdd, Nat.reduceSub, Nat.reduceMul, Nat.reduceLT, Nat.reduceLeDiff, Int.reduceToNat, Nat.reduceEqDiff, Nat.reduceBEq, ↓reduceIte, reduceCtorEq, eA, hcc, z20, q1, q2, hA, hB, ht, List.length_map, Int.toNat_natCast, ↓appK, catCells_ivs, catCells, wl, lb, lfa, h3'])
              refine doneG ?_
              have hXY : ivs (growR il a).1 ++ ivs b = ivs ((growR il a).1 ++ b) := by simp
              have ht2 : List.take (K + K) (ivs ((growR il a).1 ++ b)) = ivs ((growR il a).1 ++ b) := List.take_of_length_le (by simp; omega)
              rw [hXY]
              simp (disch := first | omega | (simp only [avs_len, List.length_cons, List.length_append, List.length_nil, List.length_take, List.length_drop, List.length_map]; omega) | (simp only [cells, scal1, allSz, List.length_cons, List.length_nil, List.length_append, List.length_map, List.all_cons, List.all_nil, avs_len, beq_self_eq_true, Bool.and_self, and_self, or_true, true_or, reduceCtorEq, *]; done) | fail) only [go_sem, Nat.reduceAdd, Nat.reduceSub, Nat.reduceMul, Nat.reduceLT, Nat.reduceLeDiff, Int.reduceToNat, Nat.reduceEqDiff, Nat.reduceBEq, ↓reduceIte, reduceCtorEq, ht2, ↓frz_ivs, chunk]
end Go.Proofs.Ytmokhopjnjecbab
/- The walks through Tell: the program's and the reference's. -/
-- short
-- fuel 300
namespace Go.Proofs.Ytmokhopjnjecbab
open Go.Ev
set_option linter.unusedVariables false
set_option linter.unusedSimpArgs false
set_option maxRecDepth 100000
set_option maxHeartbeats 3200000

open Classical in
noncomputable def tellE (i : B) (e : E) : E := if fillE i e = e then (growE i e).1 else fillE i e
theorem xTell_no (t : Tree) (a : ET) (h : ¬ (Rt t ∧ ¬ (t.ps.length = 0 ∧ t.one = false) ∧ XRt a)) : PCalls Try.prog F_event_Tell [tv t, xtv a] (.tup [xtv (.mk 0 []), .int .i64 1]) := by
  have c1 := right_calls t
  have c2 := nothing_calls t
  have c3 := xright_calls a
  by_cases h1 : Rt t
  · rw [rtb_true.2 h1] at c1
    by_cases h2 : t.ps.length = 0 ∧ t.one = false
    · rw [show (decide (t.ps.length = 0) && !t.one) = true by simp [h2.1, h2.2]] at c2
      refine calls_event_Tell (walk0 300 trivial (fun A eA => ?_))
      simp (disch := first | omega | (simp only [avs_len, List.length_cons, List.length_append, List.length_nil, List.length_take, List.length_drop, List.length_map]; omega) | (simp only [cells, scal1, allSz, List.length_cons, List.length_nil, List.length_append, List.length_map, List.all_cons, List.all_nil, avs_len, beq_self_eq_true, Bool.and_self, and_self, or_true, true_or, reduceCtorEq, *]; done) | fail) only [c_event_Tell, go_sem, Nat.reduceAdd, Nat.reduceSub, Nat.reduceMul, Nat.reduceLT, Nat.reduceLeDiff, Int.reduceToNat, Nat.reduceEqDiff, Nat.reduceBEq, ↓reduceIte, reduceCtorEq, eA]
      repeat ((first | refine call0 300 trivial trivial (by first | exact c1 | exact c2 | exact c3) (by first | exact .inl rfl | exact .inr rfl) (fun A eA => ?_) | refine call1 300 trivial trivial (by first | exact c1 | exact c2 | exact c3) (fun A eA => ?_)); simp (disch := first | omega | (simp only [avs_len, List.length_cons, List.length_append, List.length_nil, List.length_take, List.length_drop, List.length_map]; omega) | (simp only [cells, scal1, allSz, List.length_cons, List.length_nil, List.length_append, List.length_map, List.all_cons, List.all_nil, avs_len, beq_self_eq_true, Bool.and_self, and_self, or_true, true_or, reduceCtorEq, *]; done) | fail) only [c_event_Tell, go_sem, Nat.reduceAdd, Nat.reduceSub, Nat.reduceMul, Nat.reduceLT, Nat.reduceLeDiff, Int.reduceToNat, Nat.reduceEqDiff, Nat.reduceBEq, ↓reduceIte, reduceCtorEq, eA])
      exact doneW rfl (xwk_pair 1)
    · rw [show (decide (t.ps.length = 0) && !t.one) = false by cases ho : t.one <;> simp_all] at c2
      have h3 : ¬ XRt a := fun q => h ⟨h1, h2, q⟩
      rw [xrtb_no h3] at c3
      refine calls_event_Tell (walk0 300 trivial (fun A eA => ?_))
      simp (disch := first | omega | (simp only [avs_len, List.length_cons, List.length_append, List.length_nil, List.length_take, List.length_drop, List.length_map]; omega) | (simp only [cells, scal1, allSz, List.length_cons, List.length_nil, List.length_append, List.length_map, List.all_cons, List.all_nil, avs_len, beq_self_eq_true, Bool.and_self, and_self, or_true, true_or, reduceCtorEq, *]; done) | fail) only [c_event_Tell, go_sem, Nat.reduceAdd, Nat.reduceSub, Nat.reduceMul, Nat.reduceLT, Nat.reduceLeDiff, Int.reduceToNat, Nat.reduceEqDiff, Nat.reduceBEq, ↓reduceIte, reduceCtorEq, eA]
      repeat ((first | refine call0 300 trivial trivial (by first | exact c1 | exact c2 | exact c3) (by first | exact .inl rfl | exact .inr rfl) (fun A eA => ?_) | refine call1 300 trivial trivial (by first | exact c1 | exact c2 | exact c3) (fun A eA => ?_)); simp (disch := first | omega | (simp only [avs_len, List.length_cons, List.length_append, List.length_nil, List.length_take, List.length_drop, List.length_map]; omega) | (simp only [cells, scal1, allSz, List.length_cons, List.length_nil, List.length_append, List.length_map, List.all_cons, List.all_nil, avs_len, beq_self_eq_true, Bool.and_self, and_self, or_true, true_or, reduceCtorEq, *]; done) | fail) only [c_event_Tell, go_sem, Nat.reduceAdd, Nat.reduceSub, Nat.reduceMul, Nat.reduceLT, Nat.reduceLeDiff, Int.reduceToNat, Nat.reduceEqDiff, Nat.reduceBEq, ↓reduceIte, reduceCtorEq, eA])
      exact doneW rfl (xwk_pair 1)
  · rw [show rtb t = false by rw [Bool.eq_false_iff, ne_eq, rtb_true]; exact h1] at c1
    refine calls_event_Tell (walk0 300 trivial (fun A eA => ?_))
    simp (disch := first | omega | (simp only [avs_len, List.length_cons, List.length_append, List.length_nil, List.length_take, List.length_drop, List.length_map]; omega) | (simp only [cells, scal1, allSz, List.length_cons, List.length_nil, List.length_append, List.length_map, List.all_cons, List.all_nil, avs_len, beq_self_eq_true, Bool.and_self, and_self, or_true, true_or, reduceCtorEq, *]; done) | fail) only [c_event_Tell, go_sem, Nat.reduceAdd, Nat.reduceSub, Nat.reduceMul, Nat.reduceLT, Nat.reduceLeDiff, Int.reduceToNat, Nat.reduceEqDiff, Nat.reduceBEq, ↓reduceIte, reduceCtorEq, eA]
    repeat ((first | refine call0 300 trivial trivial (by first | exact c1 | exact c2 | exact c3) (by first | exact .inl rfl | exact .inr rfl) (fun A eA => ?_) | refine call1 300 trivial trivial (by first | exact c1 | exact c2 | exact c3) (fun A eA => ?_)); simp (disch := first | omega | (simp only [avs_len, List.length_cons, List.length_append, List.length_nil, List.length_take, List.length_drop, List.length_map]; omega) | (simp only [cells, scal1, allSz, List.length_cons, List.length_nil, List.length_append, List.length_map, List.all_cons, List.all_nil, avs_len, beq_self_eq_true, Bool.and_self, and_self, or_true, true_or, reduceCtorEq, *]; done) | fail) only [c_event_Tell, go_sem, Nat.reduceAdd, Nat.reduceSub, Nat.reduceMul, Nat.reduceLT, Nat.reduceLeDiff, Int.reduceToNat, Nat.reduceEqDiff, Nat.reduceBEq, ↓reduceIte, reduceCtorEq, eA])
    exact doneW rfl (xwk_pair 1)
theorem xTell_calls (i : B) (e : E) (hi : Rt i.t) (hd : i.dep ≤ 8) (hn : i.none = false) (he : XRt e.t) {r : ET} {c : Nat} (hj : (XRt (tellE i e).t ∧ r = (tellE i e).t ∧ c = 0) ∨ (¬ XRt (tellE i e).t ∧ r = .mk 0 [] ∧ c = 9)) : PCalls Try.prog F_event_Tell [tv i.t, xtv e.t] (.tup [xtv r, .int .i64 (c : Nat)]) := by
  obtain ⟨x, hx, x1, x2, x3, x4⟩ := id he
  obtain rfl := E.inj hx
  have c1 := right_calls i.t
  rw [rtb_true.2 hi] at c1
  have c2 := nothing_b i
  rw [hn] at c2
  have c3 := xright_calls e.t
  rw [xrtb_true.2 he] at c3
  have ht := E.top_small x4
  have ht2 : e.dep * 1099511627776 ≤ 8 * 1099511627776 := Nat.mul_le_mul_right _ x1
  have c4 := xfill_calls i e (by omega)
  have c5 := xgrow_calls 8 i e (by omega) hd (by omega)
  have hfn : (fillE i e).dep ≤ 8 := Nat.le_trans (fillE_dep i e) x1
  have c6 := xSame4_calls (fillE i e).t e.t (by
    rw [E.t_size]
    have : ∀ (b : E) (d : Nat), b.dep ≤ d → b.nodes < 2 ^ d := by
      intro b
      induction b with
      | lf n => intro d h; simp only [E.dep] at h; simp only [E.nodes]; exact Nat.lt_of_lt_of_le (by omega) (Nat.pow_le_pow_right (n := 2) (by omega) h)
      | nd n l r ihl ihr =>
        intro d h
        simp only [E.dep] at h
        match d with
        | 0 => omega
        | d + 1 =>
          have a := ihl d (by omega)
          have b := ihr d (by omega)
          simp only [E.nodes, Nat.pow_succ]; omega
    have := this (fillE i e) 8 hfn
    omega)
  have es : xsm 8 (fillE i e).t e.t = true ↔ fillE i e = e := by
    rw [xsm_iff]
    constructor
    · rintro ⟨q, _⟩; exact E.inj q
    · intro q; exact ⟨by rw [q], (xflat_dep 8 _).2 hfn⟩
  refine calls_event_Tell (walk0 300 trivial (fun A eA => ?_))
  by_cases h : fillE i e = e
  · have ht : tellE i e = (growE i e).1 := if_pos h
    rw [ht] at hj
    rw [es.2 h] at c6
    rcases hj with ⟨h1, rfl, rfl⟩ | ⟨h1, rfl, rfl⟩
    · have c7 := xtold_yes h1
      simp (disch := first | omega | (simp only [avs_len, List.length_cons, List.length_append, List.length_nil, List.length_take, List.length_drop, List.length_map]; omega) | (simp only [cells, scal1, allSz, List.length_cons, List.length_nil, List.length_append, List.length_map, List.all_cons, List.all_nil, avs_len, beq_self_eq_true, Bool.and_self, and_self, or_true, true_or, reduceCtorEq, *]; done) | fail) only [c_event_Tell, go_sem, Nat.reduceAdd, Nat.reduceSub, Nat.reduceMul, Nat.reduceLT, Nat.reduceLeDiff, Int.reduceToNat, Nat.reduceEqDiff, Nat.reduceBEq, ↓reduceIte, reduceCtorEq, eA]
      repeat ((first | refine call0 300 trivial trivial (by first | exact c1 | exact c2 | exact c3 | exact c4 | exact c5 | exact c6 | exact c7) (by first | exact .inl rfl | exact .inr rfl) (fun A eA => ?_) | refine call1 300 trivial trivial (by first | exact c1 | exact c2 | exact c3 | exact c4 | exact c5 | exact c6 | exact c7) (fun A eA => ?_)); simp (disch := first | omega | (simp only [avs_len, List.length_cons, List.length_append, List.length_nil, List.length_take, List.length_drop, List.length_map]; omega) | (simp only [cells, scal1, allSz, List.length_cons, List.length_nil, List.length_append, List.length_map, List.all_cons, List.all_nil, avs_len, beq_self_eq_true, Bool.and_self, and_self, or_true, true_or, reduceCtorEq, *]; done) | fail) only [c_event_Tell, go_sem, Nat.reduceAdd, Nat.reduceSub, Nat.reduceMul, Nat.reduceLT, Nat.reduceLeDiff, Int.reduceToNat, Nat.reduceEqDiff, Nat.reduceBEq, ↓reduceIte, reduceCtorEq, eA])
      exact doneG rfl
    · have c7 := xtold_no h1
      simp (disch := first | omega | (simp only [avs_len, List.length_cons, List.length_append, List.length_nil, List.length_take, List.length_drop, List.length_map]; omega) | (simp only [cells, scal1, allSz, List.length_cons, List.length_nil, List.length_append, List.length_map, List.all_cons, List.all_nil, avs_len, beq_self_eq_true, Bool.and_self, and_self, or_true, true_or, reduceCtorEq, *]; done) | fail) only [c_event_Tell, go_sem, Nat.reduceAdd, Nat.reduceSub, Nat.reduceMul, Nat.reduceLT, Nat.reduceLeDiff, Int.reduceToNat, Nat.reduceEqDiff, Nat.reduceBEq, ↓reduceIte, reduceCtorEq, eA]
      repeat ((first | refine call0 300 trivial trivial (by first | exact c1 | exact c2 | exact c3 | exact c4 | exact c5 | exact c6 | exact c7) (by first | exact .inl rfl | exact .inr rfl) (fun A eA => ?_) | refine call1 300 trivial trivial (by first | exact c1 | exact c2 | exact c3 | exact c4 | exact c5 | exact c6 | exact c7) (fun A eA => ?_)); simp (disch := first | omega | (simp only [avs_len, List.length_cons, List.length_append, List.length_nil, List.length_take, List.length_drop, List.length_map]; omega) | (simp only [cells, scal1, allSz, List.length_cons, List.length_nil, List.length_append, List.length_map, List.all_cons, List.all_nil, avs_len, beq_self_eq_true, Bool.and_self, and_self, or_true, true_or, reduceCtorEq, *]; done) | fail) only [c_event_Tell, go_sem, Nat.reduceAdd, Nat.reduceSub, Nat.reduceMul, Nat.reduceLT, Nat.reduceLeDiff, Int.reduceToNat, Nat.reduceEqDiff, Nat.reduceBEq, ↓reduceIte, reduceCtorEq, eA])
      exact doneG rfl
  · have ht : tellE i e = fillE i e := if_neg h
    rw [ht] at hj
    rw [show xsm 8 (fillE i e).t e.t = false by rw [Bool.eq_false_iff, ne_eq, es]; exact h] at c6
    rcases hj with ⟨h1, rfl, rfl⟩ | ⟨h1, rfl, rfl⟩
    · have c7 := xtold_yes h1
      simp (disch := first | omega | (simp only [avs_len, List.length_cons, List.length_append, List.length_nil, List.length_take, List.length_drop, List.length_map]; omega) | (simp only [cells, scal1, allSz, List.length_cons, List.length_nil, List.length_append, List.length_map, List.all_cons, List.all_nil, avs_len, beq_self_eq_true, Bool.and_self, and_self, or_true, true_or, reduceCtorEq, *]; done) | fail) only [c_event_Tell, go_sem, Nat.reduceAdd, Nat.reduceSub, Nat.reduceMul, Nat.reduceLT, Nat.reduceLeDiff, Int.reduceToNat, Nat.reduceEqDiff, Nat.reduceBEq, ↓reduceIte, reduceCtorEq, eA]
      repeat ((first | refine call0 300 trivial trivial (by first | exact c1 | exact c2 | exact c3 | exact c4 | exact c6 | exact c7) (by first | exact .inl rfl | exact .inr rfl) (fun A eA => ?_) | refine call1 300 trivial trivial (by first | exact c1 | exact c2 | exact c3 | exact c4 | exact c6 | exact c7) (fun A eA => ?_)); simp (disch := first | omega | (simp only [avs_len, List.length_cons, List.length_append, List.length_nil, List.length_take, List.length_drop, List.length_map]; omega) | (simp only [cells, scal1, allSz, List.length_cons, List.length_nil, List.length_append, List.length_map, List.all_cons, List.all_nil, avs_len, beq_self_eq_true, Bool.and_self, and_self, or_true, true_or, reduceCtorEq, *]; done) | fail) only [c_event_Tell, go_sem, Nat.reduceAdd, Nat.reduceSub, Nat.reduceMul, Nat.reduceLT, Nat.reduceLeDiff, Int.reduceToNat, Nat.reduceEqDiff, Nat.reduceBEq, ↓reduceIte, reduceCtorEq, eA])
      exact doneG rfl
    · have c7 := xtold_no h1
      simp (disch := first | omega | (simp only [avs_len, List.length_cons, List.length_append, List.length_nil, List.length_take, List.length_drop, List.length_map]; omega) | (simp only [cells, scal1, allSz, List.length_cons, List.length_nil, List.length_append, List.length_map, List.all_cons, List.all_nil, avs_len, beq_self_eq_true, Bool.and_self, and_self, or_true, true_or, reduceCtorEq, *]; done) | fail) only [c_event_Tell, go_sem, Nat.reduceAdd, Nat.reduceSub, Nat.reduceMul, Nat.reduceLT, Nat.reduceLeDiff, Int.reduceToNat, Nat.reduceEqDiff, Nat.reduceBEq, ↓reduceIte, reduceCtorEq, eA]
      repeat ((first | refine call0 300 trivial trivial (by first | exact c1 | exact c2 | exact c3 | exact c4 | exact c6 | exact c7) (by first | exact .inl rfl | exact .inr rfl) (fun A eA => ?_) | refine call1 300 trivial trivial (by first | exact c1 | exact c2 | exact c3 | exact c4 | exact c6 | exact c7) (fun A eA => ?_)); simp (disch := first | omega | (simp only [avs_len, List.length_cons, List.length_append, List.length_nil, List.length_take, List.length_drop, List.length_map]; omega) | (simp only [cells, scal1, allSz, List.length_cons, List.length_nil, List.length_append, List.length_map, List.all_cons, List.all_nil, avs_len, beq_self_eq_true, Bool.and_self, and_self, or_true, true_or, reduceCtorEq, *]; done) | fail) only [c_event_Tell, go_sem, Nat.reduceAdd, Nat.reduceSub, Nat.reduceMul, Nat.reduceLT, Nat.reduceLeDiff, Int.reduceToNat, Nat.reduceEqDiff, Nat.reduceBEq, ↓reduceIte, reduceCtorEq, eA])
      exact doneG rfl
/-- A row behind one more. -/
def tellR (i : B) (row : List Nat) : List Nat := if fillR i row = row then (growR i row).1 else fillR i row
theorem refTell_calls (i : B) (row : List Nat) (hs : i.short = true) (hd : i.dep ≤ 8) (hn : i.none = false) (hl : row.length = 128) (hx : ∀ x ∈ row, x < 2 ^ 60) : PCalls Try.prog F_ref04_Tell [tv i.t, .fz 1 (ivs row) none] (.fz 1 (ivs (tellR i row)) none) := by
  have c1 := refFill_calls 7 i row (by omega) hd hl
  have c2 := refEqual_calls (fillR i row) row (fillR_len i row ⟨7, hl, hd⟩) (by rw [fillR_len i row ⟨7, hl, hd⟩]; omega)
  have c3 := refGrow_calls 7 i row (by omega) hs hd hn hl hx
  have he := eqR_true (fillR_len i row ⟨7, hl, hd⟩)
  unfold tellR
  refine calls_ref04_Tell (walk0 300 trivial (fun A eA => ?_))
  by_cases h : fillR i row = row
  · rw [if_pos h]
    rw [he.2 h] at c2
    simp (disch := first | omega | (simp only [avs_len, List.length_cons, List.length_append, List.length_nil, List.length_take, List.length_drop, List.length_map]; omega) | (simp only [cells, scal1, allSz, List.length_cons, List.length_nil, List.length_append, List.length_map, List.all_cons, List.all_nil, avs_len, beq_self_eq_true, Bool.and_self, and_self, or_true, true_or, reduceCtorEq, *]; done) | fail) only [c_ref04_Tell, go_sem, Nat.reduceAdd, Nat.reduceSub, Nat.reduceMul, Nat.reduceLT, Nat.reduceLeDiff, Int.reduceToNat, Nat.reduceEqDiff, Nat.reduceBEq, ↓reduceIte, reduceCtorEq, eA]
    repeat ((first | refine call0 300 trivial trivial (by first | exact c1 | exact c2 | exact c3) (by first | exact .inl rfl | exact .inr rfl) (fun A eA => ?_) | refine call1 300 trivial trivial (by first | exact c1 | exact c2 | exact c3) (fun A eA => ?_)); simp (disch := first | omega | (simp only [avs_len, List.length_cons, List.length_append, List.length_nil, List.length_take, List.length_drop, List.length_map]; omega) | (simp only [cells, scal1, allSz, List.length_cons, List.length_nil, List.length_append, List.length_map, List.all_cons, List.all_nil, avs_len, beq_self_eq_true, Bool.and_self, and_self, or_true, true_or, reduceCtorEq, *]; done) | fail) only [c_ref04_Tell, go_sem, Nat.reduceAdd, Nat.reduceSub, Nat.reduceMul, Nat.reduceLT, Nat.reduceLeDiff, Int.reduceToNat, Nat.reduceEqDiff, Nat.reduceBEq, ↓reduceIte, reduceCtorEq, eA])
    exact doneG rfl
  · rw [if_neg h]
    rw [show eqR (fillR i row) row = false by rw [Bool.eq_false_iff, ne_eq, he]; exact h] at c2
    simp (disch := first | omega | (simp only [avs_len, List.length_cons, List.length_append, List.length_nil, List.length_take, List.length_drop, List.length_map]; omega) | (simp only [cells, scal1, allSz, List.length_cons, List.length_nil, List.length_append, List.length_map, List.all_cons, List.all_nil, avs_len, beq_self_eq_true, Bool.and_self, and_self, or_true, true_or, reduceCtorEq, *]; done) | fail) only [c_ref04_Tell, go_sem, Nat.reduceAdd, Nat.reduceSub, Nat.reduceMul, Nat.reduceLT, Nat.reduceLeDiff, Int.reduceToNat, Nat.reduceEqDiff, Nat.reduceBEq, ↓reduceIte, reduceCtorEq, eA]
    repeat ((first | refine call0 300 trivial trivial (by first | exact c1 | exact c2) (by first | exact .inl rfl | exact .inr rfl) (fun A eA => ?_) | refine call1 300 trivial trivial (by first | exact c1 | exact c2) (fun A eA => ?_)); simp (disch := first | omega | (simp only [avs_len, List.length_cons, List.length_append, List.length_nil, List.length_take, List.length_drop, List.length_map]; omega) | (simp only [cells, scal1, allSz, List.length_cons, List.length_nil, List.length_append, List.length_map, List.all_cons, List.all_nil, avs_len, beq_self_eq_true, Bool.and_self, and_self, or_true, true_or, reduceCtorEq, *]; done) | fail) only [c_ref04_Tell, go_sem, Nat.reduceAdd, Nat.reduceSub, Nat.reduceMul, Nat.reduceLT, Nat.reduceLeDiff, Int.reduceToNat, Nat.reduceEqDiff, Nat.reduceBEq, ↓reduceIte, reduceCtorEq, eA])
    exact doneG rfl
/-- The two are alike. -/
theorem tell_rows (i : B) (e : E) (his : i.short = true) (hd : i.dep ≤ 8) (hn : i.none = false) (hs : e.short = true) (he : e.dep ≤ 8) : rowE 7 (tellE i e) = tellR i (rowE 7 e) ∧ (tellE i e).short = true ∧ (tellE i e).dep ≤ 8 ∧ upR (rowsG 7 i) (rowE 7 e) (tellR i (rowE 7 e)) = true ∧ tellR i (rowE 7 e) ≠ rowE 7 e := by
  have hr := fill_rows 7 i e hd hs he
  have hiff : fillE i e = e ↔ fillR i (rowE 7 e) = rowE 7 e := by
    constructor
    · intro q; rw [← hr, q]
    · intro q
      have a := treeE_row 7 (fillE i e) (fillE_short i e hs) (Nat.le_trans (fillE_dep i e) he)
      rw [hr, q, treeE_row 7 e hs he] at a
      exact a.symm
  by_cases h : fillE i e = e
  · have h2 := hiff.1 h
    have hf := fill_flat 7 i (rowE 7 e) (rowE_len 7 e) hd h2
    have g := grow_rows 7 i e his hd hn hs he hf
    have u := grow_up 7 i (rowE 7 e) (rowE_len 7 e) his hd hn hf
    rw [show tellE i e = (growE i e).1 from if_pos h, show tellR i (rowE 7 e) = (growR i (rowE 7 e)).1 from if_pos h2]
    exact ⟨g.1, growE_short i e hs, growE_dep 7 i e hd he, u.1, u.2.1⟩
  · have h2 := fun q => h (hiff.2 q)
    rw [show tellE i e = fillE i e from if_neg h, show tellR i (rowE 7 e) = fillR i (rowE 7 e) from if_neg h2]
    exact ⟨hr, fillE_short i e hs, Nat.le_trans (fillE_dep i e) he, fill_up 7 i _ (rowE_len 7 e) hd, h2⟩
end Go.Proofs.Ytmokhopjnjecbab
/- The walk through the reference's functions on identities. -/
-- short
namespace Go.Proofs.Ytmokhopjnjecbab
open Go.Ev
set_option linter.unusedVariables false
set_option linter.unusedSimpArgs false
set_option maxRecDepth 100000
variable {R : List AV → Heap → Ctr → Prop} {k : List It} {H : Heap} {nx : Ctr} {φ : Nat}

theorem deep_loop (d : Nat) (hd : d < 1000) (ihd : ∀ t : Tree, t.size < 2 ^ 60 → PCalls Try.prog F_ref04_Deep [tv t, .int .i64 (d : Nat)] (.int .i64 (deep d t : Nat))) (a : Tree) (hs : a.size < 2 ^ 60) : ∀ (post pre : List Tree), a.ps = pre ++ post → ∀ (n : Nat) (nx : Ctr), n ≤ 2000 →
    RunsX Try.prog 0 (Gives [.t 4] (.int .i64 ((deepL (deep d) n post + 1 : Nat) : Int))) (i_ref04_Deep_0 ++ [.c c_ref04_Deep_k0]) (s_ref04_Deep_0 (.int .i64 ((d + 1 : Nat) : Int)) (.ro [.bool a.one, .fz 2 (tavs a.ps) none]) (.int .i64 (n : Nat)) (.int .i64 (a.ps.length : Nat)) (.int .i64 (pre.length : Nat))) [] nx := by
  have hls := len_size a
  intro post
  induction post with
  | nil =>
    intro pre h1 n nx hn
    have h5 : a.ps.length = pre.length := by rw [h1]; simp
    have w1 : IntKind.i64.wrap ((n : Int) + 1) = ((n + 1 : Nat) : Int) := by rw [IntKind.wrap_i64]; omega
    refine round (its := [.blk 0 wb_ref04_Deep_0]) (k0 := [.c c_ref04_Deep_k0]) 100 trivial trivial (fun A eA => ?_)
    simp (disch := first | omega | (simp only [avs_len, List.length_cons, List.length_append, List.length_nil, List.length_take, List.length_drop, List.length_map]; omega) | (simp only [cells, scal1, allSz, List.length_cons, List.length_nil, List.length_append, List.length_map, List.all_cons, List.all_nil, avs_len, beq_self_eq_true, Bool.and_self, and_self, or_true, true_or, reduceCtorEq, *]; done) | fail) only [c_ref04_Deep, wl_ref04_Deep_0, s_ref04_Deep_0, c_ref04_Deep_l0, wb_ref04_Deep_0, c_ref04_Deep_k0, go_sem, Nat.reduceAdd, Nat.reduceSub, Nat.reduceMul, Nat.reduceLT, Nat.reduceLeDiff, Int.reduceToNat, Nat.reduceEqDiff, Nat.reduceBEq, ↓reduceIte, reduceCtorEq, eA]
    refine walk0 (its := [.c c_ref04_Deep_k0]) 100 trivial (fun A eA => ?_)
    simp (disch := first | omega | (simp only [avs_len, List.length_cons, List.length_append, List.length_nil, List.length_take, List.length_drop, List.length_map]; omega) | (simp only [cells, scal1, allSz, List.length_cons, List.length_nil, List.length_append, List.length_map, List.all_cons, List.all_nil, avs_len, beq_self_eq_true, Bool.and_self, and_self, or_true, true_or, reduceCtorEq, *]; done) | fail) only [c_ref04_Deep, wl_ref04_Deep_0, s_ref04_Deep_0, c_ref04_Deep_l0, wb_ref04_Deep_0, c_ref04_Deep_k0, go_sem, Nat.reduceAdd, Nat.reduceSub, Nat.reduceMul, Nat.reduceLT, Nat.reduceLeDiff, Int.reduceToNat, Nat.reduceEqDiff, Nat.reduceBEq, ↓reduceIte, reduceCtorEq, eA, w1]
    exact doneG rfl
  | cons p post ih =>
    intro pre h1 n nx hn
    have hlt : pre.length < a.ps.length := by rw [h1]; simp
    have hpm : p ∈ a.ps := by rw [h1]; simp
    have hpz := size_lt hpm
    have g0 : (tavs a.ps)[pre.length]? = some (tv p) := by rw [tavs_get, h1]; simp
    have w1 : IntKind.i64.wrap ((pre.length : Int) + 1) = ((pre.length + 1 : Nat) : Int) := by rw [IntKind.wrap_i64]; omega
    have w2 : IntKind.i64.wrap (((d + 1 : Nat) : Int) - 1) = ((d : Nat) : Int) := by rw [IntKind.wrap_i64]; omega
    have hm := deep_max d p
    have w3 : (if ((deep d p : Nat) : Int) > (n : Int) then ((deep d p : Nat) : Int) else (n : Int)) = ((max n (deep d p) : Nat) : Int) := by split <;> omega
    refine round (its := [.blk 0 wb_ref04_Deep_0]) (k0 := [.c c_ref04_Deep_k0]) 100 trivial trivial (fun A eA => ?_)
    simp (disch := first | omega | (simp only [avs_len, List.length_cons, List.length_append, List.length_nil, List.length_take, List.length_drop, List.length_map]; omega) | (simp only [cells, scal1, allSz, List.length_cons, List.length_nil, List.length_append, List.length_map, List.all_cons, List.all_nil, avs_len, beq_self_eq_true, Bool.and_self, and_self, or_true, true_or, reduceCtorEq, *]; done) | fail) only [c_ref04_Deep, wl_ref04_Deep_0, s_ref04_Deep_0, c_ref04_Deep_l0, wb_ref04_Deep_0, c_ref04_Deep_k0, go_sem, Nat.reduceAdd, Nat.reduceSub, Nat.reduceMul, Nat.reduceLT, Nat.reduceLeDiff, Int.reduceToNat, Nat.reduceEqDiff, Nat.reduceBEq, ↓reduceIte, reduceCtorEq, eA, Int.toNat_natCast, g0, w2, scal1, List.all_cons, List.all_nil, Bool.and_self]
    refine call0 100 trivial trivial (ihd p (by omega)) (.inl rfl) (fun A eA => ?_)
    simp (disch := first | omega | (simp only [avs_len, List.length_cons, List.length_append, List.length_nil, List.length_take, List.length_drop, List.length_map]; omega) | (simp only [cells, scal1, allSz, List.length_cons, List.length_nil, List.length_append, List.length_map, List.all_cons, List.all_nil, avs_len, beq_self_eq_true, Bool.and_self, and_self, or_true, true_or, reduceCtorEq, *]; done) | fail) only [c_ref04_Deep, wl_ref04_Deep_0, s_ref04_Deep_0, c_ref04_Deep_l0, wb_ref04_Deep_0, c_ref04_Deep_k0, go_sem, Nat.reduceAdd, Nat.reduceSub, Nat.reduceMul, Nat.reduceLT, Nat.reduceLeDiff, Int.reduceToNat, Nat.reduceEqDiff, Nat.reduceBEq, ↓reduceIte, reduceCtorEq, eA, w1, w3]
    simp only [deepL]
    have hih := ih (pre ++ [p]) (by rw [h1]; simp) (max n (deep d p)) nx (by omega)
    rw [show (pre ++ [p]).length = pre.length + 1 by simp] at hih
    exact hih
theorem deep_calls : ∀ (d : Nat) (t : Tree), d < 1000 → t.size < 2 ^ 60 → PCalls Try.prog F_ref04_Deep [tv t, .int .i64 (d : Nat)] (.int .i64 (deep d t : Nat)) := by
  intro d
  induction d with
  | zero =>
    intro t _ _
    refine calls_ref04_Deep (walk0 100 trivial (fun A eA => ?_))
    simp (disch := first | omega | (simp only [avs_len, List.length_cons, List.length_append, List.length_nil, List.length_take, List.length_drop, List.length_map]; omega) | (simp only [cells, scal1, allSz, List.length_cons, List.length_nil, List.length_append, List.length_map, List.all_cons, List.all_nil, avs_len, beq_self_eq_true, Bool.and_self, and_self, or_true, true_or, reduceCtorEq, *]; done) | fail) only [c_ref04_Deep, wl_ref04_Deep_0, s_ref04_Deep_0, c_ref04_Deep_l0, wb_ref04_Deep_0, c_ref04_Deep_k0, go_sem, Nat.reduceAdd, Nat.reduceSub, Nat.reduceMul, Nat.reduceLT, Nat.reduceLeDiff, Int.reduceToNat, Nat.reduceEqDiff, Nat.reduceBEq, ↓reduceIte, reduceCtorEq, eA, scal1, tavs_len]
    exact doneG rfl
  | succ d ih =>
    intro t hd hs
    refine calls_ref04_Deep (walk0 100 trivial (fun A eA => ?_))
    simp (disch := first | omega | (simp only [avs_len, List.length_cons, List.length_append, List.length_nil, List.length_take, List.length_drop, List.length_map]; omega) | (simp only [cells, scal1, allSz, List.length_cons, List.length_nil, List.length_append, List.length_map, List.all_cons, List.all_nil, avs_len, beq_self_eq_true, Bool.and_self, and_self, or_true, true_or, reduceCtorEq, *]; done) | fail) only [c_ref04_Deep, wl_ref04_Deep_0, s_ref04_Deep_0, c_ref04_Deep_l0, wb_ref04_Deep_0, c_ref04_Deep_k0, go_sem, Nat.reduceAdd, Nat.reduceSub, Nat.reduceMul, Nat.reduceLT, Nat.reduceLeDiff, Int.reduceToNat, Nat.reduceEqDiff, Nat.reduceBEq, ↓reduceIte, reduceCtorEq, eA, scal1, tavs_len]
    exact deep_loop d (by omega) (fun t h => ih t (by omega) h) t hs t.ps [] rfl 0 zeroC (by omega)
theorem lcount_loop (d : Nat) (hd : d < 1000) (ihd : ∀ t : Tree, PCalls Try.prog F_law04_count [tv t, .int .i64 (d : Nat)] (.int .i64 (lcnt d t : Nat))) (a : Tree) : ∀ (post pre : List Tree), a.ps = pre ++ post → ∀ (n : Nat) (nx : Ctr), n ≤ 1000 → pre.length ≤ n →
    RunsX Try.prog 0 (Gives [.t 4] (.int .i64 (lcntL (lcnt d) n post : Nat))) (i_law04_count_0 ++ [.c c_law04_count_k0]) (s_law04_count_0 (.int .i64 ((d + 1 : Nat) : Int)) (.ro [.bool a.one, .fz 2 (tavs a.ps) none]) (.int .i64 (n : Nat)) (.int .i64 (a.ps.length : Nat)) (.int .i64 (pre.length : Nat))) [] nx := by
  intro post
  induction post with
  | nil =>
    intro pre h1 n nx hn hpn
    have h5 : a.ps.length = pre.length := by rw [h1]; simp
    refine round (its := [.blk 0 wb_law04_count_0]) (k0 := [.c c_law04_count_k0]) 100 trivial trivial (fun A eA => ?_)
    simp (disch := first | omega | (simp only [avs_len, List.length_cons, List.length_append, List.length_nil, List.length_take, List.length_drop, List.length_map]; omega) | (simp only [cells, scal1, allSz, List.length_cons, List.length_nil, List.length_append, List.length_map, List.all_cons, List.all_nil, avs_len, beq_self_eq_true, Bool.and_self, and_self, or_true, true_or, reduceCtorEq, *]; done) | fail) only [c_law04_count, wl_law04_count_0, s_law04_count_0, c_law04_count_l0, wb_law04_count_0, c_law04_count_k0, go_sem, Nat.reduceAdd, Nat.reduceSub, Nat.reduceMul, Nat.reduceLT, Nat.reduceLeDiff, Int.reduceToNat, Nat.reduceEqDiff, Nat.reduceBEq, ↓reduceIte, reduceCtorEq, eA]
    refine walk0 (its := [.c c_law04_count_k0]) 100 trivial (fun A eA => ?_)
    simp (disch := first | omega | (simp only [avs_len, List.length_cons, List.length_append, List.length_nil, List.length_take, List.length_drop, List.length_map]; omega) | (simp only [cells, scal1, allSz, List.length_cons, List.length_nil, List.length_append, List.length_map, List.all_cons, List.all_nil, avs_len, beq_self_eq_true, Bool.and_self, and_self, or_true, true_or, reduceCtorEq, *]; done) | fail) only [c_law04_count, wl_law04_count_0, s_law04_count_0, c_law04_count_l0, wb_law04_count_0, c_law04_count_k0, go_sem, Nat.reduceAdd, Nat.reduceSub, Nat.reduceMul, Nat.reduceLT, Nat.reduceLeDiff, Int.reduceToNat, Nat.reduceEqDiff, Nat.reduceBEq, ↓reduceIte, reduceCtorEq, eA]
    exact doneG rfl
  | cons p post ih =>
    intro pre h1 n nx hn hpn
    have hlt : pre.length < a.ps.length := by rw [h1]; simp
    have hpm : p ∈ a.ps := by rw [h1]; simp
    have g0 : (tavs a.ps)[pre.length]? = some (tv p) := by rw [tavs_get, h1]; simp
    have w1 : IntKind.i64.wrap ((pre.length : Int) + 1) = ((pre.length + 1 : Nat) : Int) := by rw [IntKind.wrap_i64]; omega
    have w2 : IntKind.i64.wrap (((d + 1 : Nat) : Int) - 1) = ((d : Nat) : Int) := by rw [IntKind.wrap_i64]; omega
    have hm := lcnt_le d p
    have hm1 := lcnt_pos d p
    have w3 : IntKind.i64.wrap ((n : Int) + (lcnt d p : Nat)) = ((n + lcnt d p : Nat) : Int) := by rw [IntKind.wrap_i64]; omega
    refine round (its := [.blk 0 wb_law04_count_0]) (k0 := [.c c_law04_count_k0]) 100 trivial trivial (fun A eA => ?_)
    simp (disch := first | omega | (simp only [avs_len, List.length_cons, List.length_append, List.length_nil, List.length_take, List.length_drop, List.length_map]; omega) | (simp only [cells, scal1, allSz, List.length_cons, List.length_nil, List.length_append, List.length_map, List.all_cons, List.all_nil, avs_len, beq_self_eq_true, Bool.and_self, and_self, or_true, true_or, reduceCtorEq, *]; done) | fail) only [c_law04_count, wl_law04_count_0, s_law04_count_0, c_law04_count_l0, wb_law04_count_0, c_law04_count_k0, go_sem, Nat.reduceAdd, Nat.reduceSub, Nat.reduceMul, Nat.reduceLT, Nat.reduceLeDiff, Int.reduceToNat, Nat.reduceEqDiff, Nat.reduceBEq, ↓reduceIte, reduceCtorEq, eA, Int.toNat_natCast, g0, w2, scal1, List.all_cons, List.all_nil, Bool.and_self]
    refine call0 100 trivial trivial (ihd p) (.inl rfl) (fun A eA => ?_)
    by_cases hq : 1000 < n + lcnt d p
    · simp only [lcntL, if_pos hq]
      simp (disch := first | omega | (simp only [avs_len, List.length_cons, List.length_append, List.length_nil, List.length_take, List.length_drop, List.length_map]; omega) | (simp only [cells, scal1, allSz, List.length_cons, List.length_nil, List.length_append, List.length_map, List.all_cons, List.all_nil, avs_len, beq_self_eq_true, Bool.and_self, and_self, or_true, true_or, reduceCtorEq, *]; done) | fail) only [c_law04_count, wl_law04_count_0, s_law04_count_0, c_law04_count_l0, wb_law04_count_0, c_law04_count_k0, go_sem, Nat.reduceAdd, Nat.reduceSub, Nat.reduceMul, Nat.reduceLT, Nat.reduceLeDiff, Int.reduceToNat, Nat.reduceEqDiff, Nat.reduceBEq, ↓reduceIte, reduceCtorEq, eA, w3]
      exact doneG rfl
    · simp only [lcntL, if_neg hq]
      simp (disch := first | omega | (simp only [avs_len, List.length_cons, List.length_append, List.length_nil, List.length_take, List.length_drop, List.length_map]; omega) | (simp only [cells, scal1, allSz, List.length_cons, List.length_nil, List.length_append, List.length_map, List.all_cons, List.all_nil, avs_len, beq_self_eq_true, Bool.and_self, and_self, or_true, true_or, reduceCtorEq, *]; done) | fail) only [c_law04_count, wl_law04_count_0, s_law04_count_0, c_law04_count_l0, wb_law04_count_0, c_law04_count_k0, go_sem, Nat.reduceAdd, Nat.reduceSub, Nat.reduceMul, Nat.reduceLT, Nat.reduceLeDiff, Int.reduceToNat, Nat.reduceEqDiff, Nat.reduceBEq, ↓reduceIte, reduceCtorEq, eA, w1, w3]
      have hih := ih (pre ++ [p]) (by rw [h1]; simp) (n + lcnt d p) nx (by omega) (by simp; omega)
      rw [show (pre ++ [p]).length = pre.length + 1 by simp] at hih
      exact hih
theorem lcount_calls : ∀ (d : Nat) (t : Tree), d < 1000 → PCalls Try.prog F_law04_count [tv t, .int .i64 (d : Nat)] (.int .i64 (lcnt d t : Nat)) := by
  intro d
  induction d with
  | zero =>
    intro t _
    refine calls_law04_count (walk0 100 trivial (fun A eA => ?_))
    simp (disch := first | omega | (simp only [avs_len, List.length_cons, List.length_append, List.length_nil, List.length_take, List.length_drop, List.length_map]; omega) | (simp only [cells, scal1, allSz, List.length_cons, List.length_nil, List.length_append, List.length_map, List.all_cons, List.all_nil, avs_len, beq_self_eq_true, Bool.and_self, and_self, or_true, true_or, reduceCtorEq, *]; done) | fail) only [c_law04_count, wl_law04_count_0, s_law04_count_0, c_law04_count_l0, wb_law04_count_0, c_law04_count_k0, go_sem, Nat.reduceAdd, Nat.reduceSub, Nat.reduceMul, Nat.reduceLT, Nat.reduceLeDiff, Int.reduceToNat, Nat.reduceEqDiff, Nat.reduceBEq, ↓reduceIte, reduceCtorEq, eA, scal1, tavs_len]
    exact doneG rfl
  | succ d ih =>
    intro t hd
    refine calls_law04_count (walk0 100 trivial (fun A eA => ?_))
    simp (disch := first | omega | (simp only [avs_len, List.length_cons, List.length_append, List.length_nil, List.length_take, List.length_drop, List.length_map]; omega) | (simp only [cells, scal1, allSz, List.length_cons, List.length_nil, List.length_append, List.length_map, List.all_cons, List.all_nil, avs_len, beq_self_eq_true, Bool.and_self, and_self, or_true, true_or, reduceCtorEq, *]; done) | fail) only [c_law04_count, wl_law04_count_0, s_law04_count_0, c_law04_count_l0, wb_law04_count_0, c_law04_count_k0, go_sem, Nat.reduceAdd, Nat.reduceSub, Nat.reduceMul, Nat.reduceLT, Nat.reduceLeDiff, Int.reduceToNat, Nat.reduceEqDiff, Nat.reduceBEq, ↓reduceIte, reduceCtorEq, eA, scal1, tavs_len]
    exact lcount_loop d (by omega) (fun t => ih t (by omega)) t t.ps [] rfl 1 zeroC (by omega) (by simp)
theorem Few_calls (t : Tree) : PCalls Try.prog F_law04_Few [tv t, .int .i64 30] (.bool (decide (lcnt 30 t ≤ 1000))) := by
  refine calls_law04_Few (walk0 100 trivial (fun A eA => ?_))
  simp (disch := first | omega | (simp only [avs_len, List.length_cons, List.length_append, List.length_nil, List.length_take, List.length_drop, List.length_map]; omega) | (simp only [cells, scal1, allSz, List.length_cons, List.length_nil, List.length_append, List.length_map, List.all_cons, List.all_nil, avs_len, beq_self_eq_true, Bool.and_self, and_self, or_true, true_or, reduceCtorEq, *]; done) | fail) only [c_law04_Few, go_sem, Nat.reduceAdd, Nat.reduceSub, Nat.reduceMul, Nat.reduceLT, Nat.reduceLeDiff, Int.reduceToNat, Nat.reduceEqDiff, Nat.reduceBEq, ↓reduceIte, reduceCtorEq, eA, scal1, tavs_len]
  refine call0 100 trivial trivial (lcount_calls 30 t (by omega)) (.inl rfl) (fun A eA => ?_)
  simp (disch := first | omega | (simp only [avs_len, List.length_cons, List.length_append, List.length_nil, List.length_take, List.length_drop, List.length_map]; omega) | (simp only [cells, scal1, allSz, List.length_cons, List.length_nil, List.length_append, List.length_map, List.all_cons, List.all_nil, avs_len, beq_self_eq_true, Bool.and_self, and_self, or_true, true_or, reduceCtorEq, *]; done) | fail) only [c_law04_Few, go_sem, Nat.reduceAdd, Nat.reduceSub, Nat.reduceMul, Nat.reduceLT, Nat.reduceLeDiff, Int.reduceToNat, Nat.reduceEqDiff, Nat.reduceBEq, ↓reduceIte, reduceCtorEq, eA]
  by_cases h : lcnt 30 t ≤ 1000
  · simp (disch := first | omega | (simp only [avs_len, List.length_cons, List.length_append, List.length_nil, List.length_take, List.length_drop, List.length_map]; omega) | (simp only [cells, scal1, allSz, List.length_cons, List.length_nil, List.length_append, List.length_map, List.all_cons, List.all_nil, avs_len, beq_self_eq_true, Bool.and_self, and_self, or_true, true_or, reduceCtorEq, *]; done) | fail) only [go_sem, Nat.reduceAdd, Nat.reduceSub, Nat.reduceMul, Nat.reduceLT, Nat.reduceLeDiff, Int.reduceToNat, Nat.reduceEqDiff, Nat.reduceBEq, ↓reduceIte, reduceCtorEq]
    exact doneG rfl
  · simp (disch := first | omega | (simp only [avs_len, List.length_cons, List.length_append, List.length_nil, List.length_take, List.length_drop, List.length_map]; omega) | (simp only [cells, scal1, allSz, List.length_cons, List.length_nil, List.length_append, List.length_map, List.all_cons, List.all_nil, avs_len, beq_self_eq_true, Bool.and_self, and_self, or_true, true_or, reduceCtorEq, *]; done) | fail) only [go_sem, Nat.reduceAdd, Nat.reduceSub, Nat.reduceMul, Nat.reduceLT, Nat.reduceLeDiff, Int.reduceToNat, Nat.reduceEqDiff, Nat.reduceBEq, ↓reduceIte, reduceCtorEq]
    exact doneG rfl
theorem refCount_a {t l r : Tree} {n1 n2 : Nat} {x y : Bool} (hlr : t.ps = [l, r]) (ho : t.one = false) (c1 : PCalls Try.prog F_ref04_count [tv l] (.tup [.int .i64 (n1 : Nat), .bool x])) (c2 : PCalls Try.prog F_ref04_count [tv r] (.tup [.int .i64 (n2 : Nat), .bool y])) (b1 : n1 ≤ 1000) (b2 : n2 ≤ 1000) (k0 : l.ps.length = 0) (k1 : r.ps.length = 0) : PCalls Try.prog F_ref04_count [tv t] (.tup [.int .i64 ((min (n1 + n2 + 1) 1000 : Nat) : Int), .bool (x && y && !lfEq l r)]) := by
  have g0 : (tavs [l, r])[0]? = some (tv l) := by rw [tavs_get]; rfl
  have g1 : (tavs [l, r])[1]? = some (tv r) := by rw [tavs_get]; rfl
  have w1 : IntKind.i64.wrap ((n1 : Int) + (n2 : Nat)) = ((n1 + n2 : Nat) : Int) := by rw [IntKind.wrap_i64]; omega
  have w2 : IntKind.i64.wrap (((n1 + n2 : Nat) : Int) + 1) = ((n1 + n2 + 1 : Nat) : Int) := by rw [IntKind.wrap_i64]; omega
  have w3 : (if (1000 : Int) < ((n1 + n2 + 1 : Nat) : Int) then (1000 : Int) else ((n1 + n2 + 1 : Nat) : Int)) = ((min (n1 + n2 + 1) 1000 : Nat) : Int) := by split <;> omega
  refine calls_ref04_count (walk0 100 trivial (fun A eA => ?_))
  simp (disch := first | omega | (simp only [avs_len, List.length_cons, List.length_append, List.length_nil, List.length_take, List.length_drop, List.length_map]; omega) | (simp only [cells, scal1, allSz, List.length_cons, List.length_nil, List.length_append, List.length_map, List.all_cons, List.all_nil, avs_len, beq_self_eq_true, Bool.and_self, and_self, or_true, true_or, reduceCtorEq, *]; done) | fail) only [c_ref04_count, go_sem, Nat.reduceAdd, Nat.reduceSub, Nat.reduceMul, Nat.reduceLT, Nat.reduceLeDiff, Int.reduceToNat, Nat.reduceEqDiff, Nat.reduceBEq, ↓reduceIte, reduceCtorEq, eA, scal1, tavs_len, ho, hlr, g0, g1, List.all_cons, List.all_nil, Bool.and_self]
  refine call0 100 trivial trivial c1 (.inl rfl) (fun A eA => ?_)
  simp (disch := first | omega | (simp only [avs_len, List.length_cons, List.length_append, List.length_nil, List.length_take, List.length_drop, List.length_map]; omega) | (simp only [cells, scal1, allSz, List.length_cons, List.length_nil, List.length_append, List.length_map, List.all_cons, List.all_nil, avs_len, beq_self_eq_true, Bool.and_self, and_self, or_true, true_or, reduceCtorEq, *]; done) | fail) only [c_ref04_count, go_sem, Nat.reduceAdd, Nat.reduceSub, Nat.reduceMul, Nat.reduceLT, Nat.reduceLeDiff, Int.reduceToNat, Nat.reduceEqDiff, Nat.reduceBEq, ↓reduceIte, reduceCtorEq, eA, hlr, g0, g1, List.all_cons, List.all_nil, Bool.and_self, scal1]
  refine call0 100 trivial trivial c2 (.inl rfl) (fun A eA => ?_)
  cases x <;> cases y
  all_goals
    simp (disch := first | omega | (simp only [avs_len, List.length_cons, List.length_append, List.length_nil, List.length_take, List.length_drop, List.length_map]; omega) | (simp only [cells, scal1, allSz, List.length_cons, List.length_nil, List.length_append, List.length_map, List.all_cons, List.all_nil, avs_len, beq_self_eq_true, Bool.and_self, and_self, or_true, true_or, reduceCtorEq, *]; done) | fail) only [c_ref04_count, go_sem, Nat.reduceAdd, Nat.reduceSub, Nat.reduceMul, Nat.reduceLT, Nat.reduceLeDiff, Int.reduceToNat, Nat.reduceEqDiff, Nat.reduceBEq, ↓reduceIte, reduceCtorEq, eA, hlr, g0, g1, List.all_cons, List.all_nil, Bool.and_self, scal1, tavs_len, w1, w2, w3]
    refine doneG ?_
    simp (disch := first | omega | (simp only [avs_len, List.length_cons, List.length_append, List.length_nil, List.length_take, List.length_drop, List.length_map]; omega) | (simp only [cells, scal1, allSz, List.length_cons, List.length_nil, List.length_append, List.length_map, List.all_cons, List.all_nil, avs_len, beq_self_eq_true, Bool.and_self, and_self, or_true, true_or, reduceCtorEq, *]; done) | fail) only [go_sem, Nat.reduceAdd, Nat.reduceSub, Nat.reduceMul, Nat.reduceLT, Nat.reduceLeDiff, Int.reduceToNat, Nat.reduceEqDiff, Nat.reduceBEq, ↓reduceIte, reduceCtorEq, lfEq, w3]
    cases l.one <;> cases r.one <;> simp [k0, k1]
theorem refCount_b {t l r : Tree} {n1 n2 : Nat} {x y : Bool} (hlr : t.ps = [l, r]) (ho : t.one = false) (c1 : PCalls Try.prog F_ref04_count [tv l] (.tup [.int .i64 (n1 : Nat), .bool x])) (c2 : PCalls Try.prog F_ref04_count [tv r] (.tup [.int .i64 (n2 : Nat), .bool y])) (b1 : n1 ≤ 1000) (b2 : n2 ≤ 1000) (k0 : l.ps.length = 0) (k1 : ¬ r.ps.length = 0) : PCalls Try.prog F_ref04_count [tv t] (.tup [.int .i64 ((min (n1 + n2 + 1) 1000 : Nat) : Int), .bool (x && y && !lfEq l r)]) := by
  have g0 : (tavs [l, r])[0]? = some (tv l) := by rw [tavs_get]; rfl
  have g1 : (tavs [l, r])[1]? = some (tv r) := by rw [tavs_get]; rfl
  have w1 : IntKind.i64.wrap ((n1 : Int) + (n2 : Nat)) = ((n1 + n2 : Nat) : Int) := by rw [IntKind.wrap_i64]; omega
  have w2 : IntKind.i64.wrap (((n1 + n2 : Nat) : Int) + 1) = ((n1 + n2 + 1 : Nat) : Int) := by rw [IntKind.wrap_i64]; omega
  have w3 : (if (1000 : Int) < ((n1 + n2 + 1 : Nat) : Int) then (1000 : Int) else ((n1 + n2 + 1 : Nat) : Int)) = ((min (n1 + n2 + 1) 1000 : Nat) : Int) := by split <;> omega
  refine calls_ref04_count (walk0 100 trivial (fun A eA => ?_))
  simp (disch := first | omega | (simp only [avs_len, List.length_cons, List.length_append, List.length_nil, List.length_take, List.length_drop, List.length_map]; omega) | (simp only [cells, scal1, allSz, List.length_cons, List.length_nil, List.length_append, List.length_map, List.all_cons, List.all_nil, avs_len, beq_self_eq_true, Bool.and_self, and_self, or_true, true_or, reduceCtorEq, *]; done) | fail) only [c_ref04_count, go_sem, Nat.reduceAdd, Nat.reduceSub, Nat.reduceMul, Nat.reduceLT, Nat.reduceLeDiff, Int.reduceToNat, Nat.reduceEqDiff, Nat.reduceBEq, ↓reduceIte, reduceCtorEq, eA, scal1, tavs_len, ho, hlr, g0, g1, List.all_cons, List.all_nil, Bool.and_self]
  refine call0 100 trivial trivial c1 (.inl rfl) (fun A eA => ?_)
  simp (disch := first | omega | (simp only [avs_len, List.length_cons, List.length_append, List.length_nil, List.length_take, List.length_drop, List.length_map]; omega) | (simp only [cells, scal1, allSz, List.length_cons, List.length_nil, List.length_append, List.length_map, List.all_cons, List.all_nil, avs_len, beq_self_eq_true, Bool.and_self, and_self, or_true, true_or, reduceCtorEq, *]; done) | fail) only [c_ref04_count, go_sem, Nat.reduceAdd, Nat.reduceSub, Nat.reduceMul, Nat.reduceLT, Nat.reduceLeDiff, Int.reduceToNat, Nat.reduceEqDiff, Nat.reduceBEq, ↓reduceIte, reduceCtorEq, eA, hlr, g0, g1, List.all_cons, List.all_nil, Bool.and_self, scal1]
  refine call0 100 trivial trivial c2 (.inl rfl) (fun A eA => ?_)
  cases x <;> cases y
  all_goals
    simp (disch := first | omega | (simp only [avs_len, List.length_cons, List.length_append, List.length_nil, List.length_take, List.length_drop, List.length_map]; omega) | (simp only [cells, scal1, allSz, List.length_cons, List.length_nil, List.length_append, List.length_map, List.all_cons, List.all_nil, avs_len, beq_self_eq_true, Bool.and_self, and_self, or_true, true_or, reduceCtorEq, *]; done) | fail) only [c_ref04_count, go_sem, Nat.reduceAdd, Nat.reduceSub, Nat.reduceMul, Nat.reduceLT, Nat.reduceLeDiff, Int.reduceToNat, Nat.reduceEqDiff, Nat.reduceBEq, ↓reduceIte, reduceCtorEq, eA, hlr, g0, g1, List.all_cons, List.all_nil, Bool.and_self, scal1, tavs_len, w1, w2, w3]
    refine doneG ?_
    simp (disch := first | omega | (simp only [avs_len, List.length_cons, List.length_append, List.length_nil, List.length_take, List.length_drop, List.length_map]; omega) | (simp only [cells, scal1, allSz, List.length_cons, List.length_nil, List.length_append, List.length_map, List.all_cons, List.all_nil, avs_len, beq_self_eq_true, Bool.and_self, and_self, or_true, true_or, reduceCtorEq, *]; done) | fail) only [go_sem, Nat.reduceAdd, Nat.reduceSub, Nat.reduceMul, Nat.reduceLT, Nat.reduceLeDiff, Int.reduceToNat, Nat.reduceEqDiff, Nat.reduceBEq, ↓reduceIte, reduceCtorEq, lfEq, w3]
    simp [k0, k1]
theorem refCount_c {t l r : Tree} {n1 n2 : Nat} {x y : Bool} (hlr : t.ps = [l, r]) (ho : t.one = false) (c1 : PCalls Try.prog F_ref04_count [tv l] (.tup [.int .i64 (n1 : Nat), .bool x])) (c2 : PCalls Try.prog F_ref04_count [tv r] (.tup [.int .i64 (n2 : Nat), .bool y])) (b1 : n1 ≤ 1000) (b2 : n2 ≤ 1000) (k0 : ¬ l.ps.length = 0) : PCalls Try.prog F_ref04_count [tv t] (.tup [.int .i64 ((min (n1 + n2 + 1) 1000 : Nat) : Int), .bool (x && y && !lfEq l r)]) := by
  have g0 : (tavs [l, r])[0]? = some (tv l) := by rw [tavs_get]; rfl
  have g1 : (tavs [l, r])[1]? = some (tv r) := by rw [tavs_get]; rfl
  have w1 : IntKind.i64.wrap ((n1 : Int) + (n2 : Nat)) = ((n1 + n2 : Nat) : Int) := by rw [IntKind.wrap_i64]; omega
  have w2 : IntKind.i64.wrap (((n1 + n2 : Nat) : Int) + 1) = ((n1 + n2 + 1 : Nat) : Int) := by rw [IntKind.wrap_i64]; omega
  have w3 : (if (1000 : Int) < ((n1 + n2 + 1 : Nat) : Int) then (1000 : Int) else ((n1 + n2 + 1 : Nat) : Int)) = ((min (n1 + n2 + 1) 1000 : Nat) : Int) := by split <;> omega
  refine calls_ref04_count (walk0 100 trivial (fun A eA => ?_))
  simp (disch := first | omega | (simp only [avs_len, List.length_cons, List.length_append, List.length_nil, List.length_take, List.length_drop, List.length_map]; omega) | (simp only [cells, scal1, allSz, List.length_cons, List.length_nil, List.length_append, List.length_map, List.all_cons, List.all_nil, avs_len, beq_self_eq_true, Bool.and_self, and_self, or_true, true_or, reduceCtorEq, *]; done) | fail) only [c_ref04_count, go_sem, Nat.reduceAdd, Nat.reduceSub, Nat.reduceMul, Nat.reduceLT, Nat.reduceLeDiff, Int.reduceToNat, Nat.reduceEqDiff, Nat.reduceBEq, ↓reduceIte, reduceCtorEq, eA, scal1, tavs_len, ho, hlr, g0, g1, List.all_cons, List.all_nil, Bool.and_self]
  refine call0 100 trivial trivial c1 (.inl rfl) (fun A eA => ?_)
  simp (disch := first | omega | (simp only [avs_len, List.length_cons, List.length_append, List.length_nil, List.length_take, List.length_drop, List.length_map]; omega) | (simp only [cells, scal1, allSz, List.length_cons, List.length_nil, List.length_append, List.length_map, List.all_cons, List.all_nil, avs_len, beq_self_eq_true, Bool.and_self, and_self, or_true, true_or, reduceCtorEq, *]; done) | fail) only [c_ref04_count, go_sem, Nat.reduceAdd, Nat.reduceSub, Nat.reduceMul, Nat.reduceLT, Nat.reduceLeDiff, Int.reduceToNat, Nat.reduceEqDiff, Nat.reduceBEq, ↓reduceIte, reduceCtorEq, eA, hlr, g0, g1, List.all_cons, List.all_nil, Bool.and_self, scal1]
  refine call0 100 trivial trivial c2 (.inl rfl) (fun A eA => ?_)
  cases x <;> cases y
  all_goals
    simp (disch := first | omega | (simp only [avs_len, List.length_cons, List.length_append, List.length_nil, List.length_take, List.length_drop, List.length_map]; omega) | (simp only [cells, scal1, allSz, List.length_cons, List.length_nil, List.length_append, List.length_map, List.all_cons, List.all_nil, avs_len, beq_self_eq_true, Bool.and_self, and_self, or_true, true_or, reduceCtorEq, *]; done) | fail) only [c_ref04_count, go_sem, Nat.reduceAdd, Nat.reduceSub, Nat.reduceMul, Nat.reduceLT, Nat.reduceLeDiff, Int.reduceToNat, Nat.reduceEqDiff, Nat.reduceBEq, ↓reduceIte, reduceCtorEq, eA, hlr, g0, g1, List.all_cons, List.all_nil, Bool.and_self, scal1, tavs_len, w1, w2, w3]
    refine doneG ?_
    simp (disch := first | omega | (simp only [avs_len, List.length_cons, List.length_append, List.length_nil, List.length_take, List.length_drop, List.length_map]; omega) | (simp only [cells, scal1, allSz, List.length_cons, List.length_nil, List.length_append, List.length_map, List.all_cons, List.all_nil, avs_len, beq_self_eq_true, Bool.and_self, and_self, or_true, true_or, reduceCtorEq, *]; done) | fail) only [go_sem, Nat.reduceAdd, Nat.reduceSub, Nat.reduceMul, Nat.reduceLT, Nat.reduceLeDiff, Int.reduceToNat, Nat.reduceEqDiff, Nat.reduceBEq, ↓reduceIte, reduceCtorEq, lfEq, w3]
    simp [k0]
theorem refCount_nd {t l r : Tree} {n1 n2 : Nat} {x y : Bool} (hlr : t.ps = [l, r]) (ho : t.one = false) (c1 : PCalls Try.prog F_ref04_count [tv l] (.tup [.int .i64 (n1 : Nat), .bool x])) (c2 : PCalls Try.prog F_ref04_count [tv r] (.tup [.int .i64 (n2 : Nat), .bool y])) (b1 : n1 ≤ 1000) (b2 : n2 ≤ 1000) : PCalls Try.prog F_ref04_count [tv t] (.tup [.int .i64 ((min (n1 + n2 + 1) 1000 : Nat) : Int), .bool (x && y && !lfEq l r)]) := by
  by_cases k0 : l.ps.length = 0
  · by_cases k1 : r.ps.length = 0
    · exact refCount_a hlr ho c1 c2 b1 b2 k0 k1
    · exact refCount_b hlr ho c1 c2 b1 b2 k0 k1
  · exact refCount_c hlr ho c1 c2 b1 b2 k0
theorem refCount_calls : ∀ t : Tree, ∃ (n : Nat) (ok : Bool), PCalls Try.prog F_ref04_count [tv t] (.tup [.int .i64 (n : Nat), .bool ok]) ∧ n ≤ 1000 ∧ (ok = true ↔ ∃ b : B, t = b.t ∧ b.short = true) ∧ (∀ b : B, t = b.t → n = min b.nodes 1000) := by
  intro t
  induction t using Tree.ind with
  | h t ih =>
    have he := t.eta
    by_cases h0 : t.ps.length = 0
    · have h00 : t.ps = [] := List.eq_nil_of_length_eq_zero h0
      refine ⟨1, true, ?_, by omega, ?_, ?_⟩
      · refine calls_ref04_count (walk0 100 trivial (fun A eA => ?_))
        simp (disch := first | omega | (simp only [avs_len, List.length_cons, List.length_append, List.length_nil, List.length_take, List.length_drop, List.length_map]; omega) | (simp only [cells, scal1, allSz, List.length_cons, List.length_nil, List.length_append, List.length_map, List.all_cons, List.all_nil, avs_len, beq_self_eq_true, Bool.and_self, and_self, or_true, true_or, reduceCtorEq, *]; done) | fail) only [c_ref04_count, go_sem, Nat.reduceAdd, Nat.reduceSub, Nat.reduceMul, Nat.reduceLT, Nat.reduceLeDiff, Int.reduceToNat, Nat.reduceEqDiff, Nat.reduceBEq, ↓reduceIte, reduceCtorEq, eA, scal1, tavs_len]
        exact doneG rfl
      · simp only [true_iff]; exact ⟨.lf t.one, by rw [← he, h00]; rfl, rfl⟩
      · rintro b rfl
        cases b with
        | lf o => rfl
        | nd l r => simp [B.t, Tree.ps] at h00
    by_cases h2 : t.ps.length = 2
    · cases ho : t.one with
      | true =>
        refine ⟨0, false, ?_, by omega, ?_, ?_⟩
        · refine calls_ref04_count (walk0 100 trivial (fun A eA => ?_))
          simp (disch := first | omega | (simp only [avs_len, List.length_cons, List.length_append, List.length_nil, List.length_take, List.length_drop, List.length_map]; omega) | (simp only [cells, scal1, allSz, List.length_cons, List.length_nil, List.length_append, List.length_map, List.all_cons, List.all_nil, avs_len, beq_self_eq_true, Bool.and_self, and_self, or_true, true_or, reduceCtorEq, *]; done) | fail) only [c_ref04_count, go_sem, Nat.reduceAdd, Nat.reduceSub, Nat.reduceMul, Nat.reduceLT, Nat.reduceLeDiff, Int.reduceToNat, Nat.reduceEqDiff, Nat.reduceBEq, ↓reduceIte, reduceCtorEq, eA, scal1, tavs_len, ho]
          exact doneG rfl
        · simp only [Bool.false_eq_true, false_iff]
          rintro ⟨b, rfl, -⟩
          cases b with
          | lf o => simp [B.t, Tree.ps] at h0
          | nd l r => simp [B.t, Tree.one] at ho
        · rintro b rfl
          cases b with
          | lf o => simp [B.t, Tree.ps] at h0
          | nd l r => simp [B.t, Tree.one] at ho
      | false =>
        obtain ⟨l, r, hlr⟩ : ∃ l r, t.ps = [l, r] := by
          match t.ps, h2 with
          | [l, r], _ => exact ⟨l, r, rfl⟩
        obtain ⟨n1, x, c1, b1, e1, f1⟩ := ih l (by rw [hlr]; simp)
        obtain ⟨n2, y, c2, b2, e2, f2⟩ := ih r (by rw [hlr]; simp)
        have key : ∀ b : B, t = b.t → ∃ bl br, b = .nd bl br ∧ l = bl.t ∧ r = br.t := by
          rintro b rfl
          cases b with
          | lf o => simp [B.t, Tree.ps] at h0
          | nd bl br => simp [B.t, Tree.ps] at hlr; exact ⟨bl, br, rfl, hlr.1.symm, hlr.2.symm⟩
        refine ⟨min (n1 + n2 + 1) 1000, x && y && !lfEq l r, ?_, by omega, ?_, ?_⟩
        · exact refCount_nd hlr ho c1 c2 b1 b2
        · simp only [Bool.and_eq_true, e1, e2]
          constructor
          · rintro ⟨⟨⟨bl, rfl, s1⟩, ⟨br, rfl, s2⟩⟩, s3⟩
            exact ⟨.nd bl br, by rw [← he, hlr, ho]; rfl, by simp only [B.short, s1, s2, s3, Bool.and_self]⟩
          · rintro ⟨b, hb, hsh⟩
            obtain ⟨bl, br, rfl, rfl, rfl⟩ := key b hb
            simp only [B.short, Bool.and_eq_true] at hsh
            exact ⟨⟨⟨bl, rfl, hsh.1.1⟩, ⟨br, rfl, hsh.1.2⟩⟩, hsh.2⟩
        · intro b hb
          obtain ⟨bl, br, rfl, hl, hr⟩ := key b hb
          have := f1 bl hl
          have := f2 br hr
          simp only [B.nodes]
          omega
    · refine ⟨0, false, ?_, by omega, ?_, ?_⟩
      · refine calls_ref04_count (walk0 100 trivial (fun A eA => ?_))
        simp (disch := first | omega | (simp only [avs_len, List.length_cons, List.length_append, List.length_nil, List.length_take, List.length_drop, List.length_map]; omega) | (simp only [cells, scal1, allSz, List.length_cons, List.length_nil, List.length_append, List.length_map, List.all_cons, List.all_nil, avs_len, beq_self_eq_true, Bool.and_self, and_self, or_true, true_or, reduceCtorEq, *]; done) | fail) only [c_ref04_count, go_sem, Nat.reduceAdd, Nat.reduceSub, Nat.reduceMul, Nat.reduceLT, Nat.reduceLeDiff, Int.reduceToNat, Nat.reduceEqDiff, Nat.reduceBEq, ↓reduceIte, reduceCtorEq, eA, scal1, tavs_len]
        exact doneG rfl
      · simp only [Bool.false_eq_true, false_iff]
        rintro ⟨b, rfl, -⟩
        cases b with
        | lf o => simp [B.t, Tree.ps] at h0
        | nd l r => simp [B.t, Tree.ps] at h2
      · rintro b rfl
        cases b with
        | lf o => simp [B.t, Tree.ps] at h0
        | nd l r => simp [B.t, Tree.ps] at h2
theorem flat_dep : ∀ (d : Nat) (b : B), flatTo d b.t ↔ b.dep ≤ d
  | 0, .lf o => by simp [flatTo, B.dep]
  | 0, .nd l r => by simp [flatTo, B.dep]
  | d + 1, .lf o => by simp [flatTo, B.dep, B.t, Tree.ps]
  | d + 1, .nd l r => by simp only [flatTo, B.dep, B.t, Tree.ps, List.mem_cons, List.not_mem_nil, or_false, forall_eq_or_imp, forall_eq, flat_dep d l, flat_dep d r]; omega
theorem refRight_calls (t : Tree) (hs : t.size < 2 ^ 60) : PCalls Try.prog F_ref04_Right [tv t] (.bool (rtb t)) := by
  refine calls_ref04_Right (walk0 100 trivial (fun A eA => ?_))
  simp (disch := first | omega | (simp only [avs_len, List.length_cons, List.length_append, List.length_nil, List.length_take, List.length_drop, List.length_map]; omega) | (simp only [cells, scal1, allSz, List.length_cons, List.length_nil, List.length_append, List.length_map, List.all_cons, List.all_nil, avs_len, beq_self_eq_true, Bool.and_self, and_self, or_true, true_or, reduceCtorEq, *]; done) | fail) only [c_ref04_Right, go_sem, Nat.reduceAdd, Nat.reduceSub, Nat.reduceMul, Nat.reduceLT, Nat.reduceLeDiff, Int.reduceToNat, Nat.reduceEqDiff, Nat.reduceBEq, ↓reduceIte, reduceCtorEq, eA, scal1, tavs_len]
  refine call0 100 trivial trivial (deep_calls 8 t (by omega) hs) (.inl rfl) (fun A eA => ?_)
  have hno : ¬ Rt t → rtb t = false := fun h => by rw [Bool.eq_false_iff, ne_eq, rtb_true]; exact h
  by_cases h : deep 8 t ≤ 8
  · simp (disch := first | omega | (simp only [avs_len, List.length_cons, List.length_append, List.length_nil, List.length_take, List.length_drop, List.length_map]; omega) | (simp only [cells, scal1, allSz, List.length_cons, List.length_nil, List.length_append, List.length_map, List.all_cons, List.all_nil, avs_len, beq_self_eq_true, Bool.and_self, and_self, or_true, true_or, reduceCtorEq, *]; done) | fail) only [c_ref04_Right, go_sem, Nat.reduceAdd, Nat.reduceSub, Nat.reduceMul, Nat.reduceLT, Nat.reduceLeDiff, Int.reduceToNat, Nat.reduceEqDiff, Nat.reduceBEq, ↓reduceIte, reduceCtorEq, eA]
    obtain ⟨n, ok, c, hn, h1, h2⟩ := refCount_calls t
    refine call0 100 trivial trivial c (.inl rfl) (fun A eA => ?_)
    cases ok with
    | false =>
      simp (disch := first | omega | (simp only [avs_len, List.length_cons, List.length_append, List.length_nil, List.length_take, List.length_drop, List.length_map]; omega) | (simp only [cells, scal1, allSz, List.length_cons, List.length_nil, List.length_append, List.length_map, List.all_cons, List.all_nil, avs_len, beq_self_eq_true, Bool.and_self, and_self, or_true, true_or, reduceCtorEq, *]; done) | fail) only [c_ref04_Right, go_sem, Nat.reduceAdd, Nat.reduceSub, Nat.reduceMul, Nat.reduceLT, Nat.reduceLeDiff, Int.reduceToNat, Nat.reduceEqDiff, Nat.reduceBEq, ↓reduceIte, reduceCtorEq, eA]
      rw [hno (by rintro ⟨b, hb, -, -, hsh⟩; have := h1.2 ⟨b, hb, hsh⟩; cases this)]
      exact doneG rfl
    | true =>
      obtain ⟨b, rfl, hsh⟩ := h1.1 rfl
      have hn2 := h2 b rfl
      have hdp := (flat_dep 8 b).1 ((deep_le 8 _).1 h)
      by_cases h6 : n ≤ 60
      · simp (disch := first | omega | (simp only [avs_len, List.length_cons, List.length_append, List.length_nil, List.length_take, List.length_drop, List.length_map]; omega) | (simp only [cells, scal1, allSz, List.length_cons, List.length_nil, List.length_append, List.length_map, List.all_cons, List.all_nil, avs_len, beq_self_eq_true, Bool.and_self, and_self, or_true, true_or, reduceCtorEq, *]; done) | fail) only [c_ref04_Right, go_sem, Nat.reduceAdd, Nat.reduceSub, Nat.reduceMul, Nat.reduceLT, Nat.reduceLeDiff, Int.reduceToNat, Nat.reduceEqDiff, Nat.reduceBEq, ↓reduceIte, reduceCtorEq, eA]
        rw [rtb_true.2 ⟨b, rfl, hdp, by omega, hsh⟩]
        exact doneG rfl
      · simp (disch := first | omega | (simp only [avs_len, List.length_cons, List.length_append, List.length_nil, List.length_take, List.length_drop, List.length_map]; omega) | (simp only [cells, scal1, allSz, List.length_cons, List.length_nil, List.length_append, List.length_map, List.all_cons, List.all_nil, avs_len, beq_self_eq_true, Bool.and_self, and_self, or_true, true_or, reduceCtorEq, *]; done) | fail) only [c_ref04_Right, go_sem, Nat.reduceAdd, Nat.reduceSub, Nat.reduceMul, Nat.reduceLT, Nat.reduceLeDiff, Int.reduceToNat, Nat.reduceEqDiff, Nat.reduceBEq, ↓reduceIte, reduceCtorEq, eA]
        rw [hno (by rintro ⟨b', hb, -, h7, -⟩; obtain rfl := B.inj hb; omega)]
        exact doneG rfl
  · simp (disch := first | omega | (simp only [avs_len, List.length_cons, List.length_append, List.length_nil, List.length_take, List.length_drop, List.length_map]; omega) | (simp only [cells, scal1, allSz, List.length_cons, List.length_nil, List.length_append, List.length_map, List.all_cons, List.all_nil, avs_len, beq_self_eq_true, Bool.and_self, and_self, or_true, true_or, reduceCtorEq, *]; done) | fail) only [c_ref04_Right, go_sem, Nat.reduceAdd, Nat.reduceSub, Nat.reduceMul, Nat.reduceLT, Nat.reduceLeDiff, Int.reduceToNat, Nat.reduceEqDiff, Nat.reduceBEq, ↓reduceIte, reduceCtorEq, eA]
    rw [hno (by rintro ⟨b, rfl, h7, -, -⟩; exact h ((deep_le 8 _).2 ((flat_dep 8 b).2 h7)))]
    exact doneG rfl
end Go.Proofs.Ytmokhopjnjecbab
/- The walk through Has and Row. -/
-- short
namespace Go.Proofs.Ytmokhopjnjecbab
open Go.Ev
set_option linter.unusedVariables false
set_option linter.unusedSimpArgs false
set_option maxRecDepth 100000
variable {R : List AV → Heap → Ctr → Prop} {k : List It} {H : Heap} {nx : Ctr} {φ : Nat}

def hasB : B → Nat → Bool
  | .lf o, _ => o
  | .nd l r, p => if p / 128 = 0 then hasB l (p * 2 % 256) else hasB r (p * 2 % 256)
def rowB : B → Nat → Nat → Bool
  | .lf o, _, _ => o
  | .nd l r, p, b => if p / b % 2 = 0 then rowB l p (b / 2) else rowB r p (b / 2)
theorem has_row (p : Nat) (hp : p < 256) : ∀ (b : B) (i : Nat), i + b.dep ≤ 8 → hasB b (p * 2 ^ i % 256) = rowB b (p / 2) (64 / 2 ^ i)
  | .lf o, i, h => rfl
  | .nd l r, i, h => by
    simp only [B.dep] at h
    have h1 := has_row p hp l (i + 1) (by omega)
    have h2 := has_row p hp r (i + 1) (by omega)
    have e1 : p * 2 ^ i % 256 * 2 % 256 = p * 2 ^ (i + 1) % 256 := by rw [Nat.pow_succ, ← Nat.mul_assoc]; omega
    have e2 : 64 / 2 ^ i / 2 = 64 / 2 ^ (i + 1) := by rw [Nat.div_div_eq_div_mul, Nat.pow_succ]
    have hl := B.dep l
    have hi : i ≤ 6 := by
      have : 1 ≤ l.dep := by cases l <;> simp [B.dep]
      omega
    have e3 : p * 2 ^ i % 256 / 128 = p / 2 / (64 / 2 ^ i) % 2 := by
      match i, hi with
      | 0, _ => simp; omega
      | 1, _ => simp; omega
      | 2, _ => simp; omega
      | 3, _ => simp; omega
      | 4, _ => simp; omega
      | 5, _ => simp; omega
      | 6, _ => simp; omega
    simp only [hasB, rowB, e1, e2, e3, h1, h2]
theorem Has_loop : ∀ (b : B) (p : Nat), p < 256 → ∀ nx : Ctr,
    RunsX Try.prog 0 (Gives [.t 4] (.bool (hasB b p))) (i_ident_Has_0 ++ [.c c_ident_Has_k0]) (s_ident_Has_0 (.int .u8 (p : Nat)) (.ptr 0 2 0 0)) [(0, 2, 0, some [.bool b.t.one, .fz 2 (tavs b.t.ps) none])] nx := by
  intro b
  induction b with
  | lf o =>
    intro p hp nx
    have h0 : (B.lf o).t.ps.length = 0 := rfl
    refine round (its := [.blk 0 wb_ident_Has_0]) (k0 := [.c c_ident_Has_k0]) 100 trivial trivial (fun A eA => ?_)
    simp (disch := first | omega | (simp only [avs_len, List.length_cons, List.length_append, List.length_nil, List.length_take, List.length_drop, List.length_map]; omega) | (simp only [cells, scal1, allSz, List.length_cons, List.length_nil, List.length_append, List.length_map, List.all_cons, List.all_nil, avs_len, beq_self_eq_true, Bool.and_self, and_self, or_true, true_or, reduceCtorEq, *]; done) | fail) only [c_ident_Has, wl_ident_Has_0, s_ident_Has_0, c_ident_Has_l0, wb_ident_Has_0, c_ident_Has_k0, go_sem, Nat.reduceAdd, Nat.reduceSub, Nat.reduceMul, Nat.reduceLT, Nat.reduceLeDiff, Int.reduceToNat, Nat.reduceEqDiff, Nat.reduceBEq, ↓reduceIte, reduceCtorEq, eA]
    refine call0 100 trivial trivial (leaf_calls (B.lf o).t) (.inl rfl) (fun A eA => ?_)
    simp (disch := first | omega | (simp only [avs_len, List.length_cons, List.length_append, List.length_nil, List.length_take, List.length_drop, List.length_map]; omega) | (simp only [cells, scal1, allSz, List.length_cons, List.length_nil, List.length_append, List.length_map, List.all_cons, List.all_nil, avs_len, beq_self_eq_true, Bool.and_self, and_self, or_true, true_or, reduceCtorEq, *]; done) | fail) only [c_ident_Has, wl_ident_Has_0, s_ident_Has_0, c_ident_Has_l0, wb_ident_Has_0, c_ident_Has_k0, go_sem, Nat.reduceAdd, Nat.reduceSub, Nat.reduceMul, Nat.reduceLT, Nat.reduceLeDiff, Int.reduceToNat, Nat.reduceEqDiff, Nat.reduceBEq, ↓reduceIte, reduceCtorEq, eA]
    refine walk0 (its := [.c c_ident_Has_k0]) 100 trivial (fun A eA => ?_)
    simp (disch := first | omega | (simp only [avs_len, List.length_cons, List.length_append, List.length_nil, List.length_take, List.length_drop, List.length_map]; omega) | (simp only [cells, scal1, allSz, List.length_cons, List.length_nil, List.length_append, List.length_map, List.all_cons, List.all_nil, avs_len, beq_self_eq_true, Bool.and_self, and_self, or_true, true_or, reduceCtorEq, *]; done) | fail) only [c_ident_Has, wl_ident_Has_0, s_ident_Has_0, c_ident_Has_l0, wb_ident_Has_0, c_ident_Has_k0, go_sem, Nat.reduceAdd, Nat.reduceSub, Nat.reduceMul, Nat.reduceLT, Nat.reduceLeDiff, Int.reduceToNat, Nat.reduceEqDiff, Nat.reduceBEq, ↓reduceIte, reduceCtorEq, eA]
    exact doneG rfl
  | nd l r ihl ihr =>
    intro p hp nx
    have h0 : (B.nd l r).t.ps = [l.t, r.t] := rfl
    have h1 : ¬ (B.nd l r).t.ps.length = 0 := by rw [h0]; simp
    have g0 : (tavs [l.t, r.t])[0]? = some (tv l.t) := by rw [tavs_get]; rfl
    have g1 : (tavs [l.t, r.t])[1]? = some (tv r.t) := by rw [tavs_get]; rfl
    have e1 : ishr .u8 (p : Int) 7 = ((p / 128 : Nat) : Int) := by
      have := ishr_nat .u8 .u64 p 7 (by decide); simpa using this
    have e2 : ishl .u8 (p : Int) 1 = ((p * 2 % 256 : Nat) : Int) := by
      have : ishl .u8 (p : Int) 1 = IntKind.u8.wrap ((p * 2 : Nat) : Int) := by simp [ishl, IntKind.bits]
      rw [this]; unfold IntKind.wrap; simp [IntKind.bits, IntKind.signed]; try omega
    refine round (its := [.blk 0 wb_ident_Has_0]) (k0 := [.c c_ident_Has_k0]) 100 trivial trivial (fun A eA => ?_)
    simp (disch := first | omega | (simp only [avs_len, List.length_cons, List.length_append, List.length_nil, List.length_take, List.length_drop, List.length_map]; omega) | (simp only [cells, scal1, allSz, List.length_cons, List.length_nil, List.length_append, List.length_map, List.all_cons, List.all_nil, avs_len, beq_self_eq_true, Bool.and_self, and_self, or_true, true_or, reduceCtorEq, *]; done) | fail) only [c_ident_Has, wl_ident_Has_0, s_ident_Has_0, c_ident_Has_l0, wb_ident_Has_0, c_ident_Has_k0, go_sem, Nat.reduceAdd, Nat.reduceSub, Nat.reduceMul, Nat.reduceLT, Nat.reduceLeDiff, Int.reduceToNat, Nat.reduceEqDiff, Nat.reduceBEq, ↓reduceIte, reduceCtorEq, eA]
    refine call0 100 trivial trivial (leaf_calls (B.nd l r).t) (.inl rfl) (fun A eA => ?_)
    simp only [hasB]
    by_cases hz : p / 128 = 0
    · rw [if_pos hz]
      simp (disch := first | omega | (simp only [avs_len, List.length_cons, List.length_append, List.length_nil, List.length_take, List.length_drop, List.length_map]; omega) | (simp only [cells, scal1, allSz, List.length_cons, List.length_nil, List.length_append, List.length_map, List.all_cons, List.all_nil, avs_len, beq_self_eq_true, Bool.and_self, and_self, or_true, true_or, reduceCtorEq, *]; done) | fail) only [c_ident_Has, wl_ident_Has_0, s_ident_Has_0, c_ident_Has_l0, wb_ident_Has_0, c_ident_Has_k0, go_sem, Nat.reduceAdd, Nat.reduceSub, Nat.reduceMul, Nat.reduceLT, Nat.reduceLeDiff, Int.reduceToNat, Nat.reduceEqDiff, Nat.reduceBEq, ↓reduceIte, reduceCtorEq, eA, h0, e1, e2, hz, Int.toNat_natCast, g0, scal1, List.all_cons, List.all_nil, Bool.and_self]
      exact ihl (p * 2 % 256) (by omega) nx
    · rw [if_neg hz]
      have hz1 : p / 128 = 1 := by omega
      simp (disch := first | omega | (simp only [avs_len, List.length_cons, List.length_append, List.length_nil, List.length_take, List.length_drop, List.length_map]; omega) | (simp only [cells, scal1, allSz, List.length_cons, List.length_nil, List.length_append, List.length_map, List.all_cons, List.all_nil, avs_len, beq_self_eq_true, Bool.and_self, and_self, or_true, true_or, reduceCtorEq, *]; done) | fail) only [c_ident_Has, wl_ident_Has_0, s_ident_Has_0, c_ident_Has_l0, wb_ident_Has_0, c_ident_Has_k0, go_sem, Nat.reduceAdd, Nat.reduceSub, Nat.reduceMul, Nat.reduceLT, Nat.reduceLeDiff, Int.reduceToNat, Nat.reduceEqDiff, Nat.reduceBEq, ↓reduceIte, reduceCtorEq, eA, h0, e1, e2, hz1, Int.toNat_natCast, g1, scal1, List.all_cons, List.all_nil, Bool.and_self]
      exact ihr (p * 2 % 256) (by omega) nx
/-- Has it that place? -/
noncomputable def hasT (t : Tree) (p : Nat) : Bool := @dite _ (Rt t) (Classical.propDecidable _) (fun h => hasB h.choose p) (fun _ => false)
theorem Has_calls (t : Tree) (p : Nat) (hp : p < 256) : PCalls Try.prog F_ident_Has [tv t, .int .u8 (p : Nat)] (.bool (hasT t p)) := by
  refine calls_ident_Has (walk0 100 trivial (fun A eA => ?_))
  simp (disch := first | omega | (simp only [avs_len, List.length_cons, List.length_append, List.length_nil, List.length_take, List.length_drop, List.length_map]; omega) | (simp only [cells, scal1, allSz, List.length_cons, List.length_nil, List.length_append, List.length_map, List.all_cons, List.all_nil, avs_len, beq_self_eq_true, Bool.and_self, and_self, or_true, true_or, reduceCtorEq, *]; done) | fail) only [c_ident_Has, wl_ident_Has_0, s_ident_Has_0, c_ident_Has_l0, wb_ident_Has_0, c_ident_Has_k0, go_sem, Nat.reduceAdd, Nat.reduceSub, Nat.reduceMul, Nat.reduceLT, Nat.reduceLeDiff, Int.reduceToNat, Nat.reduceEqDiff, Nat.reduceBEq, ↓reduceIte, reduceCtorEq, eA, scal1, tavs_len, List.all_cons, List.all_nil, Bool.and_self]
  refine call0 100 trivial trivial (right_calls t) (.inl rfl) (fun A eA => ?_)
  by_cases hr : Rt t
  · rw [rtb_true.2 hr]
    simp (disch := first | omega | (simp only [avs_len, List.length_cons, List.length_append, List.length_nil, List.length_take, List.length_drop, List.length_map]; omega) | (simp only [cells, scal1, allSz, List.length_cons, List.length_nil, List.length_append, List.length_map, List.all_cons, List.all_nil, avs_len, beq_self_eq_true, Bool.and_self, and_self, or_true, true_or, reduceCtorEq, *]; done) | fail) only [c_ident_Has, wl_ident_Has_0, s_ident_Has_0, c_ident_Has_l0, wb_ident_Has_0, c_ident_Has_k0, go_sem, Nat.reduceAdd, Nat.reduceSub, Nat.reduceMul, Nat.reduceLT, Nat.reduceLeDiff, Int.reduceToNat, Nat.reduceEqDiff, Nat.reduceBEq, ↓reduceIte, reduceCtorEq, eA]
    have h1 := hr.choose_spec.1
    have h2 : hasT t p = hasB hr.choose p := by simp only [hasT]; rw [dif_pos hr]
    rw [h2]
    have := Has_loop hr.choose p hp (bump zeroC 2)
    rw [← h1] at this
    exact this
  · rw [show rtb t = false by rw [Bool.eq_false_iff, ne_eq, rtb_true]; exact hr]
    simp (disch := first | omega | (simp only [avs_len, List.length_cons, List.length_append, List.length_nil, List.length_take, List.length_drop, List.length_map]; omega) | (simp only [cells, scal1, allSz, List.length_cons, List.length_nil, List.length_append, List.length_map, List.all_cons, List.all_nil, avs_len, beq_self_eq_true, Bool.and_self, and_self, or_true, true_or, reduceCtorEq, *]; done) | fail) only [c_ident_Has, wl_ident_Has_0, s_ident_Has_0, c_ident_Has_l0, wb_ident_Has_0, c_ident_Has_k0, go_sem, Nat.reduceAdd, Nat.reduceSub, Nat.reduceMul, Nat.reduceLT, Nat.reduceLeDiff, Int.reduceToNat, Nat.reduceEqDiff, Nat.reduceBEq, ↓reduceIte, reduceCtorEq, eA]
    rw [show hasT t p = false by simp only [hasT]; rw [dif_neg hr]]
    exact doneG rfl
abbrev rowsB (b : B) (i : Nat) : List AV := (List.range i).map (fun p => AV.bool (rowB b p 64)) ++ List.replicate (128 - i) (.bool false)
theorem row_inner (o : AV) (p : Nat) (hp : p < 128) (t1 t3 t9 t10 : AV) (g7 : Nat) (cs : List AV) (hk : flat k) (g5 : Nat) (nx : Ctr) : ∀ (b : B) (i : Nat), i + b.dep ≤ 8 →
    (∀ x : AV, scal1 x = true → RunsX Try.prog φ R k (e_ref04_Row_2 t1 t3 (.int .i64 (p : Nat)) (.ptr φ 5 g5 0) t9 t10) [(φ, 5, g5, some [.bool (rowB b p (64 / 2 ^ i)), x]), (φ, 7, g7, some cs)] nx) →
    RunsX Try.prog φ R (i_ref04_Row_2 ++ k) (s_ref04_Row_2 t1 t3 (.int .i64 (p : Nat)) (.ptr φ 5 g5 0) (.int .i64 ((64 / 2 ^ i : Nat) : Int)) t9 t10) [(φ, 5, g5, some [.bool b.t.one, .fz 2 (tavs b.t.ps) none]), (φ, 7, g7, some cs)] nx := by
  intro b
  induction b with
  | lf o =>
    intro i hi h
    have h0 : (B.lf o).t.ps.length = 0 := rfl
    refine round (its := [.blk 2 wb_ref04_Row_2]) 100 hk trivial (fun A eA => ?_)
    simp (disch := first | omega | (simp only [avs_len, List.length_cons, List.length_append, List.length_nil, List.length_take, List.length_drop, List.length_map]; omega) | (simp only [cells, scal1, allSz, List.length_cons, List.length_nil, List.length_append, List.length_map, List.all_cons, List.all_nil, avs_len, beq_self_eq_true, Bool.and_self, and_self, or_true, true_or, reduceCtorEq, *]; done) | fail) only [c_ref04_Row, wl_ref04_Row_2, s_ref04_Row_2, c_ref04_Row_l2, wb_ref04_Row_2, c_ref04_Row_k0, wb_ref04_Row_1, c_ref04_Row_k1, wl_ref04_Row_0, s_ref04_Row_0, c_ref04_Row_l0, wb_ref04_Row_0, c_ref04_Row_k2, go_sem, Nat.reduceAdd, Nat.reduceSub, Nat.reduceMul, Nat.reduceLT, Nat.reduceLeDiff, Int.reduceToNat, Nat.reduceEqDiff, Nat.reduceBEq, ↓reduceIte, reduceCtorEq, eA, tavs_len]
    exact h _ rfl
  | nd l r ihl ihr =>
    intro i hi h
    have h0 : (B.nd l r).t.ps = [l.t, r.t] := rfl
    have g0 : (tavs [l.t, r.t])[0]? = some (tv l.t) := by rw [tavs_get]; rfl
    have g1 : (tavs [l.t, r.t])[1]? = some (tv r.t) := by rw [tavs_get]; rfl
    simp only [B.dep] at hi
    have hi6 : i ≤ 6 := by
      have : 1 ≤ l.dep := by cases l <;> simp [B.dep]
      omega
    have hpow : 64 / 2 ^ i = 2 ^ (6 - i) := by
      match i, hi6 with
      | 0, _ => rfl
      | 1, _ => rfl
      | 2, _ => rfl
      | 3, _ => rfl
      | 4, _ => rfl
      | 5, _ => rfl
      | 6, _ => rfl
    have hpos : 0 < 2 ^ (6 - i) := Nat.pow_pos (by omega)
    have hle : 64 / 2 ^ i ≤ 64 := Nat.div_le_self _ _
    obtain ⟨q, hq⟩ : ∃ q, q = 64 / 2 ^ i := ⟨_, rfl⟩
    rw [← hpow] at hpos
    rw [← hq] at hpos hle h ⊢
    have hq2 : q / 2 = 64 / 2 ^ (i + 1) := by rw [hq, Nat.div_div_eq_div_mul, Nat.pow_succ]
    have hpq : p / q ≤ p := Nat.div_le_self _ _
    simp only [rowB] at h
    have e1 : (p : Int).tdiv (q : Int) = ((p / q : Nat) : Int) := by rw [Int.tdiv_eq_ediv_of_nonneg (by omega)]; simp
    generalize p / q = m at h e1 hpq
    have e2 : IntKind.i64.wrap (m : Int) = (m : Int) := by rw [IntKind.wrap_i64]; omega
    have e3 : (m : Int).tmod 2 = ((m % 2 : Nat) : Int) := by rw [Int.tmod_eq_emod_of_nonneg (by omega)]; omega
    have e4 : (q : Int).tdiv 2 = ((q / 2 : Nat) : Int) := by rw [Int.tdiv_eq_ediv_of_nonneg (by omega)]; omega
    have e5 : IntKind.i64.wrap ((q / 2 : Nat) : Int) = ((q / 2 : Nat) : Int) := by rw [IntKind.wrap_i64]; omega
    refine round (its := [.blk 2 wb_ref04_Row_2]) 100 hk trivial (fun A eA => ?_)
    by_cases hz : m % 2 = 0
    · rw [if_pos hz, hq2] at h
      simp (disch := first | omega | (simp only [avs_len, List.length_cons, List.length_append, List.length_nil, List.length_take, List.length_drop, List.length_map]; omega) | (simp only [cells, scal1, allSz, List.length_cons, List.length_nil, List.length_append, List.length_map, List.all_cons, List.all_nil, avs_len, beq_self_eq_true, Bool.and_self, and_self, or_true, true_or, reduceCtorEq, *]; done) | fail) only [c_ref04_Row, wl_ref04_Row_2, s_ref04_Row_2, c_ref04_Row_l2, wb_ref04_Row_2, c_ref04_Row_k0, wb_ref04_Row_1, c_ref04_Row_k1, wl_ref04_Row_0, s_ref04_Row_0, c_ref04_Row_l0, wb_ref04_Row_0, c_ref04_Row_k2, go_sem, Nat.reduceAdd, Nat.reduceSub, Nat.reduceMul, Nat.reduceLT, Nat.reduceLeDiff, Int.reduceToNat, Nat.reduceEqDiff, Nat.reduceBEq, ↓reduceIte, reduceCtorEq, eA, tavs_len, h0, e1, e2, e3, hz, e4, e5, Int.toNat_natCast, g0, scal1, List.all_cons, List.all_nil, Bool.and_self]
      rw [hq2]
      exact ihl (i + 1) (by omega) h
    · rw [if_neg hz, hq2] at h
      have hz1 : m % 2 = 1 := by omega
      simp (disch := first | omega | (simp only [avs_len, List.length_cons, List.length_append, List.length_nil, List.length_take, List.length_drop, List.length_map]; omega) | (simp only [cells, scal1, allSz, List.length_cons, List.length_nil, List.length_append, List.length_map, List.all_cons, List.all_nil, avs_len, beq_self_eq_true, Bool.and_self, and_self, or_true, true_or, reduceCtorEq, *]; done) | fail) only [c_ref04_Row, wl_ref04_Row_2, s_ref04_Row_2, c_ref04_Row_l2, wb_ref04_Row_2, c_ref04_Row_k0, wb_ref04_Row_1, c_ref04_Row_k1, wl_ref04_Row_0, s_ref04_Row_0, c_ref04_Row_l0, wb_ref04_Row_0, c_ref04_Row_k2, go_sem, Nat.reduceAdd, Nat.reduceSub, Nat.reduceMul, Nat.reduceLT, Nat.reduceLeDiff, Int.reduceToNat, Nat.reduceEqDiff, Nat.reduceBEq, ↓reduceIte, reduceCtorEq, eA, tavs_len, h0, e1, e2, e3, hz1, e4, e5, Int.toNat_natCast, g1, scal1, List.all_cons, List.all_nil, Bool.and_self]
      rw [hq2]
      exact ihr (i + 1) (by omega) h
theorem rows_put (b : B) (i : Nat) (hi : i < 128) (x : AV) (hx : x = .bool (rowB b i 64)) : (rowsB b i).take i ++ [x] ++ (rowsB b i).drop (i + 1) = rowsB b (i + 1) := by
  subst hx
  have h1 : ((List.range i).map (fun p => AV.bool (rowB b p 64))).length = i := by simp
  have h2 : (rowsB b i).take i = (List.range i).map (fun p => AV.bool (rowB b p 64)) := by
    show List.take i (_ ++ _) = _
    rw [List.take_append_of_le_length (by simp), List.take_of_length_le (by simp)]
  have h3 : (rowsB b i).drop (i + 1) = List.replicate (128 - (i + 1)) (.bool false) := by
    show List.drop (i + 1) (_ ++ _) = _
    rw [List.drop_append, List.drop_of_length_le (by simp), h1, show i + 1 - i = 1 by omega, List.drop_replicate, List.nil_append]
    congr 1
  rw [h2, h3]
  show _ = List.map _ (List.range (i + 1)) ++ _
  rw [List.range_succ, List.map_append]
  rfl
theorem rows_len (b : B) (i : Nat) (hi : i ≤ 128) : (rowsB b i).length = 128 := by simp; omega
theorem frz_bools {α : Type} (n : Nat) (H : Heap) : ∀ (cs : List AV) (ok : List AV → List (Nat × Nat) → α) (bd : α), (∀ x ∈ cs, ∃ b, x = .bool b) → mapK (frzK (n + 1) H) cs ok bd = ok cs []
  | [], ok, bd, _ => by simp [mapK]
  | c :: cs, ok, bd, h => by
    obtain ⟨b, rfl⟩ := h _ List.mem_cons_self
    simp only [mapK, frzK_bool, frz_bools n H cs _ _ (fun x hx => h x (List.mem_cons_of_mem _ hx)), List.append_nil]
theorem rows_bool (b : B) (i : Nat) : ∀ x ∈ rowsB b i, ∃ c, x = .bool c := by
  intro x hx
  rcases List.mem_append.1 hx with h | h
  · obtain ⟨p, _, rfl⟩ := List.mem_map.1 h; exact ⟨_, rfl⟩
  · exact ⟨_, List.eq_of_mem_replicate h⟩
theorem Row_loop (b : B) (hd : b.dep ≤ 8) : ∀ (n i : Nat), i + n = 128 → ∀ nx : Ctr, 
    RunsX Try.prog 0 (Gives [.t 2] (.fz 1 (rowsB b 128) none)) (i_ref04_Row_0 ++ [.c c_ref04_Row_k2]) (s_ref04_Row_0 (.ro [.bool b.t.one, .fz 2 (tavs b.t.ps) none]) (.sl 0 7 0 1 0 128) (.int .i64 128) (.int .i64 (i : Nat))) [(0, 7, 0, some (rowsB b i))] nx := by
  intro n
  induction n with
  | zero =>
    intro i hi nx
    obtain rfl : i = 128 := by omega
    have hlen := rows_len b 128 (by omega)
    have hbo := rows_bool b 128
    generalize rowsB b 128 = cs at hlen hbo ⊢
    refine round (its := [.blk 0 wb_ref04_Row_0]) (k0 := [.c c_ref04_Row_k2]) 100 trivial trivial (fun A eA => ?_)
    simp (disch := first | omega | (simp only [avs_len, List.length_cons, List.length_append, List.length_nil, List.length_take, List.length_drop, List.length_map]; omega) | (simp only [cells, scal1, allSz, List.length_cons, List.length_nil, List.length_append, List.length_map, List.all_cons, List.all_nil, avs_len, beq_self_eq_true, Bool.and_self, and_self, or_true, true_or, reduceCtorEq, *]; done) | fail) only [c_ref04_Row, wl_ref04_Row_2, s_ref04_Row_2, c_ref04_Row_l2, wb_ref04_Row_2, c_ref04_Row_k0, wb_ref04_Row_1, c_ref04_Row_k1, wl_ref04_Row_0, s_ref04_Row_0, c_ref04_Row_l0, wb_ref04_Row_0, c_ref04_Row_k2, go_sem, Nat.reduceAdd, Nat.reduceSub, Nat.reduceMul, Nat.reduceLT, Nat.reduceLeDiff, Int.reduceToNat, Nat.reduceEqDiff, Nat.reduceBEq, ↓reduceIte, reduceCtorEq, eA]
    refine walk0 (its := [.c c_ref04_Row_k2]) 100 trivial (fun A eA => ?_)
    simp (disch := first | omega | (simp only [avs_len, List.length_cons, List.length_append, List.length_nil, List.length_take, List.length_drop, List.length_map]; omega) | (simp only [cells, scal1, allSz, List.length_cons, List.length_nil, List.length_append, List.length_map, List.all_cons, List.all_nil, avs_len, beq_self_eq_true, Bool.and_self, and_self, or_true, true_or, reduceCtorEq, *]; done) | fail) only [c_ref04_Row, wl_ref04_Row_2, s_ref04_Row_2, c_ref04_Row_l2, wb_ref04_Row_2, c_ref04_Row_k0, wb_ref04_Row_1, c_ref04_Row_k1, wl_ref04_Row_0, s_ref04_Row_0, c_ref04_Row_l0, wb_ref04_Row_0, c_ref04_Row_k2, go_sem, Nat.reduceAdd, Nat.reduceSub, Nat.reduceMul, Nat.reduceLT, Nat.reduceLeDiff, Int.reduceToNat, Nat.reduceEqDiff, Nat.reduceBEq, ↓reduceIte, reduceCtorEq, eA]
    refine doneG ?_
    have ht : List.take 128 cs = cs := by rw [← hlen, List.take_length]
    have hz : ∀ {α : Type} (n : Nat) (H : Heap) (ok : List AV → List (Nat × Nat) → α) (bd : α), mapK (frzK (n + 1) H) cs ok bd = ok cs [] := fun n H ok bd => frz_bools n H cs ok bd hbo
    simp (disch := first | omega | (simp only [avs_len, List.length_cons, List.length_append, List.length_nil, List.length_take, List.length_drop, List.length_map]; omega) | (simp only [cells, scal1, allSz, List.length_cons, List.length_nil, List.length_append, List.length_map, List.all_cons, List.all_nil, avs_len, beq_self_eq_true, Bool.and_self, and_self, or_true, true_or, reduceCtorEq, *]; done) | fail) only [go_sem, Nat.reduceAdd, Nat.reduceSub, Nat.reduceMul, Nat.reduceLT, Nat.reduceLeDiff, Int.reduceToNat, Nat.reduceEqDiff, Nat.reduceBEq, ↓reduceIte, reduceCtorEq, ht, ↓hz, chunk]
  | succ n ih =>
    intro i hi nx
    have hlen := rows_len b i (by omega)
    have hput := rows_put b i (by omega) _ rfl
    have hih := ih (i + 1) (by omega)
    have w1 : IntKind.i64.wrap ((i : Int) + 1) = ((i + 1 : Nat) : Int) := by rw [IntKind.wrap_i64]; omega
    generalize rowsB b i = cs at hlen hput
    refine round (its := [.blk 0 wb_ref04_Row_0]) (k0 := [.c c_ref04_Row_k2]) 100 trivial trivial (fun A eA => ?_)
    simp (disch := first | omega | (simp only [avs_len, List.length_cons, List.length_append, List.length_nil, List.length_take, List.length_drop, List.length_map]; omega) | (simp only [cells, scal1, allSz, List.length_cons, List.length_nil, List.length_append, List.length_map, List.all_cons, List.all_nil, avs_len, beq_self_eq_true, Bool.and_self, and_self, or_true, true_or, reduceCtorEq, *]; done) | fail) only [c_ref04_Row, wl_ref04_Row_2, s_ref04_Row_2, c_ref04_Row_l2, wb_ref04_Row_2, c_ref04_Row_k0, wb_ref04_Row_1, c_ref04_Row_k1, wl_ref04_Row_0, s_ref04_Row_0, c_ref04_Row_l0, wb_ref04_Row_0, c_ref04_Row_k2, go_sem, Nat.reduceAdd, Nat.reduceSub, Nat.reduceMul, Nat.reduceLT, Nat.reduceLeDiff, Int.reduceToNat, Nat.reduceEqDiff, Nat.reduceBEq, ↓reduceIte, reduceCtorEq, eA, scal1, List.all_cons, List.all_nil, Bool.and_self]
    refine row_inner (.bool false) i (by omega) _ _ _ _ 0 cs (φ := 0) (k := [.c c_ref04_Row_k0, .blk 1 wb_ref04_Row_1, .c c_ref04_Row_k1, .lp wl_ref04_Row_0 c_ref04_Row_l0, .blk 0 wb_ref04_Row_0, .c c_ref04_Row_k2]) trivial (nx 5) (bump nx 5) b 0 (by omega) (fun x hx => ?_)
    refine walk 100 (its := [.c c_ref04_Row_k0, .blk 1 wb_ref04_Row_1, .c c_ref04_Row_k1, .lp wl_ref04_Row_0 c_ref04_Row_l0, .blk 0 wb_ref04_Row_0]) (k0 := [.c c_ref04_Row_k2]) trivial trivial (fun A eA => ?_)
    have hcs : cs.length = 128 := hlen
    simp (disch := first | omega | (simp only [avs_len, List.length_cons, List.length_append, List.length_nil, List.length_take, List.length_drop, List.length_map]; omega) | (simp only [cells, scal1, allSz, List.length_cons, List.length_nil, List.length_append, List.length_map, List.all_cons, List.all_nil, avs_len, beq_self_eq_true, Bool.and_self, and_self, or_true, true_or, reduceCtorEq, *]; done) | fail) only [c_ref04_Row, wl_ref04_Row_2, s_ref04_Row_2, c_ref04_Row_l2, wb_ref04_Row_2, c_ref04_Row_k0, wb_ref04_Row_1, c_ref04_Row_k1, wl_ref04_Row_0, s_ref04_Row_0, c_ref04_Row_l0, wb_ref04_Row_0, c_ref04_Row_k2, go_sem, Nat.reduceAdd, Nat.reduceSub, Nat.reduceMul, Nat.reduceLT, Nat.reduceLeDiff, Int.reduceToNat, Nat.reduceEqDiff, Nat.reduceBEq, ↓reduceIte, reduceCtorEq, eA, scal1, List.all_cons, List.all_nil, Bool.and_self, Int.toNat_natCast, w1, hlen, hput]
    exact hih (bump nx 5)
theorem Row_calls (b : B) (hd : b.dep ≤ 8) : PCalls Try.prog F_ref04_Row [tv b.t] (.fz 1 (rowsB b 128) none) := by
  refine calls_ref04_Row ?_
  simp only [List.replicate, List.length_cons, List.length_nil, Nat.reduceAdd, Nat.reduceSub, List.cons_append, List.nil_append]
  refine walk0 100 trivial (fun A eA => ?_)
  simp (disch := first | omega | (simp only [avs_len, List.length_cons, List.length_append, List.length_nil, List.length_take, List.length_drop, List.length_map]; omega) | (simp only [cells, scal1, allSz, List.length_cons, List.length_nil, List.length_append, List.length_map, List.all_cons, List.all_nil, avs_len, beq_self_eq_true, Bool.and_self, and_self, or_true, true_or, reduceCtorEq, *]; done) | fail) only [c_ref04_Row, wl_ref04_Row_2, s_ref04_Row_2, c_ref04_Row_l2, wb_ref04_Row_2, c_ref04_Row_k0, wb_ref04_Row_1, c_ref04_Row_k1, wl_ref04_Row_0, s_ref04_Row_0, c_ref04_Row_l0, wb_ref04_Row_0, c_ref04_Row_k2, go_sem, Nat.reduceAdd, Nat.reduceSub, Nat.reduceMul, Nat.reduceLT, Nat.reduceLeDiff, Int.reduceToNat, Nat.reduceEqDiff, Nat.reduceBEq, ↓reduceIte, reduceCtorEq, eA, scal1, List.all_cons, List.all_nil, Bool.and_self]
  exact Row_loop b hd 128 0 rfl (bump zeroC 7)
end Go.Proofs.Ytmokhopjnjecbab
