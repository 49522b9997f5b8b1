/- THE LAW StampBytes: a right stamp is put and taken as it was; of whatever bytes only right ones are taken: the row's function answers true and leaves memory as it was.
   The walks step through the compiled bodies; here the row's reading of the arguments is opened and the answer shut. -/
import Derived.Test.YtmokhopjnjecbabM5
import Derived.SizedLaws
import Derived.ChangeSlices
import Derived.ProofKit
import Derived.OpenShut
import Derived.ShutString
import Derived.ChangeOld
import Derived.ChangeMaps5
import Derived.Below
-- short
-- fuel 300
namespace Go.Proofs.Ytmokhopjnjecbab
open Go.Ev
set_option linter.unusedVariables false
set_option linter.unusedSimpArgs false
set_option maxRecDepth 100000
set_option maxHeartbeats 1600000
abbrev stv (t : Tree) (e : ET) : AV := .agg [.bool t.one, .fz 2 (tavs t.ps) none, .int .i64 e.n, .fz 2 (xtavs e.ps) none]
/-- A right stamp. -/
def RtS (t : Tree) (e : ET) : Prop := Rt t ∧ ¬ (t.ps.length = 0 ∧ t.one = false) ∧ XRt e
theorem rtb_no {t : Tree} (h : ¬ Rt t) : rtb t = false := by rw [Bool.eq_false_iff, ne_eq, rtb_true]; exact h
theorem stRight_yes {t : Tree} {e : ET} (h : RtS t e) : PCalls Try.prog F_stamp_Right [stv t e] (.bool true) := by
  obtain ⟨h1, h2, h3⟩ := h
  have c1 := right_calls t
  have c2 := nothing_calls t
  have c3 := xright_calls e
  rw [rtb_true.2 h1] at c1
  rw [xrtb_true.2 h3] at c3
  have e2 : (decide (t.ps.length = 0) && !t.one) = false := by
    cases ho : t.one
    · have : ¬ t.ps.length = 0 := fun e => h2 ⟨e, ho⟩
      simp [this]
    · simp
  rw [e2] at c2
  refine calls_stamp_Right (walk0 300 trivial (fun A eA => ?_))
  simp (disch := first | omega | (simp only [avs_len, List.length_cons, List.length_append, List.length_nil, List.length_take, List.length_drop, List.length_map]; omega) | (simp only [cells, scal1, allSz, List.length_cons, List.length_nil, List.length_append, List.length_map, List.all_cons, List.all_nil, avs_len, beq_self_eq_true, Bool.and_self, and_self, or_true, true_or, reduceCtorEq, *]; done) | fail) only [c_stamp_Right, go_sem, Nat.reduceAdd, Nat.reduceSub, Nat.reduceMul, Nat.reduceLT, Nat.reduceLeDiff, Int.reduceToNat, Nat.reduceEqDiff, Nat.reduceBEq, ↓reduceIte, reduceCtorEq, eA, scal1]
  repeat ((first | refine call0 300 trivial trivial (by first | exact c1 | exact c2 | exact c3) (by first | exact .inl rfl | exact .inr rfl) (fun A eA => ?_) | refine call1 300 trivial trivial (by first | exact c1 | exact c2 | exact c3) (fun A eA => ?_)); simp (disch := first | omega | (simp only [avs_len, List.length_cons, List.length_append, List.length_nil, List.length_take, List.length_drop, List.length_map]; omega) | (simp only [cells, scal1, allSz, List.length_cons, List.length_nil, List.length_append, List.length_map, List.all_cons, List.all_nil, avs_len, beq_self_eq_true, Bool.and_self, and_self, or_true, true_or, reduceCtorEq, *]; done) | fail) only [c_stamp_Right, go_sem, Nat.reduceAdd, Nat.reduceSub, Nat.reduceMul, Nat.reduceLT, Nat.reduceLeDiff, Int.reduceToNat, Nat.reduceEqDiff, Nat.reduceBEq, ↓reduceIte, reduceCtorEq, eA, scal1])
  exact doneG rfl
theorem stRight_no {t : Tree} {e : ET} (h : ¬ RtS t e) : PCalls Try.prog F_stamp_Right [stv t e] (.bool false) := by
  have c1 := right_calls t
  have c2 := nothing_calls t
  have c3 := xright_calls e
  by_cases h1 : Rt t
  · rw [rtb_true.2 h1] at c1
    by_cases h2 : t.ps.length = 0 ∧ t.one = false
    · have e2 : (decide (t.ps.length = 0) && !t.one) = true := by simp [h2]
      rw [e2] at c2
      refine calls_stamp_Right (walk0 300 trivial (fun A eA => ?_))
      simp (disch := first | omega | (simp only [avs_len, List.length_cons, List.length_append, List.length_nil, List.length_take, List.length_drop, List.length_map]; omega) | (simp only [cells, scal1, allSz, List.length_cons, List.length_nil, List.length_append, List.length_map, List.all_cons, List.all_nil, avs_len, beq_self_eq_true, Bool.and_self, and_self, or_true, true_or, reduceCtorEq, *]; done) | fail) only [c_stamp_Right, go_sem, Nat.reduceAdd, Nat.reduceSub, Nat.reduceMul, Nat.reduceLT, Nat.reduceLeDiff, Int.reduceToNat, Nat.reduceEqDiff, Nat.reduceBEq, ↓reduceIte, reduceCtorEq, eA, scal1]
      repeat ((first | refine call0 300 trivial trivial (by first | exact c1 | exact c2 | exact c3) (by first | exact .inl rfl | exact .inr rfl) (fun A eA => ?_) | refine call1 300 trivial trivial (by first | exact c1 | exact c2 | exact c3) (fun A eA => ?_)); simp (disch := first | omega | (simp only [avs_len, List.length_cons, List.length_append, List.length_nil, List.length_take, List.length_drop, List.length_map]; omega) | (simp only [cells, scal1, allSz, List.length_cons, List.length_nil, List.length_append, List.length_map, List.all_cons, List.all_nil, avs_len, beq_self_eq_true, Bool.and_self, and_self, or_true, true_or, reduceCtorEq, *]; done) | fail) only [c_stamp_Right, go_sem, Nat.reduceAdd, Nat.reduceSub, Nat.reduceMul, Nat.reduceLT, Nat.reduceLeDiff, Int.reduceToNat, Nat.reduceEqDiff, Nat.reduceBEq, ↓reduceIte, reduceCtorEq, eA, scal1])
      exact doneG rfl
    · have h3 : ¬ XRt e := fun h3 => h ⟨h1, h2, h3⟩
      rw [xrtb_no h3] at c3
      have e2 : (decide (t.ps.length = 0) && !t.one) = false := by
        cases ho : t.one
        · have : ¬ t.ps.length = 0 := fun e => h2 ⟨e, ho⟩
          simp [this]
        · simp
      rw [e2] at c2
      refine calls_stamp_Right (walk0 300 trivial (fun A eA => ?_))
      simp (disch := first | omega | (simp only [avs_len, List.length_cons, List.length_append, List.length_nil, List.length_take, List.length_drop, List.length_map]; omega) | (simp only [cells, scal1, allSz, List.length_cons, List.length_nil, List.length_append, List.length_map, List.all_cons, List.all_nil, avs_len, beq_self_eq_true, Bool.and_self, and_self, or_true, true_or, reduceCtorEq, *]; done) | fail) only [c_stamp_Right, go_sem, Nat.reduceAdd, Nat.reduceSub, Nat.reduceMul, Nat.reduceLT, Nat.reduceLeDiff, Int.reduceToNat, Nat.reduceEqDiff, Nat.reduceBEq, ↓reduceIte, reduceCtorEq, eA, scal1]
      repeat ((first | refine call0 300 trivial trivial (by first | exact c1 | exact c2 | exact c3) (by first | exact .inl rfl | exact .inr rfl) (fun A eA => ?_) | refine call1 300 trivial trivial (by first | exact c1 | exact c2 | exact c3) (fun A eA => ?_)); simp (disch := first | omega | (simp only [avs_len, List.length_cons, List.length_append, List.length_nil, List.length_take, List.length_drop, List.length_map]; omega) | (simp only [cells, scal1, allSz, List.length_cons, List.length_nil, List.length_append, List.length_map, List.all_cons, List.all_nil, avs_len, beq_self_eq_true, Bool.and_self, and_self, or_true, true_or, reduceCtorEq, *]; done) | fail) only [c_stamp_Right, go_sem, Nat.reduceAdd, Nat.reduceSub, Nat.reduceMul, Nat.reduceLT, Nat.reduceLeDiff, Int.reduceToNat, Nat.reduceEqDiff, Nat.reduceBEq, ↓reduceIte, reduceCtorEq, eA, scal1])
      exact doneG rfl
  · rw [rtb_no h1] at c1
    refine calls_stamp_Right (walk0 300 trivial (fun A eA => ?_))
    simp (disch := first | omega | (simp only [avs_len, List.length_cons, List.length_append, List.length_nil, List.length_take, List.length_drop, List.length_map]; omega) | (simp only [cells, scal1, allSz, List.length_cons, List.length_nil, List.length_append, List.length_map, List.all_cons, List.all_nil, avs_len, beq_self_eq_true, Bool.and_self, and_self, or_true, true_or, reduceCtorEq, *]; done) | fail) only [c_stamp_Right, go_sem, Nat.reduceAdd, Nat.reduceSub, Nat.reduceMul, Nat.reduceLT, Nat.reduceLeDiff, Int.reduceToNat, Nat.reduceEqDiff, Nat.reduceBEq, ↓reduceIte, reduceCtorEq, eA, scal1]
    repeat ((first | refine call0 300 trivial trivial (by first | exact c1 | exact c2 | exact c3) (by first | exact .inl rfl | exact .inr rfl) (fun A eA => ?_) | refine call1 300 trivial trivial (by first | exact c1 | exact c2 | exact c3) (fun A eA => ?_)); simp (disch := first | omega | (simp only [avs_len, List.length_cons, List.length_append, List.length_nil, List.length_take, List.length_drop, List.length_map]; omega) | (simp only [cells, scal1, allSz, List.length_cons, List.length_nil, List.length_append, List.length_map, List.all_cons, List.all_nil, avs_len, beq_self_eq_true, Bool.and_self, and_self, or_true, true_or, reduceCtorEq, *]; done) | fail) only [c_stamp_Right, go_sem, Nat.reduceAdd, Nat.reduceSub, Nat.reduceMul, Nat.reduceLT, Nat.reduceLeDiff, Int.reduceToNat, Nat.reduceEqDiff, Nat.reduceBEq, ↓reduceIte, reduceCtorEq, eA, scal1])
    exact doneG rfl
theorem stSame_calls (t : Tree) (e : ET) (h : RtS t e) : PCalls Try.prog F_stamp_Same [stv t e, stv t e] (.bool true) := by
  obtain ⟨⟨b, rfl, b1, b2, _⟩, _, ⟨x, rfl, x1, x2, _, _⟩⟩ := h
  have c1 := Same4_calls b.t b.t (by rw [B.t_size]; omega)
  have c2 := xSame4_calls x.t x.t (by rw [E.t_size]; omega)
  rw [(sm_iff 8 b.t b.t).2 ⟨rfl, (flat_dep 8 b).2 b1⟩] at c1
  rw [(xsm_iff 8 x.t x.t).2 ⟨rfl, (xflat_dep 8 x).2 x1⟩] at c2
  refine calls_stamp_Same (walk0 300 trivial (fun A eA => ?_))
  simp (disch := first | omega | (simp only [avs_len, List.length_cons, List.length_append, List.length_nil, List.length_take, List.length_drop, List.length_map]; omega) | (simp only [cells, scal1, allSz, List.length_cons, List.length_nil, List.length_append, List.length_map, List.all_cons, List.all_nil, avs_len, beq_self_eq_true, Bool.and_self, and_self, or_true, true_or, reduceCtorEq, *]; done) | fail) only [c_stamp_Same, go_sem, Nat.reduceAdd, Nat.reduceSub, Nat.reduceMul, Nat.reduceLT, Nat.reduceLeDiff, Int.reduceToNat, Nat.reduceEqDiff, Nat.reduceBEq, ↓reduceIte, reduceCtorEq, eA, scal1]
  repeat ((first | refine call0 300 trivial trivial (by first | exact c1 | exact c2) (by first | exact .inl rfl | exact .inr rfl) (fun A eA => ?_) | refine call1 300 trivial trivial (by first | exact c1 | exact c2) (fun A eA => ?_)); simp (disch := first | omega | (simp only [avs_len, List.length_cons, List.length_append, List.length_nil, List.length_take, List.length_drop, List.length_map]; omega) | (simp only [cells, scal1, allSz, List.length_cons, List.length_nil, List.length_append, List.length_map, List.all_cons, List.all_nil, avs_len, beq_self_eq_true, Bool.and_self, and_self, or_true, true_or, reduceCtorEq, *]; done) | fail) only [c_stamp_Same, go_sem, Nat.reduceAdd, Nat.reduceSub, Nat.reduceMul, Nat.reduceLT, Nat.reduceLeDiff, Int.reduceToNat, Nat.reduceEqDiff, Nat.reduceBEq, ↓reduceIte, reduceCtorEq, eA, scal1])
  exact doneG rfl
theorem stClone_calls (t : Tree) (e : ET) (h : RtS t e) : PCalls Try.prog F_stamp_Clone [stv t e] (stv t e) := by
  obtain ⟨⟨b, rfl, b1, b2, _⟩, _, ⟨x, rfl, x1, x2, _, _⟩⟩ := h
  have c1 := Clone_calls b.t (by rw [B.t_size]; omega)
  have c2 := xClone_calls x.t (by rw [E.t_size]; omega)
  have e1 : cloneT b.t = b.t := by unfold cloneT; rw [if_pos (flatb_true.2 ((flat_dep 8 b).2 b1))]
  have e2 : xcloneT x.t = x.t := by unfold xcloneT; rw [if_pos (xflatb_true.2 ((xflat_dep 8 x).2 x1))]
  rw [e1] at c1
  rw [e2] at c2
  refine calls_stamp_Clone (walk0 300 trivial (fun A eA => ?_))
  simp (disch := first | omega | (simp only [avs_len, List.length_cons, List.length_append, List.length_nil, List.length_take, List.length_drop, List.length_map]; omega) | (simp only [cells, scal1, allSz, List.length_cons, List.length_nil, List.length_append, List.length_map, List.all_cons, List.all_nil, avs_len, beq_self_eq_true, Bool.and_self, and_self, or_true, true_or, reduceCtorEq, *]; done) | fail) only [c_stamp_Clone, go_sem, Nat.reduceAdd, Nat.reduceSub, Nat.reduceMul, Nat.reduceLT, Nat.reduceLeDiff, Int.reduceToNat, Nat.reduceEqDiff, Nat.reduceBEq, ↓reduceIte, reduceCtorEq, eA, scal1]
  repeat ((first | refine call0 300 trivial trivial (by first | exact c1 | exact c2) (by first | exact .inl rfl | exact .inr rfl) (fun A eA => ?_) | refine call1 300 trivial trivial (by first | exact c1 | exact c2) (fun A eA => ?_)); simp (disch := first | omega | (simp only [avs_len, List.length_cons, List.length_append, List.length_nil, List.length_take, List.length_drop, List.length_map]; omega) | (simp only [cells, scal1, allSz, List.length_cons, List.length_nil, List.length_append, List.length_map, List.all_cons, List.all_nil, avs_len, beq_self_eq_true, Bool.and_self, and_self, or_true, true_or, reduceCtorEq, *]; done) | fail) only [c_stamp_Clone, go_sem, Nat.reduceAdd, Nat.reduceSub, Nat.reduceMul, Nat.reduceLT, Nat.reduceLeDiff, Int.reduceToNat, Nat.reduceEqDiff, Nat.reduceBEq, ↓reduceIte, reduceCtorEq, eA, scal1, List.all_cons, List.all_nil, Bool.and_self])
  exact doneG rfl
theorem stPut_puts (b : B) (x : E) (hb : b.dep ≤ 8) (hs : x.small = true) (hdp : x.dep ≤ 8) (hn : x.nodes ≤ 60) : Puts F_stamp_Put [stv b.t x.t] (putI b ++ putE x) := by
  intro f d g hd e bs nx he hl
  rw [List.length_append] at hl
  obtain ⟨k1, g1, nx1, hk1, h1⟩ := putI_puts b 8 hb (by omega) f d g hd e bs nx he (by omega)
  obtain ⟨k2, g2, nx2, hk2, h2⟩ := evPut_puts x hs hdp hn f d g hd (some (k1, g1)) (bs ++ putI b) nx1 hk1 (by rw [List.length_append]; omega)
  refine ⟨k2, g2, nx2, hk2, hcalls_stamp_Put 2 [(f, d), (1, k2)] (walk0 300 trivial (fun A eA => ?_))⟩
  simp (disch := first | omega | (simp only [avs_len, List.length_cons, List.length_append, List.length_nil, List.length_take, List.length_drop, List.length_map]; omega) | (simp only [cells, scal1, allSz, List.length_cons, List.length_nil, List.length_append, List.length_map, List.all_cons, List.all_nil, avs_len, beq_self_eq_true, Bool.and_self, and_self, or_true, true_or, reduceCtorEq, *]; done) | fail) only [c_stamp_Put, go_sem, Nat.reduceAdd, Nat.reduceSub, Nat.reduceMul, Nat.reduceLT, Nat.reduceLeDiff, Int.reduceToNat, Nat.reduceEqDiff, Nat.reduceBEq, ↓reduceIte, reduceCtorEq, eA, scal1]
  refine call2 300 trivial trivial (obK f d e) (obK_sel f d g _ e bs he) (obK_rest f d g _ e bs) h1 (.inl rfl) (fun A eA => ?_)
  simp (disch := first | omega | (simp only [avs_len, List.length_cons, List.length_append, List.length_nil, List.length_take, List.length_drop, List.length_map]; omega) | (simp only [cells, scal1, allSz, List.length_cons, List.length_nil, List.length_append, List.length_map, List.all_cons, List.all_nil, avs_len, beq_self_eq_true, Bool.and_self, and_self, or_true, true_or, reduceCtorEq, *]; done) | fail) only [c_stamp_Put, go_sem, Nat.reduceAdd, Nat.reduceSub, Nat.reduceMul, Nat.reduceLT, Nat.reduceLeDiff, Int.reduceToNat, Nat.reduceEqDiff, Nat.reduceBEq, ↓reduceIte, reduceCtorEq, eA, scal1]
  refine call2 300 trivial trivial (obK f d (some (k1, g1))) (obK_sel f d g _ (some (k1, g1)) _ hk1) (obK_rest f d g _ (some (k1, g1)) _) h2 (.inl rfl) (fun A eA => ?_)
  simp (disch := first | omega | (simp only [avs_len, List.length_cons, List.length_append, List.length_nil, List.length_take, List.length_drop, List.length_map]; omega) | (simp only [cells, scal1, allSz, List.length_cons, List.length_nil, List.length_append, List.length_map, List.all_cons, List.all_nil, avs_len, beq_self_eq_true, Bool.and_self, and_self, or_true, true_or, reduceCtorEq, *]; done) | fail) only [c_stamp_Put, go_sem, Nat.reduceAdd, Nat.reduceSub, Nat.reduceMul, Nat.reduceLT, Nat.reduceLeDiff, Int.reduceToNat, Nat.reduceEqDiff, Nat.reduceBEq, ↓reduceIte, reduceCtorEq, eA, scal1]
  rw [← List.append_assoc]
  exact fallH (ob_sel f d g _ k2 _ _ hk2.1) rfl rfl
open Classical in
/-- What Get gives. -/
noncomputable def gotS (s : InS) : (Tree × ET) × Bool := if (gotE (getI 8 s).2).2 = false ∨ ¬ RtS (getI 8 s).1 (gotE (getI 8 s).2).1 then ((.mk false [], .mk 0 []), false) else (((getI 8 s).1, (gotE (getI 8 s).2).1), true)
theorem wk_gotS (b : Bool) : Wk1 (.tup [.agg [.bool false, .nils, .int .i64 0, .nils], .bool b]) (.tup [stv (.mk false []) (.mk 0 []), .bool b]) := by
  refine Wk1.tup rfl (fun j x y hx hy => ?_)
  match j, hx, hy with
  | 0, hx, hy =>
    simp at hx hy; subst hx hy
    refine Wk1.agg rfl (fun j x y hx hy => ?_)
    match j, hx, hy with
    | 0, hx, hy => simp at hx hy; subst hx hy; exact Wk1.refl _
    | 1, hx, hy => simp at hx hy; subst hx hy; simp only [Tree.ps, tavs]; exact Wk1.nils 2
    | 2, hx, hy => simp at hx hy; subst hx hy; exact Wk1.refl _
    | 3, hx, hy => simp at hx hy; subst hx hy; simp only [ET.ps, xtavs]; exact Wk1.nils 2
    | j + 4, hx, hy => simp at hx
  | 1, hx, hy => simp at hx hy; subst hx hy; exact Wk1.refl _
  | j + 2, hx, hy => simp at hx
theorem got_some {s : InS} (h : (gotE s).2 = true) : ∃ r, (getE 8 s).2 = some r := by
  unfold gotE at h
  split at h
  · cases h
  · rename_i hn
    cases hg : (getE 8 s).2 with
    | none => exact absurd (.inl hg) hn
    | some r => exact ⟨r, rfl⟩
theorem stGet_takes {s : InS} (hs : OkIn s) : Takes F_stamp_Get [] s (getE 8 (getI 8 s).2).2 (.tup [stv (gotS s).1.1 (gotS s).1.2, .bool (gotS s).2]) := by
  intro f g nx hf
  have hFr := inE_free
  obtain ⟨nx1, h1⟩ := getI_takes 8 hs (by omega) f g (bump nx 2) hf
  obtain ⟨nx2, h2⟩ := evGet_takes (getI_ok 8 hs) f g (bump nx1 4) hf
  obtain ⟨nx3, h3⟩ := bad_takes (getE 8 (getI 8 s).2).2 f g (bump (bump nx2 5) 7) hf
  cases hb : (gotE (getI 8 s).2).2 with
  | false =>
    rw [show gotS s = ((.mk false [], .mk 0 []), false) by unfold gotS; rw [if_pos (.inl hb)]]
    rw [hb] at h2
    refine ⟨bump (bump nx2 5) 7, HCalls.wk ?_ (wk_gotS false)⟩
    refine hcalls_stamp_Get 11 [(f, 6)] (walk0 300 trivial (fun A eA => ?_))
    simp (disch := first | omega | (simp only [avs_len, List.length_cons, List.length_append, List.length_nil, List.length_take, List.length_drop, List.length_map]; omega) | (simp only [cells, scal1, allSz, List.length_cons, List.length_nil, List.length_append, List.length_map, List.all_cons, List.all_nil, avs_len, beq_self_eq_true, Bool.and_self, and_self, or_true, true_or, reduceCtorEq, *]; done) | fail) only [c_stamp_Get, go_sem, Nat.reduceAdd, Nat.reduceSub, Nat.reduceMul, Nat.reduceLT, Nat.reduceLeDiff, Int.reduceToNat, Nat.reduceEqDiff, Nat.reduceBEq, ↓reduceIte, reduceCtorEq, eA, scal1, List.all_cons, List.all_nil, Bool.and_self]
    refine call2 300 trivial trivial [(f, 6)] (by simp only [go_sem, Nat.reduceAdd, Nat.reduceSub, Nat.reduceMul, Nat.reduceLT, Nat.reduceLeDiff, Int.reduceToNat, Nat.reduceEqDiff, Nat.reduceBEq, ↓reduceIte, reduceCtorEq] <;> rfl) (by simp only [go_sem, Nat.reduceAdd, Nat.reduceSub, Nat.reduceMul, Nat.reduceLT, Nat.reduceLeDiff, Int.reduceToNat, Nat.reduceEqDiff, Nat.reduceBEq, ↓reduceIte, reduceCtorEq, Ev.rest, keyIn] <;> rfl) h1 (.inr ⟨rfl, by simp only [heapFree, hFr, Bool.and_self]⟩) (fun A eA => ?_)
    simp (disch := first | omega | (simp only [avs_len, List.length_cons, List.length_append, List.length_nil, List.length_take, List.length_drop, List.length_map]; omega) | (simp only [cells, scal1, allSz, List.length_cons, List.length_nil, List.length_append, List.length_map, List.all_cons, List.all_nil, avs_len, beq_self_eq_true, Bool.and_self, and_self, or_true, true_or, reduceCtorEq, *]; done) | fail) only [c_stamp_Get, go_sem, Nat.reduceAdd, Nat.reduceSub, Nat.reduceMul, Nat.reduceLT, Nat.reduceLeDiff, Int.reduceToNat, Nat.reduceEqDiff, Nat.reduceBEq, ↓reduceIte, reduceCtorEq, eA, scal1, List.all_cons, List.all_nil, Bool.and_self]
    refine call2 300 trivial trivial [(f, 6)] (by simp only [go_sem, Nat.reduceAdd, Nat.reduceSub, Nat.reduceMul, Nat.reduceLT, Nat.reduceLeDiff, Int.reduceToNat, Nat.reduceEqDiff, Nat.reduceBEq, ↓reduceIte, reduceCtorEq] <;> rfl) (by simp only [go_sem, Nat.reduceAdd, Nat.reduceSub, Nat.reduceMul, Nat.reduceLT, Nat.reduceLeDiff, Int.reduceToNat, Nat.reduceEqDiff, Nat.reduceBEq, ↓reduceIte, reduceCtorEq, Ev.rest, keyIn] <;> rfl) h2 (.inr ⟨rfl, by simp only [heapFree, hFr, Bool.and_self]⟩) (fun A eA => ?_)
    simp (disch := first | omega | (simp only [avs_len, List.length_cons, List.length_append, List.length_nil, List.length_take, List.length_drop, List.length_map]; omega) | (simp only [cells, scal1, allSz, List.length_cons, List.length_nil, List.length_append, List.length_map, List.all_cons, List.all_nil, avs_len, beq_self_eq_true, Bool.and_self, and_self, or_true, true_or, reduceCtorEq, *]; done) | fail) only [c_stamp_Get, go_sem, Nat.reduceAdd, Nat.reduceSub, Nat.reduceMul, Nat.reduceLT, Nat.reduceLeDiff, Int.reduceToNat, Nat.reduceEqDiff, Nat.reduceBEq, ↓reduceIte, reduceCtorEq, eA, scal1, List.all_cons, List.all_nil, Bool.and_self]
    exact doneH (by simp only [go_sem, Nat.reduceAdd, Nat.reduceSub, Nat.reduceMul, Nat.reduceLT, Nat.reduceLeDiff, Int.reduceToNat, Nat.reduceEqDiff, Nat.reduceBEq, ↓reduceIte, reduceCtorEq]) (by simp only [go_sem, Nat.reduceAdd, Nat.reduceSub, Nat.reduceMul, Nat.reduceLT, Nat.reduceLeDiff, Int.reduceToNat, Nat.reduceEqDiff, Nat.reduceBEq, ↓reduceIte, reduceCtorEq]) rfl
  | true =>
    obtain ⟨r, hr⟩ := got_some hb
    rw [hr] at h2 h3
    rw [hb] at h2
    rw [hr]
    by_cases hrt : RtS (getI 8 s).1 (gotE (getI 8 s).2).1
    · rw [show gotS s = (((getI 8 s).1, (gotE (getI 8 s).2).1), true) by unfold gotS; rw [if_neg (by simp [hb, hrt])]]
      refine ⟨nx3, ?_⟩
      refine hcalls_stamp_Get 11 [(f, 6)] (walk0 300 trivial (fun A eA => ?_))
      simp (disch := first | omega | (simp only [avs_len, List.length_cons, List.length_append, List.length_nil, List.length_take, List.length_drop, List.length_map]; omega) | (simp only [cells, scal1, allSz, List.length_cons, List.length_nil, List.length_append, List.length_map, List.all_cons, List.all_nil, avs_len, beq_self_eq_true, Bool.and_self, and_self, or_true, true_or, reduceCtorEq, *]; done) | fail) only [c_stamp_Get, go_sem, Nat.reduceAdd, Nat.reduceSub, Nat.reduceMul, Nat.reduceLT, Nat.reduceLeDiff, Int.reduceToNat, Nat.reduceEqDiff, Nat.reduceBEq, ↓reduceIte, reduceCtorEq, eA, scal1, List.all_cons, List.all_nil, Bool.and_self]
      refine call2 300 trivial trivial [(f, 6)] (by simp only [go_sem, Nat.reduceAdd, Nat.reduceSub, Nat.reduceMul, Nat.reduceLT, Nat.reduceLeDiff, Int.reduceToNat, Nat.reduceEqDiff, Nat.reduceBEq, ↓reduceIte, reduceCtorEq] <;> rfl) (by simp only [go_sem, Nat.reduceAdd, Nat.reduceSub, Nat.reduceMul, Nat.reduceLT, Nat.reduceLeDiff, Int.reduceToNat, Nat.reduceEqDiff, Nat.reduceBEq, ↓reduceIte, reduceCtorEq, Ev.rest, keyIn] <;> rfl) h1 (.inr ⟨rfl, by simp only [heapFree, hFr, Bool.and_self]⟩) (fun A eA => ?_)
      simp (disch := first | omega | (simp only [avs_len, List.length_cons, List.length_append, List.length_nil, List.length_take, List.length_drop, List.length_map]; omega) | (simp only [cells, scal1, allSz, List.length_cons, List.length_nil, List.length_append, List.length_map, List.all_cons, List.all_nil, avs_len, beq_self_eq_true, Bool.and_self, and_self, or_true, true_or, reduceCtorEq, *]; done) | fail) only [c_stamp_Get, go_sem, Nat.reduceAdd, Nat.reduceSub, Nat.reduceMul, Nat.reduceLT, Nat.reduceLeDiff, Int.reduceToNat, Nat.reduceEqDiff, Nat.reduceBEq, ↓reduceIte, reduceCtorEq, eA, scal1, List.all_cons, List.all_nil, Bool.and_self]
      refine call2 300 trivial trivial [(f, 6)] (by simp only [go_sem, Nat.reduceAdd, Nat.reduceSub, Nat.reduceMul, Nat.reduceLT, Nat.reduceLeDiff, Int.reduceToNat, Nat.reduceEqDiff, Nat.reduceBEq, ↓reduceIte, reduceCtorEq] <;> rfl) (by simp only [go_sem, Nat.reduceAdd, Nat.reduceSub, Nat.reduceMul, Nat.reduceLT, Nat.reduceLeDiff, Int.reduceToNat, Nat.reduceEqDiff, Nat.reduceBEq, ↓reduceIte, reduceCtorEq, Ev.rest, keyIn] <;> rfl) h2 (.inr ⟨rfl, by simp only [heapFree, hFr, Bool.and_self]⟩) (fun A eA => ?_)
      simp (disch := first | omega | (simp only [avs_len, List.length_cons, List.length_append, List.length_nil, List.length_take, List.length_drop, List.length_map]; omega) | (simp only [cells, scal1, allSz, List.length_cons, List.length_nil, List.length_append, List.length_map, List.all_cons, List.all_nil, avs_len, beq_self_eq_true, Bool.and_self, and_self, or_true, true_or, reduceCtorEq, *]; done) | fail) only [c_stamp_Get, go_sem, Nat.reduceAdd, Nat.reduceSub, Nat.reduceMul, Nat.reduceLT, Nat.reduceLeDiff, Int.reduceToNat, Nat.reduceEqDiff, Nat.reduceBEq, ↓reduceIte, reduceCtorEq, eA, scal1, List.all_cons, List.all_nil, Bool.and_self]
      refine call2 300 trivial trivial [(f, 6)] (by simp only [go_sem, Nat.reduceAdd, Nat.reduceSub, Nat.reduceMul, Nat.reduceLT, Nat.reduceLeDiff, Int.reduceToNat, Nat.reduceEqDiff, Nat.reduceBEq, ↓reduceIte, reduceCtorEq] <;> rfl) (by simp only [go_sem, Nat.reduceAdd, Nat.reduceSub, Nat.reduceMul, Nat.reduceLT, Nat.reduceLeDiff, Int.reduceToNat, Nat.reduceEqDiff, Nat.reduceBEq, ↓reduceIte, reduceCtorEq, Ev.rest, keyIn] <;> rfl) h3 (.inr ⟨rfl, by simp only [heapFree, hFr, Bool.and_self]⟩) (fun A eA => ?_)
      simp (disch := first | omega | (simp only [avs_len, List.length_cons, List.length_append, List.length_nil, List.length_take, List.length_drop, List.length_map]; omega) | (simp only [cells, scal1, allSz, List.length_cons, List.length_nil, List.length_append, List.length_map, List.all_cons, List.all_nil, avs_len, beq_self_eq_true, Bool.and_self, and_self, or_true, true_or, reduceCtorEq, *]; done) | fail) only [c_stamp_Get, go_sem, Nat.reduceAdd, Nat.reduceSub, Nat.reduceMul, Nat.reduceLT, Nat.reduceLeDiff, Int.reduceToNat, Nat.reduceEqDiff, Nat.reduceBEq, ↓reduceIte, reduceCtorEq, eA, scal1, List.all_cons, List.all_nil, Bool.and_self, Option.isNone]
      refine call0 300 trivial trivial (stRight_yes hrt) (.inl rfl) (fun A eA => ?_)
      simp (disch := first | omega | (simp only [avs_len, List.length_cons, List.length_append, List.length_nil, List.length_take, List.length_drop, List.length_map]; omega) | (simp only [cells, scal1, allSz, List.length_cons, List.length_nil, List.length_append, List.length_map, List.all_cons, List.all_nil, avs_len, beq_self_eq_true, Bool.and_self, and_self, or_true, true_or, reduceCtorEq, *]; done) | fail) only [c_stamp_Get, go_sem, Nat.reduceAdd, Nat.reduceSub, Nat.reduceMul, Nat.reduceLT, Nat.reduceLeDiff, Int.reduceToNat, Nat.reduceEqDiff, Nat.reduceBEq, ↓reduceIte, reduceCtorEq, eA, scal1, List.all_cons, List.all_nil, Bool.and_self]
      exact doneH (by simp only [go_sem, Nat.reduceAdd, Nat.reduceSub, Nat.reduceMul, Nat.reduceLT, Nat.reduceLeDiff, Int.reduceToNat, Nat.reduceEqDiff, Nat.reduceBEq, ↓reduceIte, reduceCtorEq]) (by simp only [go_sem, Nat.reduceAdd, Nat.reduceSub, Nat.reduceMul, Nat.reduceLT, Nat.reduceLeDiff, Int.reduceToNat, Nat.reduceEqDiff, Nat.reduceBEq, ↓reduceIte, reduceCtorEq]) rfl
    · rw [show gotS s = ((.mk false [], .mk 0 []), false) by unfold gotS; rw [if_pos (.inr hrt)]]
      refine ⟨nx3, HCalls.wk ?_ (wk_gotS false)⟩
      refine hcalls_stamp_Get 11 [(f, 6)] (walk0 300 trivial (fun A eA => ?_))
      simp (disch := first | omega | (simp only [avs_len, List.length_cons, List.length_append, List.length_nil, List.length_take, List.length_drop, List.length_map]; omega) | (simp only [cells, scal1, allSz, List.length_cons, List.length_nil, List.length_append, List.length_map, List.all_cons, List.all_nil, avs_len, beq_self_eq_true, Bool.and_self, and_self, or_true, true_or, reduceCtorEq, *]; done) | fail) only [c_stamp_Get, go_sem, Nat.reduceAdd, Nat.reduceSub, Nat.reduceMul, Nat.reduceLT, Nat.reduceLeDiff, Int.reduceToNat, Nat.reduceEqDiff, Nat.reduceBEq, ↓reduceIte, reduceCtorEq, eA, scal1, List.all_cons, List.all_nil, Bool.and_self]
      refine call2 300 trivial trivial [(f, 6)] (by simp only [go_sem, Nat.reduceAdd, Nat.reduceSub, Nat.reduceMul, Nat.reduceLT, Nat.reduceLeDiff, Int.reduceToNat, Nat.reduceEqDiff, Nat.reduceBEq, ↓reduceIte, reduceCtorEq] <;> rfl) (by simp only [go_sem, Nat.reduceAdd, Nat.reduceSub, Nat.reduceMul, Nat.reduceLT, Nat.reduceLeDiff, Int.reduceToNat, Nat.reduceEqDiff, Nat.reduceBEq, ↓reduceIte, reduceCtorEq, Ev.rest, keyIn] <;> rfl) h1 (.inr ⟨rfl, by simp only [heapFree, hFr, Bool.and_self]⟩) (fun A eA => ?_)
      simp (disch := first | omega | (simp only [avs_len, List.length_cons, List.length_append, List.length_nil, List.length_take, List.length_drop, List.length_map]; omega) | (simp only [cells, scal1, allSz, List.length_cons, List.length_nil, List.length_append, List.length_map, List.all_cons, List.all_nil, avs_len, beq_self_eq_true, Bool.and_self, and_self, or_true, true_or, reduceCtorEq, *]; done) | fail) only [c_stamp_Get, go_sem, Nat.reduceAdd, Nat.reduceSub, Nat.reduceMul, Nat.reduceLT, Nat.reduceLeDiff, Int.reduceToNat, Nat.reduceEqDiff, Nat.reduceBEq, ↓reduceIte, reduceCtorEq, eA, scal1, List.all_cons, List.all_nil, Bool.and_self]
      refine call2 300 trivial trivial [(f, 6)] (by simp only [go_sem, Nat.reduceAdd, Nat.reduceSub, Nat.reduceMul, Nat.reduceLT, Nat.reduceLeDiff, Int.reduceToNat, Nat.reduceEqDiff, Nat.reduceBEq, ↓reduceIte, reduceCtorEq] <;> rfl) (by simp only [go_sem, Nat.reduceAdd, Nat.reduceSub, Nat.reduceMul, Nat.reduceLT, Nat.reduceLeDiff, Int.reduceToNat, Nat.reduceEqDiff, Nat.reduceBEq, ↓reduceIte, reduceCtorEq, Ev.rest, keyIn] <;> rfl) h2 (.inr ⟨rfl, by simp only [heapFree, hFr, Bool.and_self]⟩) (fun A eA => ?_)
      simp (disch := first | omega | (simp only [avs_len, List.length_cons, List.length_append, List.length_nil, List.length_take, List.length_drop, List.length_map]; omega) | (simp only [cells, scal1, allSz, List.length_cons, List.length_nil, List.length_append, List.length_map, List.all_cons, List.all_nil, avs_len, beq_self_eq_true, Bool.and_self, and_self, or_true, true_or, reduceCtorEq, *]; done) | fail) only [c_stamp_Get, go_sem, Nat.reduceAdd, Nat.reduceSub, Nat.reduceMul, Nat.reduceLT, Nat.reduceLeDiff, Int.reduceToNat, Nat.reduceEqDiff, Nat.reduceBEq, ↓reduceIte, reduceCtorEq, eA, scal1, List.all_cons, List.all_nil, Bool.and_self]
      refine call2 300 trivial trivial [(f, 6)] (by simp only [go_sem, Nat.reduceAdd, Nat.reduceSub, Nat.reduceMul, Nat.reduceLT, Nat.reduceLeDiff, Int.reduceToNat, Nat.reduceEqDiff, Nat.reduceBEq, ↓reduceIte, reduceCtorEq] <;> rfl) (by simp only [go_sem, Nat.reduceAdd, Nat.reduceSub, Nat.reduceMul, Nat.reduceLT, Nat.reduceLeDiff, Int.reduceToNat, Nat.reduceEqDiff, Nat.reduceBEq, ↓reduceIte, reduceCtorEq, Ev.rest, keyIn] <;> rfl) h3 (.inr ⟨rfl, by simp only [heapFree, hFr, Bool.and_self]⟩) (fun A eA => ?_)
      simp (disch := first | omega | (simp only [avs_len, List.length_cons, List.length_append, List.length_nil, List.length_take, List.length_drop, List.length_map]; omega) | (simp only [cells, scal1, allSz, List.length_cons, List.length_nil, List.length_append, List.length_map, List.all_cons, List.all_nil, avs_len, beq_self_eq_true, Bool.and_self, and_self, or_true, true_or, reduceCtorEq, *]; done) | fail) only [c_stamp_Get, go_sem, Nat.reduceAdd, Nat.reduceSub, Nat.reduceMul, Nat.reduceLT, Nat.reduceLeDiff, Int.reduceToNat, Nat.reduceEqDiff, Nat.reduceBEq, ↓reduceIte, reduceCtorEq, eA, scal1, List.all_cons, List.all_nil, Bool.and_self, Option.isNone]
      refine call0 300 trivial trivial (stRight_no hrt) (.inl rfl) (fun A eA => ?_)
      simp (disch := first | omega | (simp only [avs_len, List.length_cons, List.length_append, List.length_nil, List.length_take, List.length_drop, List.length_map]; omega) | (simp only [cells, scal1, allSz, List.length_cons, List.length_nil, List.length_append, List.length_map, List.all_cons, List.all_nil, avs_len, beq_self_eq_true, Bool.and_self, and_self, or_true, true_or, reduceCtorEq, *]; done) | fail) only [c_stamp_Get, go_sem, Nat.reduceAdd, Nat.reduceSub, Nat.reduceMul, Nat.reduceLT, Nat.reduceLeDiff, Int.reduceToNat, Nat.reduceEqDiff, Nat.reduceBEq, ↓reduceIte, reduceCtorEq, eA, scal1, List.all_cons, List.all_nil, Bool.and_self]
      exact doneH (by simp only [go_sem, Nat.reduceAdd, Nat.reduceSub, Nat.reduceMul, Nat.reduceLT, Nat.reduceLeDiff, Int.reduceToNat, Nat.reduceEqDiff, Nat.reduceBEq, ↓reduceIte, reduceCtorEq]) (by simp only [go_sem, Nat.reduceAdd, Nat.reduceSub, Nat.reduceMul, Nat.reduceLT, Nat.reduceLeDiff, Int.reduceToNat, Nat.reduceEqDiff, Nat.reduceBEq, ↓reduceIte, reduceCtorEq]) rfl
end Go.Proofs.Ytmokhopjnjecbab
/- The law StampBytes: joined. -/
-- short
-- fuel 300
namespace Go.Proofs.Ytmokhopjnjecbab
open Go.Ev
set_option linter.unusedVariables false
set_option linter.unusedSimpArgs false
set_option maxRecDepth 100000
set_option maxHeartbeats 6400000
theorem sawake_calls : PCalls Try.prog F_law06_awake [] (.bool true) :=
  evalF_calls (T := tabOf (tab_CdStamp ++ (tab_CdIdent ++ tab_CdEvent))) (n := 300) (tab_append tok_CdStamp (tab_append tok_CdIdent tok_CdEvent)) (by kernel_rfl)
theorem gotS_yes {s : InS} (h : (gotS s).2 = true) : RtS (gotS s).1.1 (gotS s).1.2 := by
  unfold gotS at h ⊢
  split at h
  · cases h
  · rename_i hn
    rw [if_neg hn]
    rcases Classical.em (RtS (getI 8 s).1 (gotE (getI 8 s).2).1) with h | h
    · exact h
    · exact absurd (.inr h) hn
theorem gotS_no {s : InS} (h : (gotS s).2 = false) : (gotS s).1 = (.mk false [], .mk 0 []) := by
  unfold gotS at h ⊢
  split
  · rfl
  · rename_i hn; rw [if_neg hn] at h; cases h
/-- Some of it is too great to be looked at. -/
theorem sbytes_few (t : Tree) (e : ET) (B : List Nat) (h : ¬ (lcnt 30 t ≤ 1000 ∧ xlcnt 30 e ≤ 1000 ∧ B.length ≤ 500)) : PCalls Try.prog F_law06_StampBytes [stv t e, bv B] (.bool true) := by
  have c1 := Few_calls t
  have c2 := xFew_calls e
  by_cases f1 : lcnt 30 t ≤ 1000
  · rw [decide_eq_true f1] at c1
    by_cases f2 : xlcnt 30 e ≤ 1000
    · rw [decide_eq_true f2] at c2
      have f3 : ¬ B.length ≤ 500 := fun f3 => h ⟨f1, f2, f3⟩
      refine calls_law06_StampBytes (walk0 300 trivial (fun A eA => ?_))
      simp (disch := first | omega | (simp only [avs_len, List.length_cons, List.length_append, List.length_nil, List.length_take, List.length_drop, List.length_map]; omega) | (simp only [cells, scal1, allSz, List.length_cons, List.length_nil, List.length_append, List.length_map, List.all_cons, List.all_nil, avs_len, beq_self_eq_true, Bool.and_self, and_self, or_true, true_or, reduceCtorEq, *]; done) | fail) only [c_law06_StampBytes, go_sem, Nat.reduceAdd, Nat.reduceSub, Nat.reduceMul, Nat.reduceLT, Nat.reduceLeDiff, Int.reduceToNat, Nat.reduceEqDiff, Nat.reduceBEq, ↓reduceIte, reduceCtorEq, eA, scal1, avs_len]
      repeat ((first | refine call0 300 trivial trivial (by first | exact sawake_calls | exact c1 | exact c2) (by first | exact .inl rfl | exact .inr rfl) (fun A eA => ?_) | refine call1 300 trivial trivial (by first | exact sawake_calls | exact c1 | exact c2) (fun A eA => ?_)); simp (disch := first | omega | (simp only [avs_len, List.length_cons, List.length_append, List.length_nil, List.length_take, List.length_drop, List.length_map]; omega) | (simp only [cells, scal1, allSz, List.length_cons, List.length_nil, List.length_append, List.length_map, List.all_cons, List.all_nil, avs_len, beq_self_eq_true, Bool.and_self, and_self, or_true, true_or, reduceCtorEq, *]; done) | fail) only [c_law06_StampBytes, go_sem, Nat.reduceAdd, Nat.reduceSub, Nat.reduceMul, Nat.reduceLT, Nat.reduceLeDiff, Int.reduceToNat, Nat.reduceEqDiff, Nat.reduceBEq, ↓reduceIte, reduceCtorEq, eA, scal1, avs_len])
      exact doneG rfl
    · rw [decide_eq_false f2] at c2
      refine calls_law06_StampBytes (walk0 300 trivial (fun A eA => ?_))
      simp (disch := first | omega | (simp only [avs_len, List.length_cons, List.length_append, List.length_nil, List.length_take, List.length_drop, List.length_map]; omega) | (simp only [cells, scal1, allSz, List.length_cons, List.length_nil, List.length_append, List.length_map, List.all_cons, List.all_nil, avs_len, beq_self_eq_true, Bool.and_self, and_self, or_true, true_or, reduceCtorEq, *]; done) | fail) only [c_law06_StampBytes, go_sem, Nat.reduceAdd, Nat.reduceSub, Nat.reduceMul, Nat.reduceLT, Nat.reduceLeDiff, Int.reduceToNat, Nat.reduceEqDiff, Nat.reduceBEq, ↓reduceIte, reduceCtorEq, eA, scal1, avs_len]
      repeat ((first | refine call0 300 trivial trivial (by first | exact sawake_calls | exact c1 | exact c2) (by first | exact .inl rfl | exact .inr rfl) (fun A eA => ?_) | refine call1 300 trivial trivial (by first | exact sawake_calls | exact c1 | exact c2) (fun A eA => ?_)); simp (disch := first | omega | (simp only [avs_len, List.length_cons, List.length_append, List.length_nil, List.length_take, List.length_drop, List.length_map]; omega) | (simp only [cells, scal1, allSz, List.length_cons, List.length_nil, List.length_append, List.length_map, List.all_cons, List.all_nil, avs_len, beq_self_eq_true, Bool.and_self, and_self, or_true, true_or, reduceCtorEq, *]; done) | fail) only [c_law06_StampBytes, go_sem, Nat.reduceAdd, Nat.reduceSub, Nat.reduceMul, Nat.reduceLT, Nat.reduceLeDiff, Int.reduceToNat, Nat.reduceEqDiff, Nat.reduceBEq, ↓reduceIte, reduceCtorEq, eA, scal1, avs_len])
      exact doneG rfl
  · rw [decide_eq_false f1] at c1
    refine calls_law06_StampBytes (walk0 300 trivial (fun A eA => ?_))
    simp (disch := first | omega | (simp only [avs_len, List.length_cons, List.length_append, List.length_nil, List.length_take, List.length_drop, List.length_map]; omega) | (simp only [cells, scal1, allSz, List.length_cons, List.length_nil, List.length_append, List.length_map, List.all_cons, List.all_nil, avs_len, beq_self_eq_true, Bool.and_self, and_self, or_true, true_or, reduceCtorEq, *]; done) | fail) only [c_law06_StampBytes, go_sem, Nat.reduceAdd, Nat.reduceSub, Nat.reduceMul, Nat.reduceLT, Nat.reduceLeDiff, Int.reduceToNat, Nat.reduceEqDiff, Nat.reduceBEq, ↓reduceIte, reduceCtorEq, eA, scal1, avs_len]
    repeat ((first | refine call0 300 trivial trivial (by first | exact sawake_calls | exact c1 | exact c2) (by first | exact .inl rfl | exact .inr rfl) (fun A eA => ?_) | refine call1 300 trivial trivial (by first | exact sawake_calls | exact c1 | exact c2) (fun A eA => ?_)); simp (disch := first | omega | (simp only [avs_len, List.length_cons, List.length_append, List.length_nil, List.length_take, List.length_drop, List.length_map]; omega) | (simp only [cells, scal1, allSz, List.length_cons, List.length_nil, List.length_append, List.length_map, List.all_cons, List.all_nil, avs_len, beq_self_eq_true, Bool.and_self, and_self, or_true, true_or, reduceCtorEq, *]; done) | fail) only [c_law06_StampBytes, go_sem, Nat.reduceAdd, Nat.reduceSub, Nat.reduceMul, Nat.reduceLT, Nat.reduceLeDiff, Int.reduceToNat, Nat.reduceEqDiff, Nat.reduceBEq, ↓reduceIte, reduceCtorEq, eA, scal1, avs_len])
    exact doneG rfl
/-- Not a right stamp. -/
theorem sbytes_no (t : Tree) (e : ET) (B : List Nat) (hB : ∀ b ∈ B, b < 256) (f1 : lcnt 30 t ≤ 1000) (f2 : xlcnt 30 e ≤ 1000) (f3 : B.length ≤ 500) (hr : ¬ RtS t e) : PCalls Try.prog F_law06_StampBytes [stv t e, bv B] (.bool true) := by
  have c1 := Few_calls t
  have c2 := xFew_calls e
  rw [decide_eq_true f1] at c1
  rw [decide_eq_true f2] at c2
  have z1 := lcnt_size 30 t f1
  have z2 := xlcnt_size 30 e f2
  have r1 := refRight_calls t (by omega)
  have r2 := refERight_calls e (by omega)
  have r3 := stRight_no hr
  have hs : OkIn (some B) := by intro r hr; cases hr; exact ⟨hB, by omega⟩
  have cn := newIn_h B (by omega) 1 zeroC
  obtain ⟨nx1, cg⟩ := stGet_takes hs 1 0 (bump zeroC 6) (by omega)
  have hrefs : (rtb t = false) ∨ (rtb t = true ∧ t.one = false ∧ t.ps.length = 0) ∨ (rtb t = true ∧ t.one = false ∧ 0 < t.ps.length ∧ xrtb e = false) ∨ (rtb t = true ∧ t.one = true ∧ xrtb e = false) := by
    by_cases h1 : Rt t
    · right
      by_cases ho : t.one = true
      · right; right
        exact ⟨rtb_true.2 h1, ho, xrtb_no (fun h3 => hr ⟨h1, fun h => (by have := h.2; rw [ho] at this; cases this), h3⟩)⟩
      · have ho : t.one = false := by simpa using ho
        by_cases hp : t.ps.length = 0
        · exact .inl ⟨rtb_true.2 h1, ho, hp⟩
        · right; left
          exact ⟨rtb_true.2 h1, ho, by omega, xrtb_no (fun h3 => hr ⟨h1, fun h => hp h.1, h3⟩)⟩
    · exact .inl (rtb_no h1)
  obtain ⟨o, ps⟩ := t
  simp only [Tree.one, Tree.ps] at hrefs c1 r1 r3 ⊢
  cases hg : (gotS (some B)).2
  · rw [hg, gotS_no hg] at cg
    rcases hrefs with h1 | ⟨h1, h2, h3⟩ | ⟨h1, h2, h3, h4⟩ | ⟨h1, h2, h4⟩
    all_goals
      rw [h1] at r1
      first | rw [h4] at r2 | skip
      first | (subst h2) | skip
      have h5 := h1
      refine calls_law06_StampBytes (walk0 300 trivial (fun A eA => ?_))
      simp (disch := first | omega | (simp only [avs_len, List.length_cons, List.length_append, List.length_nil, List.length_take, List.length_drop, List.length_map]; omega) | (simp only [cells, scal1, allSz, List.length_cons, List.length_nil, List.length_append, List.length_map, List.all_cons, List.all_nil, avs_len, beq_self_eq_true, Bool.and_self, and_self, or_true, true_or, reduceCtorEq, *]; done) | fail) only [c_law06_StampBytes, go_sem, Nat.reduceAdd, Nat.reduceSub, Nat.reduceMul, Nat.reduceLT, Nat.reduceLeDiff, Int.reduceToNat, Nat.reduceEqDiff, Nat.reduceBEq, ↓reduceIte, reduceCtorEq, eA, Tree.one, Tree.ps, scal1, avs_len]
      repeat ((first | refine call0 300 trivial trivial (by first | exact sawake_calls | exact c1 | exact c2 | exact r1 | exact r2) (by first | exact .inl rfl | exact .inr rfl) (fun A eA => ?_) | refine call1 300 trivial trivial (by first | exact sawake_calls | exact c1 | exact c2 | exact r1 | exact r2) (fun A eA => ?_)); simp (disch := first | omega | (simp only [avs_len, List.length_cons, List.length_append, List.length_nil, List.length_take, List.length_drop, List.length_map]; omega) | (simp only [cells, scal1, allSz, List.length_cons, List.length_nil, List.length_append, List.length_map, List.all_cons, List.all_nil, avs_len, beq_self_eq_true, Bool.and_self, and_self, or_true, true_or, reduceCtorEq, *]; done) | fail) only [c_law06_StampBytes, go_sem, Nat.reduceAdd, Nat.reduceSub, Nat.reduceMul, Nat.reduceLT, Nat.reduceLeDiff, Int.reduceToNat, Nat.reduceEqDiff, Nat.reduceBEq, ↓reduceIte, reduceCtorEq, eA, Tree.one, Tree.ps, scal1, avs_len, tavs_len])
      refine call2 300 trivial trivial [] rfl rfl cn (.inl rfl) (fun A eA => ?_)
      simp (disch := first | omega | (simp only [avs_len, List.length_cons, List.length_append, List.length_nil, List.length_take, List.length_drop, List.length_map]; omega) | (simp only [cells, scal1, allSz, List.length_cons, List.length_nil, List.length_append, List.length_map, List.all_cons, List.all_nil, avs_len, beq_self_eq_true, Bool.and_self, and_self, or_true, true_or, reduceCtorEq, *]; done) | fail) only [c_law06_StampBytes, go_sem, Nat.reduceAdd, Nat.reduceSub, Nat.reduceMul, Nat.reduceLT, Nat.reduceLeDiff, Int.reduceToNat, Nat.reduceEqDiff, Nat.reduceBEq, ↓reduceIte, reduceCtorEq, eA, Tree.one, Tree.ps, scal1]
      refine call2 300 trivial trivial [(1, 6)] rfl rfl cg (.inl rfl) (fun A eA => ?_)
      simp (disch := first | omega | (simp only [avs_len, List.length_cons, List.length_append, List.length_nil, List.length_take, List.length_drop, List.length_map]; omega) | (simp only [cells, scal1, allSz, List.length_cons, List.length_nil, List.length_append, List.length_map, List.all_cons, List.all_nil, avs_len, beq_self_eq_true, Bool.and_self, and_self, or_true, true_or, reduceCtorEq, *]; done) | fail) only [c_law06_StampBytes, go_sem, Nat.reduceAdd, Nat.reduceSub, Nat.reduceMul, Nat.reduceLT, Nat.reduceLeDiff, Int.reduceToNat, Nat.reduceEqDiff, Nat.reduceBEq, ↓reduceIte, reduceCtorEq, eA, Tree.one, Tree.ps, scal1, List.all_cons, List.all_nil, Bool.and_self, xtavs, ET.ps, ET.n, tavs, beq_self_eq_true]
      repeat ((first | refine call0 300 trivial trivial (by first | exact r3) (by first | exact .inl rfl | exact .inr rfl) (fun A eA => ?_) | refine call1 300 trivial trivial (by first | exact r3) (fun A eA => ?_)); simp (disch := first | omega | (simp only [avs_len, List.length_cons, List.length_append, List.length_nil, List.length_take, List.length_drop, List.length_map]; omega) | (simp only [cells, scal1, allSz, List.length_cons, List.length_nil, List.length_append, List.length_map, List.all_cons, List.all_nil, avs_len, beq_self_eq_true, Bool.and_self, and_self, or_true, true_or, reduceCtorEq, *]; done) | fail) only [c_law06_StampBytes, go_sem, Nat.reduceAdd, Nat.reduceSub, Nat.reduceMul, Nat.reduceLT, Nat.reduceLeDiff, Int.reduceToNat, Nat.reduceEqDiff, Nat.reduceBEq, ↓reduceIte, reduceCtorEq, eA, Tree.one, Tree.ps, scal1, List.all_cons, List.all_nil, Bool.and_self, xtavs, ET.ps, ET.n, tavs, beq_self_eq_true])
      exact doneG rfl
  · rw [hg] at cg
    have r4 := stRight_yes (gotS_yes hg)
    rcases hrefs with h1 | ⟨h1, h2, h3⟩ | ⟨h1, h2, h3, h4⟩ | ⟨h1, h2, h4⟩
    all_goals
      rw [h1] at r1
      first | rw [h4] at r2 | skip
      first | (subst h2) | skip
      refine calls_law06_StampBytes (walk0 300 trivial (fun A eA => ?_))
      simp (disch := first | omega | (simp only [avs_len, List.length_cons, List.length_append, List.length_nil, List.length_take, List.length_drop, List.length_map]; omega) | (simp only [cells, scal1, allSz, List.length_cons, List.length_nil, List.length_append, List.length_map, List.all_cons, List.all_nil, avs_len, beq_self_eq_true, Bool.and_self, and_self, or_true, true_or, reduceCtorEq, *]; done) | fail) only [c_law06_StampBytes, go_sem, Nat.reduceAdd, Nat.reduceSub, Nat.reduceMul, Nat.reduceLT, Nat.reduceLeDiff, Int.reduceToNat, Nat.reduceEqDiff, Nat.reduceBEq, ↓reduceIte, reduceCtorEq, eA, Tree.one, Tree.ps, scal1, avs_len]
      repeat ((first | refine call0 300 trivial trivial (by first | exact sawake_calls | exact c1 | exact c2 | exact r1 | exact r2) (by first | exact .inl rfl | exact .inr rfl) (fun A eA => ?_) | refine call1 300 trivial trivial (by first | exact sawake_calls | exact c1 | exact c2 | exact r1 | exact r2) (fun A eA => ?_)); simp (disch := first | omega | (simp only [avs_len, List.length_cons, List.length_append, List.length_nil, List.length_take, List.length_drop, List.length_map]; omega) | (simp only [cells, scal1, allSz, List.length_cons, List.length_nil, List.length_append, List.length_map, List.all_cons, List.all_nil, avs_len, beq_self_eq_true, Bool.and_self, and_self, or_true, true_or, reduceCtorEq, *]; done) | fail) only [c_law06_StampBytes, go_sem, Nat.reduceAdd, Nat.reduceSub, Nat.reduceMul, Nat.reduceLT, Nat.reduceLeDiff, Int.reduceToNat, Nat.reduceEqDiff, Nat.reduceBEq, ↓reduceIte, reduceCtorEq, eA, Tree.one, Tree.ps, scal1, avs_len, tavs_len])
      refine call2 300 trivial trivial [] rfl rfl cn (.inl rfl) (fun A eA => ?_)
      simp (disch := first | omega | (simp only [avs_len, List.length_cons, List.length_append, List.length_nil, List.length_take, List.length_drop, List.length_map]; omega) | (simp only [cells, scal1, allSz, List.length_cons, List.length_nil, List.length_append, List.length_map, List.all_cons, List.all_nil, avs_len, beq_self_eq_true, Bool.and_self, and_self, or_true, true_or, reduceCtorEq, *]; done) | fail) only [c_law06_StampBytes, go_sem, Nat.reduceAdd, Nat.reduceSub, Nat.reduceMul, Nat.reduceLT, Nat.reduceLeDiff, Int.reduceToNat, Nat.reduceEqDiff, Nat.reduceBEq, ↓reduceIte, reduceCtorEq, eA, Tree.one, Tree.ps, scal1]
      refine call2 300 trivial trivial [(1, 6)] rfl rfl cg (.inl rfl) (fun A eA => ?_)
      simp (disch := first | omega | (simp only [avs_len, List.length_cons, List.length_append, List.length_nil, List.length_take, List.length_drop, List.length_map]; omega) | (simp only [cells, scal1, allSz, List.length_cons, List.length_nil, List.length_append, List.length_map, List.all_cons, List.all_nil, avs_len, beq_self_eq_true, Bool.and_self, and_self, or_true, true_or, reduceCtorEq, *]; done) | fail) only [c_law06_StampBytes, go_sem, Nat.reduceAdd, Nat.reduceSub, Nat.reduceMul, Nat.reduceLT, Nat.reduceLeDiff, Int.reduceToNat, Nat.reduceEqDiff, Nat.reduceBEq, ↓reduceIte, reduceCtorEq, eA, Tree.one, Tree.ps, scal1, List.all_cons, List.all_nil, Bool.and_self, beq_self_eq_true]
      repeat ((first | refine call0 300 trivial trivial (by first | exact r3 | exact r4) (by first | exact .inl rfl | exact .inr rfl) (fun A eA => ?_) | refine call1 300 trivial trivial (by first | exact r3 | exact r4) (fun A eA => ?_)); simp (disch := first | omega | (simp only [avs_len, List.length_cons, List.length_append, List.length_nil, List.length_take, List.length_drop, List.length_map]; omega) | (simp only [cells, scal1, allSz, List.length_cons, List.length_nil, List.length_append, List.length_map, List.all_cons, List.all_nil, avs_len, beq_self_eq_true, Bool.and_self, and_self, or_true, true_or, reduceCtorEq, *]; done) | fail) only [c_law06_StampBytes, go_sem, Nat.reduceAdd, Nat.reduceSub, Nat.reduceMul, Nat.reduceLT, Nat.reduceLeDiff, Int.reduceToNat, Nat.reduceEqDiff, Nat.reduceBEq, ↓reduceIte, reduceCtorEq, eA, Tree.one, Tree.ps, scal1, List.all_cons, List.all_nil, Bool.and_self, beq_self_eq_true])
      exact doneG rfl
theorem bytes_ne (b : B) (x : E) : putI b ++ putE x ≠ [] := fun e => putE_ne x (List.append_eq_nil_iff.1 e).2
theorem sbytes_calls (t : Tree) (e : ET) (B : List Nat) (hB : ∀ b ∈ B, b < 256) : PCalls Try.prog F_law06_StampBytes [stv t e, bv B] (.bool true) := by
  by_cases f : lcnt 30 t ≤ 1000 ∧ xlcnt 30 e ≤ 1000 ∧ B.length ≤ 500
  case neg => exact sbytes_few t e B f
  obtain ⟨f1, f2, f3⟩ := f
  by_cases hr : RtS t e
  case neg => exact sbytes_no t e B hB f1 f2 f3 hr
  have c1 := Few_calls t
  have c2 := xFew_calls e
  rw [decide_eq_true f1] at c1
  rw [decide_eq_true f2] at c2
  have z1 := lcnt_size 30 t f1
  have z2 := xlcnt_size 30 e f2
  have r1 := refRight_calls t (by omega)
  have r2 := refERight_calls e (by omega)
  rw [rtb_true.2 hr.1] at r1
  rw [xrtb_true.2 hr.2.2] at r2
  have r3 := stRight_yes hr
  have hs : OkIn (some B) := by intro r hr; cases hr; exact ⟨hB, by omega⟩
  have hFr := inE_free
  have cn := newIn_h B (by omega) 1 zeroC
  obtain ⟨nx1, cg⟩ := stGet_takes hs 1 0 (bump zeroC 6) (by omega)
  have hwho : (t.one = false ∧ 0 < t.ps.length) ∨ t.one = true := by
    cases ho : t.one
    · left; refine ⟨rfl, ?_⟩
      rcases Nat.eq_zero_or_pos t.ps.length with h | h
      · exact absurd ⟨h, ho⟩ hr.2.1
      · exact h
    · right; rfl
  obtain ⟨⟨b, hbt, b1, b2, b3⟩, hn, ⟨x, hxe, x1, x2, x3, x4⟩⟩ := id hr
  have hpl := putE_len x x4
  have hil := putI_len b
  have cpu := stPut_puts b x b1 x4 x1 x2
  rw [← hbt, ← hxe] at cpu
  obtain ⟨W, hW⟩ : ∃ W, W = putI b ++ putE x := ⟨_, rfl⟩
  have hWl : W.length ≤ 3000 := by rw [hW, List.length_append]; omega
  have hWn : W ≠ [] := by rw [hW]; exact bytes_ne b x
  have hW2 : ∀ y ∈ W, y < 256 := by
    intro y hy; rw [hW] at hy
    rcases List.mem_append.1 hy with h | h
    · exact putI_256 b y h
    · exact putE_256 x x4 y h
  rw [← hW] at cpu
  obtain ⟨key, g', nx2, hk, cp⟩ := cpu 0 8 (nx1 8) (by omega) none [] (bump (bump nx1 6) 8) rfl (by simp; omega)
  rw [List.nil_append] at cp
  have hk6 : ¬ 6 = key := by omega
  have hk6' : ¬ key = 6 := by omega
  have hk7 : ¬ 8 = key := by omega
  have hk7' : ¬ key = 8 := by omega
  have ce := outEnd_some 0 8 (nx1 8) key g' (by omega) (by omega) W hWn (by omega) nx2
  have cn2 := newIn_h W (by omega) 2 (bump nx2 7)
  have hs2 : OkIn (some W) := by intro r hr; cases hr; exact ⟨hW2, by omega⟩
  have hgi : getI 8 (some W) = (t, some (putE x)) := by rw [hW, hbt]; exact getI_putI b 8 _ (by omega)
  have hge : getE 8 (some (putE x)) = (e, some []) := by have := getE_putE x 8 [] x4 (by omega); rw [List.append_nil] at this; rw [this, hxe]
  have hgo : gotE (some (putE x)) = (e, true) := by
    unfold gotE; rw [hge, if_neg (by simp [hr.2.2])]
  have hgs : gotS (some W) = ((t, e), true) := by
    unfold gotS; rw [hgi]; simp only; rw [hgo, if_neg (by simp [hr])]
  obtain ⟨nx3, cg2⟩ := stGet_takes hs2 2 (nx2 6) (bump (bump nx2 7) 6) (by omega)
  rw [hgs, hgi] at cg2
  simp only [hge] at cg2
  obtain ⟨nx4, cd⟩ := done_takes (some []) 2 (nx2 6) (bump nx3 12) (by omega)
  have c7 := stSame_calls t e hr
  have c8 := stClone_calls t e hr
  clear hgs hgo hge hgi hW hbt hxe hil hpl hn
  obtain ⟨o, ps⟩ := t
  simp only [Tree.one, Tree.ps] at hwho c1 r1 r3 cp cg2 c7 c8 ⊢
  by_cases h11 : 12 < key
  all_goals
    rcases hwho with ⟨h2, h3⟩ | h2
    all_goals
      subst h2
      cases hg : (gotS (some B)).2
      all_goals
        rw [hg] at cg
        first | rw [gotS_no hg] at cg | have r4 := stRight_yes (gotS_yes hg)
        refine calls_law06_StampBytes (walk0 300 trivial (fun A eA => ?_))
        simp (disch := first | omega | (simp only [avs_len, List.length_cons, List.length_append, List.length_nil, List.length_take, List.length_drop, List.length_map]; omega) | (simp only [cells, scal1, allSz, List.length_cons, List.length_nil, List.length_append, List.length_map, List.all_cons, List.all_nil, avs_len, beq_self_eq_true, Bool.and_self, and_self, or_true, true_or, reduceCtorEq, *]; done) | fail) only [c_law06_StampBytes, go_sem, Nat.reduceAdd, Nat.reduceSub, Nat.reduceMul, Nat.reduceLT, Nat.reduceLeDiff, Int.reduceToNat, Nat.reduceEqDiff, Nat.reduceBEq, ↓reduceIte, reduceCtorEq, eA, Tree.one, Tree.ps, scal1, avs_len]
        repeat ((first | refine call0 300 trivial trivial (by first | exact sawake_calls | exact c1 | exact c2 | exact r1 | exact r2) (by first | exact .inl rfl | exact .inr rfl) (fun A eA => ?_) | refine call1 300 trivial trivial (by first | exact sawake_calls | exact c1 | exact c2 | exact r1 | exact r2) (fun A eA => ?_)); simp (disch := first | omega | (simp only [avs_len, List.length_cons, List.length_append, List.length_nil, List.length_take, List.length_drop, List.length_map]; omega) | (simp only [cells, scal1, allSz, List.length_cons, List.length_nil, List.length_append, List.length_map, List.all_cons, List.all_nil, avs_len, beq_self_eq_true, Bool.and_self, and_self, or_true, true_or, reduceCtorEq, *]; done) | fail) only [c_law06_StampBytes, go_sem, Nat.reduceAdd, Nat.reduceSub, Nat.reduceMul, Nat.reduceLT, Nat.reduceLeDiff, Int.reduceToNat, Nat.reduceEqDiff, Nat.reduceBEq, ↓reduceIte, reduceCtorEq, eA, Tree.one, Tree.ps, scal1, avs_len, tavs_len])
        refine call2 300 trivial trivial [] rfl rfl cn (.inl rfl) (fun A eA => ?_)
        simp (disch := first | omega | (simp only [avs_len, List.length_cons, List.length_append, List.length_nil, List.length_take, List.length_drop, List.length_map]; omega) | (simp only [cells, scal1, allSz, List.length_cons, List.length_nil, List.length_append, List.length_map, List.all_cons, List.all_nil, avs_len, beq_self_eq_true, Bool.and_self, and_self, or_true, true_or, reduceCtorEq, *]; done) | fail) only [c_law06_StampBytes, go_sem, Nat.reduceAdd, Nat.reduceSub, Nat.reduceMul, Nat.reduceLT, Nat.reduceLeDiff, Int.reduceToNat, Nat.reduceEqDiff, Nat.reduceBEq, ↓reduceIte, reduceCtorEq, eA, Tree.one, Tree.ps, scal1]
        refine call2 300 trivial trivial [(1, 6)] rfl rfl cg (.inl rfl) (fun A eA => ?_)
        simp (disch := first | omega | (simp only [avs_len, List.length_cons, List.length_append, List.length_nil, List.length_take, List.length_drop, List.length_map]; omega) | (simp only [cells, scal1, allSz, List.length_cons, List.length_nil, List.length_append, List.length_map, List.all_cons, List.all_nil, avs_len, beq_self_eq_true, Bool.and_self, and_self, or_true, true_or, reduceCtorEq, *]; done) | fail) only [c_law06_StampBytes, go_sem, Nat.reduceAdd, Nat.reduceSub, Nat.reduceMul, Nat.reduceLT, Nat.reduceLeDiff, Int.reduceToNat, Nat.reduceEqDiff, Nat.reduceBEq, ↓reduceIte, reduceCtorEq, eA, Tree.one, Tree.ps, scal1, List.all_cons, List.all_nil, Bool.and_self, xtavs, ET.ps, ET.n, tavs, beq_self_eq_true]
        repeat ((first | refine call0 300 trivial trivial (by first | exact r3 | exact r4) (by first | exact .inl rfl | exact .inr rfl) (fun A eA => ?_) | refine call1 300 trivial trivial (by first | exact r3 | exact r4) (fun A eA => ?_)); simp (disch := first | omega | (simp only [avs_len, List.length_cons, List.length_append, List.length_nil, List.length_take, List.length_drop, List.length_map]; omega) | (simp only [cells, scal1, allSz, List.length_cons, List.length_nil, List.length_append, List.length_map, List.all_cons, List.all_nil, avs_len, beq_self_eq_true, Bool.and_self, and_self, or_true, true_or, reduceCtorEq, *]; done) | fail) only [c_law06_StampBytes, go_sem, Nat.reduceAdd, Nat.reduceSub, Nat.reduceMul, Nat.reduceLT, Nat.reduceLeDiff, Int.reduceToNat, Nat.reduceEqDiff, Nat.reduceBEq, ↓reduceIte, reduceCtorEq, eA, Tree.one, Tree.ps, scal1, List.all_cons, List.all_nil, Bool.and_self, xtavs, ET.ps, ET.n, tavs, beq_self_eq_true])
        refine call2 300 trivial trivial [(0, 8)] (by simp only [go_sem, Nat.reduceAdd, Nat.reduceSub, Nat.reduceMul, Nat.reduceLT, Nat.reduceLeDiff, Int.reduceToNat, Nat.reduceEqDiff, Nat.reduceBEq, ↓reduceIte, reduceCtorEq] <;> rfl) (by simp only [go_sem, Nat.reduceAdd, Nat.reduceSub, Nat.reduceMul, Nat.reduceLT, Nat.reduceLeDiff, Int.reduceToNat, Nat.reduceEqDiff, Nat.reduceBEq, ↓reduceIte, reduceCtorEq, Ev.rest, keyIn] <;> rfl) cp (.inr ⟨rfl, out_free _ _ _ _ _ _ _ (by simp only [go_sem, Nat.reduceAdd, Nat.reduceSub, Nat.reduceMul, Nat.reduceLT, Nat.reduceLeDiff, Int.reduceToNat, Nat.reduceEqDiff, Nat.reduceBEq, ↓reduceIte, reduceCtorEq, hk6])⟩) (fun A eA => ?_)
        simp (disch := first | omega | (simp only [avs_len, List.length_cons, List.length_append, List.length_nil, List.length_take, List.length_drop, List.length_map]; omega) | (simp only [cells, scal1, allSz, List.length_cons, List.length_nil, List.length_append, List.length_map, List.all_cons, List.all_nil, avs_len, beq_self_eq_true, Bool.and_self, and_self, or_true, true_or, reduceCtorEq, *]; done) | fail) only [c_law06_StampBytes, go_sem, Nat.reduceAdd, Nat.reduceSub, Nat.reduceMul, Nat.reduceLT, Nat.reduceLeDiff, Int.reduceToNat, Nat.reduceEqDiff, Nat.reduceBEq, ↓reduceIte, reduceCtorEq, eA, Tree.one, Tree.ps, scal1, List.all_cons, List.all_nil, Bool.and_self, outS, obH, obV]
        refine call2 300 trivial trivial [(0, 8), (1, key)] (by simp only [go_sem, Nat.reduceAdd, Nat.reduceSub, Nat.reduceMul, Nat.reduceLT, Nat.reduceLeDiff, Int.reduceToNat, Nat.reduceEqDiff, Nat.reduceBEq, ↓reduceIte, reduceCtorEq, hk6, hk6', hk7, hk7', Ev.sel] <;> rfl) (by simp only [go_sem, Nat.reduceAdd, Nat.reduceSub, Nat.reduceMul, Nat.reduceLT, Nat.reduceLeDiff, Int.reduceToNat, Nat.reduceEqDiff, Nat.reduceBEq, ↓reduceIte, reduceCtorEq, Ev.rest, keyIn, hk6, hk6', hk7, hk7'] <;> rfl) ce (.inr ⟨tup_free _ _ _ _ _ _ (by simp only [go_sem, Nat.reduceAdd, Nat.reduceSub, Nat.reduceMul, Nat.reduceLT, Nat.reduceLeDiff, Int.reduceToNat, Nat.reduceEqDiff, Nat.reduceBEq, ↓reduceIte, reduceCtorEq, hk6, hk6'] <;> rfl), out_free2 _ _ _ _ _ _ _ _ _ (by simp only [go_sem, Nat.reduceAdd, Nat.reduceSub, Nat.reduceMul, Nat.reduceLT, Nat.reduceLeDiff, Int.reduceToNat, Nat.reduceEqDiff, Nat.reduceBEq, ↓reduceIte, reduceCtorEq, hk6, hk6'] <;> rfl)⟩) (fun A eA => ?_)
        simp (disch := first | omega | (simp only [avs_len, List.length_cons, List.length_append, List.length_nil, List.length_take, List.length_drop, List.length_map]; omega) | (simp only [cells, scal1, allSz, List.length_cons, List.length_nil, List.length_append, List.length_map, List.all_cons, List.all_nil, avs_len, beq_self_eq_true, Bool.and_self, and_self, or_true, true_or, reduceCtorEq, *]; done) | fail) only [c_law06_StampBytes, go_sem, Nat.reduceAdd, Nat.reduceSub, Nat.reduceMul, Nat.reduceLT, Nat.reduceLeDiff, Int.reduceToNat, Nat.reduceEqDiff, Nat.reduceBEq, ↓reduceIte, reduceCtorEq, eA, Tree.one, Tree.ps, scal1, List.all_cons, List.all_nil, Bool.and_self, avs_len, Nat.sub_zero, avs_take_all, ↓frz_ints, chunk, hk6, hk6', hk7, hk7']
        refine call2 300 trivial trivial [] rfl rfl cn2 (.inr ⟨by simp only [go_sem, Nat.reduceAdd, Nat.reduceSub, Nat.reduceMul, Nat.reduceLT, Nat.reduceLeDiff, Int.reduceToNat, Nat.reduceEqDiff, Nat.reduceBEq, ↓reduceIte, reduceCtorEq, nameFree] <;> rfl, by simp only [go_sem, Nat.reduceAdd, Nat.reduceSub, Nat.reduceMul, Nat.reduceLT, Nat.reduceLeDiff, Int.reduceToNat, Nat.reduceEqDiff, Nat.reduceBEq, ↓reduceIte, reduceCtorEq, heapFree, avs_free, nameFree, List.all_cons, List.all_nil, Bool.and_self] <;> rfl⟩) (fun A eA => ?_)
        simp (disch := first | omega | (simp only [avs_len, List.length_cons, List.length_append, List.length_nil, List.length_take, List.length_drop, List.length_map]; omega) | (simp only [cells, scal1, allSz, List.length_cons, List.length_nil, List.length_append, List.length_map, List.all_cons, List.all_nil, avs_len, beq_self_eq_true, Bool.and_self, and_self, or_true, true_or, reduceCtorEq, *]; done) | fail) only [c_law06_StampBytes, go_sem, Nat.reduceAdd, Nat.reduceSub, Nat.reduceMul, Nat.reduceLT, Nat.reduceLeDiff, Int.reduceToNat, Nat.reduceEqDiff, Nat.reduceBEq, ↓reduceIte, reduceCtorEq, eA, Tree.one, Tree.ps, scal1, List.all_cons, List.all_nil, Bool.and_self, hk6, hk6', hk7, hk7']
        refine call2 300 trivial trivial [(2, 6)] (by simp only [go_sem, Nat.reduceAdd, Nat.reduceSub, Nat.reduceMul, Nat.reduceLT, Nat.reduceLeDiff, Int.reduceToNat, Nat.reduceEqDiff, Nat.reduceBEq, ↓reduceIte, reduceCtorEq, hk6, hk6', hk7, hk7'] <;> rfl) (by simp only [go_sem, Nat.reduceAdd, Nat.reduceSub, Nat.reduceMul, Nat.reduceLT, Nat.reduceLeDiff, Int.reduceToNat, Nat.reduceEqDiff, Nat.reduceBEq, ↓reduceIte, reduceCtorEq, Ev.rest, keyIn, hk6, hk6', hk7, hk7'] <;> rfl) cg2 (.inr ⟨rfl, by simp only [heapFree, hFr, Bool.and_self]⟩) (fun A eA => ?_)
        simp (disch := first | omega | (simp only [avs_len, List.length_cons, List.length_append, List.length_nil, List.length_take, List.length_drop, List.length_map]; omega) | (simp only [cells, scal1, allSz, List.length_cons, List.length_nil, List.length_append, List.length_map, List.all_cons, List.all_nil, avs_len, beq_self_eq_true, Bool.and_self, and_self, or_true, true_or, reduceCtorEq, *]; done) | fail) only [c_law06_StampBytes, go_sem, Nat.reduceAdd, Nat.reduceSub, Nat.reduceMul, Nat.reduceLT, Nat.reduceLeDiff, Int.reduceToNat, Nat.reduceEqDiff, Nat.reduceBEq, ↓reduceIte, reduceCtorEq, eA, Tree.one, Tree.ps, scal1, List.all_cons, List.all_nil, Bool.and_self, hk6, hk6', hk7, hk7']
        refine call2 300 trivial trivial [(2, 6)] (by simp only [go_sem, Nat.reduceAdd, Nat.reduceSub, Nat.reduceMul, Nat.reduceLT, Nat.reduceLeDiff, Int.reduceToNat, Nat.reduceEqDiff, Nat.reduceBEq, ↓reduceIte, reduceCtorEq, hk6, hk6', hk7, hk7'] <;> rfl) (by simp only [go_sem, Nat.reduceAdd, Nat.reduceSub, Nat.reduceMul, Nat.reduceLT, Nat.reduceLeDiff, Int.reduceToNat, Nat.reduceEqDiff, Nat.reduceBEq, ↓reduceIte, reduceCtorEq, Ev.rest, keyIn, hk6, hk6', hk7, hk7'] <;> rfl) cd (.inr ⟨rfl, by simp only [heapFree, hFr, Bool.and_self]⟩) (fun A eA => ?_)
        simp (disch := first | omega | (simp only [avs_len, List.length_cons, List.length_append, List.length_nil, List.length_take, List.length_drop, List.length_map]; omega) | (simp only [cells, scal1, allSz, List.length_cons, List.length_nil, List.length_append, List.length_map, List.all_cons, List.all_nil, avs_len, beq_self_eq_true, Bool.and_self, and_self, or_true, true_or, reduceCtorEq, *]; done) | fail) only [c_law06_StampBytes, go_sem, Nat.reduceAdd, Nat.reduceSub, Nat.reduceMul, Nat.reduceLT, Nat.reduceLeDiff, Int.reduceToNat, Nat.reduceEqDiff, Nat.reduceBEq, ↓reduceIte, reduceCtorEq, eA, Tree.one, Tree.ps, scal1, List.all_cons, List.all_nil, Bool.and_self, hk6, hk6', hk7, hk7']
        repeat ((first | refine call0 300 trivial trivial (by first | exact c7 | exact c8) (by first | exact .inl rfl | exact .inr rfl) (fun A eA => ?_) | refine call1 300 trivial trivial (by first | exact c7 | exact c8) (fun A eA => ?_)); simp (disch := first | omega | (simp only [avs_len, List.length_cons, List.length_append, List.length_nil, List.length_take, List.length_drop, List.length_map]; omega) | (simp only [cells, scal1, allSz, List.length_cons, List.length_nil, List.length_append, List.length_map, List.all_cons, List.all_nil, avs_len, beq_self_eq_true, Bool.and_self, and_self, or_true, true_or, reduceCtorEq, *]; done) | fail) only [c_law06_StampBytes, go_sem, Nat.reduceAdd, Nat.reduceSub, Nat.reduceMul, Nat.reduceLT, Nat.reduceLeDiff, Int.reduceToNat, Nat.reduceEqDiff, Nat.reduceBEq, ↓reduceIte, reduceCtorEq, eA, Tree.one, Tree.ps, scal1, List.all_cons, List.all_nil, Bool.and_self])
        exact doneG rfl
theorem sbytes_pair (z : Tree × ET) (B : List Nat) (hB : ∀ b ∈ B, b < 256) : PCalls Try.prog F_law06_StampBytes [stv z.1 z.2, bv B] (.bool true) := sbytes_calls z.1 z.2 B hB
end Go.Proofs.Ytmokhopjnjecbab
/- Rows of bytes out of a row's reading of the arguments. -/
namespace Go.Proofs.Ytmokhopjnjecbab.Sized
open Go.ChangeShapes Go.WideShapes Go.RowKit
open Go.Ev (PCalls Rep Reps none4 zeroC avs avs_get avs_len add_mk)
set_option linter.unusedVariables false
set_option linter.unusedSimpArgs false
/-- A slice of whole numbers, opened. -/
def IsRow (k : IntKind) (w : World) (a : Option Addr) (len cap : Nat) (zs : List Int) : Prop :=
  (a = none ∧ len = 0 ∧ cap = 0 ∧ zs = []) ∨
  ∃ x, a = some x ∧ len ≤ cap ∧ cap ≤ maxLen ∧ zs.length = cap ∧ (∀ i, i < zs.length → w.cell? (x.add i) = some (.int k (zs.getD i 0))) ∧ ∀ n ∈ zs, (Lit.int k n).wf = true
theorem rep_bytes {w : World} {a : Option Addr} {len cap : Nat} {zs : List Int} (h : IsRow .u8 w a len cap zs) :
    ∃ bs : List Nat, (∀ b ∈ bs, b < 256) ∧ bs.length = len ∧ Rep none4 (fun _ => False) zeroC w true (.fz 1 (avs bs) none) (.slice a len cap) := by
  rcases h with ⟨rfl, rfl, rfl, rfl⟩ | ⟨x, rfl, hl, hm, hz, hcell, hwf⟩
  · exact ⟨[], by simp, rfl, .fz0 (by simp) (fun _ => ⟨rfl, rfl⟩)⟩
  · have hrange : ∀ n ∈ zs, 0 ≤ n ∧ n < 256 := by
      intro n hn
      have := hwf n hn
      simp [Lit.wf, IntKind.min, IntKind.max, IntKind.signed, IntKind.bits] at this
      omega
    have hlen : ((zs.take len).map Int.toNat).length = len := by simp; omega
    refine ⟨(zs.take len).map Int.toNat, ?_, hlen, ?_⟩
    · intro b hb
      obtain ⟨n, hn, rfl⟩ := List.mem_map.1 hb
      have := hrange n (List.mem_of_mem_take hn)
      omega
    · by_cases h0 : len = 0
      · subst h0
        simp only [List.take_zero, List.map_nil, avs]
        exact .fz0 (by simp) (fun e => by cases e)
      · have hal : (avs ((zs.take len).map Int.toNat)).length = len := by rw [avs_len]; exact hlen
        have hsl : (Value.slice (some x) len cap) = .slice (some x) (avs ((zs.take len).map Int.toNat)).length cap := by rw [hal]
        rw [hsl]
        have hget : ∀ (i : Nat) e, (avs ((zs.take len).map Int.toNat))[i]? = some e → i < zs.length ∧ e = .int .u8 (zs.getD i 0) := by
          intro i e hi
          have hlt : i < len := by have := (List.getElem?_eq_some_iff.1 hi).1; omega
          rw [avs_get, List.getElem?_map, List.getElem?_take_of_lt hlt, List.getElem?_eq_getElem (by omega)] at hi
          simp at hi
          subst hi
          refine ⟨by omega, ?_⟩
          have := hrange zs[i] (List.getElem_mem (by omega))
          have e2 : zs.getD i 0 = zs[i] := by simp [List.getD, show i < zs.length by omega]
          rw [e2]
          congr 1
          omega
        refine .fz (fun i _ => .int .u8 (zs.getD i 0)) (fun e => by rw [e] at hal; simp at hal; omega) (by omega) (by simp) (fun i e hi => ?_) (fun i e j y hi hj => ?_) (fun i e j y hi hj => ?_) (fun i e j y hi hj => rfl) ⟨fun _ _ _ h => h, fun h => h, ?_⟩
        · obtain ⟨_, rfl⟩ := hget i e hi; rfl
        · obtain ⟨hlt, rfl⟩ := hget i e hi
          cases j with
          | succ j => simp [Ev.cells] at hj
          | zero => rw [Nat.mul_one, Nat.add_zero]; exact hcell i hlt
        · obtain ⟨hlt, rfl⟩ := hget i e hi
          cases j with
          | succ j => simp [Ev.cells] at hj
          | zero => simp [Ev.cells] at hj; subst hj; exact .int
        · have := hcell 0 (by omega)
          have := World.block_lt_of_cell? w _ this
          rwa [Ev.add_block] at this
/-- A slice of rows of bytes, opened. -/
theorem rep_rows {H : Type} {enc : TypeId × Value → H} {P : Program} {w : World} {base : Nat} {held : Bool} {fuel : Nat} {t e b : TypeId} {a : Option Addr} {len cap : Nat} {x : DataW H × List MemPlace}
    (ht : P.underlying t = some (.slice e)) (he : P.underlying e = some (.slice b)) (hb : P.underlying b = some (.int .u8)) (hc1 : P.cellsOf e = 1) (hc2 : P.cellsOf b = 1)
    (h : DataW.trod enc P w base (fun _ => true) held fuel t [.slice a len cap] = some x) :
    ∃ ls : List (List Nat), ls.length = len ∧ (∀ l ∈ ls, ∀ b ∈ l, b < 256) ∧ Rep none4 (fun _ => False) zeroC w true (.fz 1 (ls.map fun l => .fz 1 (avs l) none) none) (.slice a len cap) := by
  rcases DataW.trod_slice ht h with ⟨hcs, _⟩ | ⟨a', len', cap', elems, rest, n, _, hcs, rfl, hbb, hl, hm, hlen, hel, _, _⟩
  · simp only [List.cons.injEq, Value.slice.injEq, and_true] at hcs
    obtain ⟨rfl, rfl, rfl⟩ := hcs
    exact ⟨[], rfl, by simp, .fz0 (by simp) (fun _ => ⟨rfl, rfl⟩)⟩
  · simp only [List.cons.injEq, Value.slice.injEq, and_true] at hcs
    obtain ⟨rfl, rfl, rfl⟩ := hcs
    have each : ∀ i, i < len → ∃ (bs : List Nat) (v : Value), (∀ b ∈ bs, b < 256) ∧ w.cell? (a'.add i) = some v ∧ Rep none4 (fun _ => False) zeroC w true (.fz 1 (avs bs) none) v ∧ v.oneCell' = true := by
      intro i hi
      have h1 := hel i hi
      rw [List.getElem?_eq_getElem (by omega), hc1, Nat.mul_one, Option.bind_eq_some_iff] at h1
      obtain ⟨cs', h2, h3⟩ := h1
      have row : ∃ a1 l1 c1 zs, cs' = [.slice a1 l1 c1] ∧ IsRow .u8 w a1 l1 c1 zs := by
        rcases open_ints he hb hc2 h3 with ⟨rfl, _⟩ | ⟨x1, l1, c1, zs, rfl, _, hl1, hm1, hz, _, hcell, hwz⟩
        · exact ⟨none, 0, 0, [], rfl, .inl ⟨rfl, rfl, rfl, rfl⟩⟩
        · exact ⟨some x1, l1, c1, zs, rfl, .inr ⟨x1, rfl, hl1, hm1, by simpa using hz, hcell, hwz⟩⟩
      obtain ⟨a1, l1, c1, zs, rfl, hrow⟩ := row
      obtain ⟨bs, hbs, _, hrep⟩ := rep_bytes hrow
      exact ⟨bs, _, hbs, cell_of_cells?_one h2, hrep, rfl⟩
    obtain ⟨f, hf⟩ : ∃ f : Nat → List Nat × Value, ∀ i, i < len → (∀ b ∈ (f i).1, b < 256) ∧ w.cell? (a'.add i) = some (f i).2 ∧ Rep none4 (fun _ => False) zeroC w true (.fz 1 (avs (f i).1) none) (f i).2 ∧ (f i).2.oneCell' = true :=
      ⟨fun i => if hi : i < len then (Classical.choose (each i hi), Classical.choose (Classical.choose_spec (each i hi))) else ([], undef), fun i hi => by
        simp only [dif_pos hi]
        exact Classical.choose_spec (Classical.choose_spec (each i hi))⟩
    clear each
    refine ⟨(List.range len).map fun i => (f i).1, by simp, ?_, ?_⟩
    · intro l hl'
      obtain ⟨i, hi, rfl⟩ := List.mem_map.1 hl'
      exact (hf i (List.mem_range.1 hi)).1
    · by_cases h0 : len = 0
      · subst h0
        exact .fz0 (by simp) (fun e => by cases e)
      · have hget : ∀ (i : Nat) y, (((List.range len).map fun i => (f i).1).map fun l => Ev.AV.fz 1 (avs l) none)[i]? = some y → i < len ∧ y = .fz 1 (avs (f i).1) none := by
          intro i y hy
          have hi : i < len := by have := (List.getElem?_eq_some_iff.1 hy).1; simpa using this
          simp [List.getElem?_map, hi] at hy
          exact ⟨hi, hy.symm⟩
        have hsl : (Value.slice (some a') len cap) = .slice (some a') (((List.range len).map fun i => (f i).1).map fun l => Ev.AV.fz 1 (avs l) none).length cap := by simp
        rw [hsl]
        refine .fz (fun i _ => (f i).2) (fun e => by have := congrArg List.length e; simp at this; omega) (by simpa using hl) (by simp) (fun i y hy => ?_) (fun i y j z hy hj => ?_) (fun i y j z hy hj => ?_) (fun i y j z hy hj => ?_) ⟨fun _ _ _ h => h, fun h => h, ?_⟩
        · obtain ⟨hi, rfl⟩ := hget i y hy; rfl
        · obtain ⟨hi, rfl⟩ := hget i y hy
          cases j with
          | succ j => simp [Ev.cells] at hj
          | zero => rw [Nat.mul_one, Nat.add_zero]; exact (hf i hi).2.1
        · obtain ⟨hi, rfl⟩ := hget i y hy
          cases j with
          | succ j => simp [Ev.cells] at hj
          | zero =>
            simp [Ev.cells] at hj; subst hj
            exact (hf i hi).2.2.1
        · obtain ⟨hi, rfl⟩ := hget i y hy
          exact (hf i hi).2.2.2
        · have := World.block_lt_of_cell? w _ (hf 0 (by omega)).2.1
          rwa [Ev.add_block] at this
/-- A row's slice of whole numbers is no longer than its weight allows. -/
theorem sized_ints {H : Type} {enc : TypeId × Value → H} {P : Program} {W : World} {base : Nat} {spare : Nat → Bool} {held : Bool} {t e : TypeId} {k : IntKind} {a : Option Addr} {len cap : Nat} {d : DataW H} {ps : List MemPlace} {ts : List TypeId} {ds : List (DataW H)} {j : Nat}
    (hsz : (DataW.weightsEach P ts ds).all (· ≤ reachBytes) = true) (ht : ts[j]? = some t) (hd : ds[j]? = some d) (hu : P.underlying t = some (.slice e)) (he : P.underlying e = some (.int k)) (hc : P.cellsOf e = 1) {B : Nat} (hB : P.bytesOf e = B)
    (h : DataW.Trod enc P W base spare held t (.slice a len cap) d ps) : len * B ≤ 140737488351232 := by
  obtain ⟨fuel, hf⟩ := h
  rcases open_ints hu he hc hf with ⟨hcs, _⟩ | ⟨x, l, c, zs, hcs, _, hl, _, hz, hx, _, _⟩
  · simp [Value.cells] at hcs
    obtain ⟨rfl, rfl, rfl⟩ := hcs
    simp
  · simp [Value.cells] at hcs
    obtain ⟨rfl, rfl, rfl⟩ := hcs
    obtain ⟨hx, _⟩ := Prod.mk.inj hx
    subst hx
    have z := sized_slice hsz ht hd hu
    rw [hB] at z
    have hl2 : len ≤ zs.length := by
      rw [hz]
      split
      · exact hl
      · exact Nat.le_refl _
    have h1 : (lits (H := H) k (zs.take len)).length + (lits (H := H) k (zs.drop len)).length = zs.length := by
      simp [lits]
      omega
    rw [h1] at z
    exact Nat.le_trans (Nat.mul_le_mul_right _ hl2) z
end Go.Proofs.Ytmokhopjnjecbab.Sized
/- Whatever data a row reads as an argument: its cells by their types, as abstract values. -/
namespace Go.Ev
open Go.ChangeShapes Go.WideShapes Go.RowKit
set_option linter.unusedVariables false
set_option linter.unusedSimpArgs false
/-- The types of cells. -/
inductive Sh where
  | int (k : IntKind) | bool | str | sl (e : TypeId)
def shFields (P : Program) (f : TypeId → Option (List Sh)) : Nat → List Field → Option (List Sh)
  | _, [] => some []
  | o, fd :: l => if fd.offset = o then (match f fd.type with
    | some a => if P.cellsOf fd.type = a.length then (match shFields P f (o + a.length) l with
      | some b => some (a ++ b)
      | none => none) else none
    | none => none) else none
def shapes (P : Program) : Nat → TypeId → Option (List Sh)
  | 0, _ => none
  | n + 1, t => match P.underlying t with
    | some (.int k) => some [.int k]
    | some .bool => some [.bool]
    | some .string => some [.str]
    | some (.slice e) => some [.sl e]
    | some (.struct fs) => (match shFields P (shapes P n) 0 fs.toList with
      | some ss => if P.cellsOf t = ss.length then some ss else none
      | none => none)
    | _ => none
/-- Structs are told as their cells. -/
def mkE (P : Program) (e : TypeId) (xs : List AV) : AV := match P.underlying e with
  | some (.struct _) => .agg xs
  | _ => xs.headD .any
inductive CellOk (P : Program) : Sh → AV → Prop
  | int {k n} (h : (Lit.int k n).wf = true) : CellOk P (.int k) (.int k n)
  | bool {b} : CellOk P .bool (.bool b)
  | str {s : ByteArray} (h : s.size ≤ maxLen) : CellOk P .str (.str s)
  | sl {e ss es} (hs : shapes P 9 e = some ss) (hlen : es.length ≤ maxLen) (hl : ∀ y ∈ es, (cells y).length = ss.length) (hf : ∀ y ∈ es, y = mkE P e (cells y))
      (h : ∀ y ∈ es, ∀ (j : Nat) s c, ss[j]? = some s → (cells y)[j]? = some c → CellOk P s c) : CellOk P (.sl e) (.fz ss.length es none)
/-- Cell by cell: typed, and standing for that value. -/
inductive All3 (P : Program) (w : World) : List Sh → List AV → List Value → Prop
  | nil : All3 P w [] [] []
  | cons {s c v ss xs vs} (hc : CellOk P s c) (hr : Rep none4 (fun _ => False) zeroC w true c v) (h1 : v.oneCell' = true) (t : All3 P w ss xs vs) : All3 P w (s :: ss) (c :: xs) (v :: vs)
section
variable {P : Program} {w : World}
theorem All3.append {ss xs vs ss' xs' vs'} (h : All3 P w ss xs vs) (h' : All3 P w ss' xs' vs') : All3 P w (ss ++ ss') (xs ++ xs') (vs ++ vs') := by
  induction h with
  | nil => exact h'
  | cons a b c t ih => exact .cons a b c ih
theorem All3.len {ss xs vs} (h : All3 P w ss xs vs) : xs.length = ss.length ∧ vs.length = ss.length := by
  induction h with
  | nil => exact ⟨rfl, rfl⟩
  | cons a b c t ih => simp only [List.length_cons]; omega
theorem All3.get {ss xs vs} (h : All3 P w ss xs vs) : ∀ (j : Nat) x, xs[j]? = some x → ∃ s v, ss[j]? = some s ∧ vs[j]? = some v ∧ CellOk P s x ∧ Rep none4 (fun _ => False) zeroC w true x v ∧ v.oneCell' = true := by
  induction h with
  | nil => intro j x hx; simp at hx
  | cons a b c t ih =>
    intro j x hx
    cases j with
    | zero => simp at hx; subst hx; exact ⟨_, _, rfl, rfl, a, b, c⟩
    | succ j => simp at hx; simpa using ih j x hx
theorem CellOk.one {s : Sh} {c : AV} (h : CellOk P s c) : cells c = [c] := by cases h <;> rfl
theorem shapes_scalar {n : Nat} {t : TypeId} {ss : List Sh} (h : shapes P (n + 1) t = some ss) (hn : ∀ fs, P.underlying t ≠ some (.struct fs)) : ss.length = 1 := by
  simp only [shapes] at h
  split at h
  · simp at h; subst h; rfl
  · simp at h; subst h; rfl
  · simp at h; subst h; rfl
  · simp at h; subst h; rfl
  · rename_i fs hf; exact absurd hf (hn fs)
  · cases h
theorem cells_mkE {e : TypeId} {ss : List Sh} (hs : shapes P 9 e = some ss) {xs : List AV} {vs : List Value} (h : All3 P w ss xs vs) : cells (mkE P e xs) = xs := by
  unfold mkE
  split
  · rfl
  · rename_i hn
    have h1 := shapes_scalar hs (fun fs hf => hn fs hf)
    have hl := h.len.1
    match xs, hl with
    | [c], _ =>
      obtain ⟨s, v, _, _, hc, _⟩ := h.get 0 c rfl
      exact hc.one
    | [], hl => simp at hl; omega
    | _ :: _ :: _, hl => simp at hl; omega
/-- The types of elements, all with shapes, closed. -/
def okEs (P : Program) (Es : List TypeId) : Bool := Es.all fun e => match shapes P 9 e with
  | some ss => P.cellsOf e == ss.length && (ss.length != 0 && ss.all (fun s => match s with | .sl e' => Es.contains e' | _ => true))
  | none => false
def inEs (Es : List TypeId) (ss : List Sh) : Prop := ∀ e, Sh.sl e ∈ ss → e ∈ Es
theorem okEs_get {Es : List TypeId} (h : okEs P Es = true) {e : TypeId} (he : e ∈ Es) : ∃ ss, shapes P 9 e = some ss ∧ P.cellsOf e = ss.length ∧ 0 < ss.length ∧ inEs Es ss := by
  have := List.all_eq_true.1 h e he
  split at this
  · rename_i ss hs
    simp only [Bool.and_eq_true, beq_iff_eq, bne_iff_ne, ne_eq, List.all_eq_true] at this
    refine ⟨ss, hs, this.1, by omega, fun e' he' => ?_⟩
    simpa using this.2.2 _ he'
  · cases this
theorem fields_cells {H : Type} {enc : TypeId × Value → H} {base : Nat} {held : Bool} {Es : List TypeId} {n m : Nat} {cs : List Value}
    (ih : ∀ (t : TypeId) (ss : List Sh) (cs : List Value) (x : DataW H × List MemPlace), shapes P n t = some ss → inEs Es ss → DataW.trod enc P w base (fun _ => true) held m t cs = some x → ∃ xs, All3 P w ss xs cs) :
    ∀ (l : List Field) (o : Nat) (ss : List Sh), shFields P (shapes P n) o l = some ss → inEs Es ss → o + ss.length ≤ cs.length →
      (∀ f ∈ l, ∃ x, DataW.trod enc P w base (fun _ => true) held m f.type ((cs.drop f.offset).take (P.cellsOf f.type)) = some x) → ∃ xs, All3 P w ss xs ((cs.drop o).take ss.length)
  | [], o, ss, h, _, _, _ => by simp [shFields] at h; subst h; exact ⟨[], by simpa using All3.nil⟩
  | f :: l, o, ss, h, hE, hlen, hf => by
    simp only [shFields] at h
    split at h
    case isFalse => cases h
    rename_i ho
    split at h
    case h_2 => cases h
    rename_i a ha
    split at h
    case isFalse => cases h
    rename_i hc
    split at h
    case h_2 => cases h
    rename_i b hb
    simp only [Option.some.injEq] at h
    subst h
    rw [List.length_append] at hlen ⊢
    obtain ⟨x, hx⟩ := hf f List.mem_cons_self
    rw [ho, hc] at hx
    obtain ⟨ys, hys⟩ := ih _ _ _ _ ha (fun e he => hE e (List.mem_append_left _ he)) hx
    obtain ⟨zs, hzs⟩ := fields_cells ih l (o + a.length) b hb (fun e he => hE e (List.mem_append_right _ he)) (by omega) (fun g hg => hf g (List.mem_cons_of_mem _ hg))
    refine ⟨ys ++ zs, ?_⟩
    have := hys.append hzs
    rwa [← List.drop_drop, ← List.take_add] at this
theorem rep_cells {H : Type} {enc : TypeId × Value → H} {base : Nat} {held : Bool} {Es : List TypeId} (hEs : okEs P Es = true) :
    ∀ (fuel n : Nat) (t : TypeId) (ss : List Sh) (cs : List Value) (x : DataW H × List MemPlace), shapes P n t = some ss → inEs Es ss → DataW.trod enc P w base (fun _ => true) held fuel t cs = some x → ∃ xs, All3 P w ss xs cs := by
  intro fuel
  induction fuel using Nat.strongRecOn with
  | ind fuel ih =>
    intro n t ss cs x hs hE h
    cases n with
    | zero => simp [shapes] at hs
    | succ n =>
      simp only [shapes] at hs
      split at hs
      · rename_i k hu
        simp only [Option.some.injEq] at hs; subst hs
        obtain ⟨z, rfl, _, hw⟩ := DataW.trod_int hu h
        exact ⟨[.int k z], .cons (.int hw) .int rfl .nil⟩
      · rename_i hu
        simp only [Option.some.injEq] at hs; subst hs
        obtain ⟨b, rfl, _⟩ := DataW.trod_bool hu h
        exact ⟨[.bool b], .cons .bool .bool rfl .nil⟩
      · rename_i hu
        simp only [Option.some.injEq] at hs; subst hs
        obtain ⟨b, rfl, _, hb⟩ := DataW.trod_string hu h
        exact ⟨[.str b], .cons (.str hb) .str rfl .nil⟩
      · rename_i e hu
        simp only [Option.some.injEq] at hs; subst hs
        obtain ⟨se, hse, hce, hpos, hEe⟩ := okEs_get hEs (hE e List.mem_cons_self)
        rcases DataW.trod_slice hu h with ⟨hcs, _⟩ | ⟨a', len, cap, elems, rest, m, hm, hcs, _, hbb, hl, hmx, hle, hel, _, _⟩
        · subst hcs
          exact ⟨[.fz se.length [] none], .cons (.sl hse (by simp) (by simp) (by simp) (by simp)) (.fz0 (by simp) (fun _ => ⟨rfl, rfl⟩)) rfl .nil⟩
        · subst hcs
          have each : ∀ i, i < len → ∃ q : List AV × List Value, All3 P w se q.1 q.2 ∧ ∀ (j : Nat) v, q.2[j]? = some v → w.cell? (a'.add (i * se.length + j)) = some v := by
            intro i hi
            have h1 := hel i hi
            rw [List.getElem?_eq_getElem (by omega), hce, Option.bind_eq_some_iff] at h1
            obtain ⟨cs', h3, h4⟩ := h1
            obtain ⟨xs, hx⟩ := ih m (by omega) 9 e se cs' _ hse hEe h4
            refine ⟨(xs, cs'), hx, fun j v hv => ?_⟩
            have hc := (World.cells?_some h3).2.2
            have hv' : cs'[j]? = some v := hv
            have hj : j < se.length := by have := (List.getElem?_eq_some_iff.1 hv').1; have := hx.len.2; omega
            have g := hc j hj
            rw [Ev.add_add] at g
            rw [g]; exact hv
          obtain ⟨f, hf⟩ : ∃ f : Nat → List AV × List Value, ∀ i, i < len → All3 P w se (f i).1 (f i).2 ∧ ∀ (j : Nat) v, (f i).2[j]? = some v → w.cell? (a'.add (i * se.length + j)) = some v :=
            ⟨fun i => if hi : i < len then Classical.choose (each i hi) else ([], []), fun i hi => by
              simp only [dif_pos hi]
              exact Classical.choose_spec (each i hi)⟩
          have hcE : ∀ i, i < len → cells (mkE P e (f i).1) = (f i).1 := fun i hi => cells_mkE hse (hf i hi).1
          obtain ⟨es, hes⟩ : ∃ es, es = (List.range len).map fun i => mkE P e (f i).1 := ⟨_, rfl⟩
          have hlen2 : es.length = len := by rw [hes]; simp
          have hget : ∀ (i : Nat) y, es[i]? = some y → i < len ∧ y = mkE P e (f i).1 := by
            intro i y hy
            have hi : i < len := by have := (List.getElem?_eq_some_iff.1 hy).1; omega
            rw [hes, List.getElem?_map, List.getElem?_range hi] at hy
            simp only [Option.map_some, Option.some.injEq] at hy
            exact ⟨hi, hy.symm⟩
          have hmem : ∀ y ∈ es, ∃ i, i < len ∧ y = mkE P e (f i).1 := by
            intro y hy
            obtain ⟨i, hi⟩ := List.mem_iff_getElem?.1 hy
            exact ⟨i, hget i y hi⟩
          refine ⟨[.fz se.length es none], .cons (.sl hse (by omega) (fun y hy => ?_) (fun y hy => ?_) (fun y hy j s c h1 h2 => ?_)) ?_ rfl .nil⟩
          · obtain ⟨i, hi, rfl⟩ := hmem y hy
            rw [hcE i hi]; exact (hf i hi).1.len.1
          · obtain ⟨i, hi, rfl⟩ := hmem y hy
            rw [hcE i hi]
          · obtain ⟨i, hi, rfl⟩ := hmem y hy
            rw [hcE i hi] at h2
            obtain ⟨s', v, h3, _, h4, _⟩ := (hf i hi).1.get j c h2
            rw [h1] at h3; cases h3
            exact h4
          · by_cases h0 : len = 0
            · subst h0
              have : es = [] := List.eq_nil_of_length_eq_zero hlen2
              subst this
              exact .fz0 (by simp) (fun e => by cases e)
            · have hsl : (Value.slice (some a') len cap) = .slice (some a') es.length cap := by rw [hlen2]
              rw [hsl]
              have one : ∀ (i : Nat) y (j : Nat) z, es[i]? = some y → (cells y)[j]? = some z → ∃ v, (f i).2[j]? = some v ∧ w.cell? (a'.add (i * se.length + j)) = some v ∧ Rep none4 (fun _ => False) zeroC w true z v ∧ v.oneCell' = true := by
                intro i y j z hy hj
                obtain ⟨hi, rfl⟩ := hget i y hy
                rw [hcE i hi] at hj
                obtain ⟨s', v, _, h3, _, h5, h6⟩ := (hf i hi).1.get j z hj
                exact ⟨v, h3, (hf i hi).2 j v h3, h5, h6⟩
              refine .fz (fun i j => ((f i).2[j]?).getD undef) (fun e => by rw [e] at hlen2; simp at hlen2; omega) (by omega) (by simp) (fun i y hy => ?_) (fun i y j z hy hj => ?_) (fun i y j z hy hj => ?_) (fun i y j z hy hj => ?_) ⟨fun _ _ _ h => h, fun h => h, ?_⟩
              · obtain ⟨hi, rfl⟩ := hget i y hy
                rw [hcE i hi]; exact (hf i hi).1.len.1
              · obtain ⟨v, h1, h2, _⟩ := one i y j z hy hj
                rw [h1]; exact h2
              · obtain ⟨v, h1, _, h2, _⟩ := one i y j z hy hj
                rw [h1]; exact h2
              · obtain ⟨v, h1, _, _, h2⟩ := one i y j z hy hj
                rw [h1]; exact h2
              · have hl2 := (hf 0 (by omega)).1.len.2
                have := World.block_lt_of_cell? w _ ((hf 0 (by omega)).2 0 _ (List.getElem?_eq_getElem (by omega)))
                rwa [Ev.add_block] at this
      · rename_i fs hu
        split at hs
        case h_2 => cases hs
        rename_i ss' hsf
        split at hs
        case isFalse => cases hs
        rename_i hct
        simp only [Option.some.injEq] at hs; subst hs
        obtain ⟨xs, m, hm, rfl, hl, hlen, hf⟩ := DataW.trod_struct hu h
        have hl' : cs.length = ss'.length := by omega
        obtain ⟨ys, hys⟩ := fields_cells (Es := Es) (n := n) (m := m) (cs := cs) (fun t ss cs x h1 h2 h3 => ih m (by omega) n t ss cs x h1 h2 h3) fs.toList 0 ss' hsf hE (by omega) (fun f hmemf => by
          obtain ⟨i, hi⟩ := List.mem_iff_getElem?.1 hmemf
          have hi' : fs[i]? = some f := by simpa using hi
          have h1 := hf i f hi'
          have hlt : i < xs.length := by have := (List.getElem?_eq_some_iff.1 hi).1; simp at this; omega
          rw [List.getElem?_eq_getElem hlt] at h1
          exact ⟨_, h1⟩)
        refine ⟨ys, ?_⟩
        rw [List.drop_zero, List.take_of_length_le (by omega)] at hys
        exact hys
      · cases hs
/-- An argument of a struct type. -/
theorem rep_struct {H : Type} {enc : TypeId × Value → H} {base : Nat} {held : Bool} (Es : List TypeId) {t : TypeId} {ss : List Sh} {vs : Array Value} {d : DataW H} {ps : List MemPlace}
    (hEs : okEs P Es = true) (hs : shapes P 9 t = some ss) (hE : inEs Es ss) (h : DataW.Trod enc P w base (fun _ => true) held t (.agg vs) d ps) :
    ∃ xs, xs.length = ss.length ∧ (∀ (j : Nat) s x, ss[j]? = some s → xs[j]? = some x → CellOk P s x) ∧ Rep none4 (fun _ => False) zeroC w true (.agg xs) (.agg vs) := by
  obtain ⟨fuel, hf⟩ := h
  obtain ⟨xs, hx⟩ := rep_cells hEs fuel 9 t ss _ _ hs hE hf
  have hcs : (Value.agg vs).cells.toList = vs.toList := rfl
  rw [hcs] at hx
  have hl := hx.len
  refine ⟨xs, hl.1, fun j s x h1 h2 => ?_, .agg (by rw [← Array.length_toList]; omega) (fun j x hj => ?_)⟩
  · obtain ⟨s', v, h3, _, h4, _⟩ := hx.get j x h2
    rw [h1] at h3; cases h3
    exact h4
  · obtain ⟨s', v, _, h3, _, h4, _⟩ := hx.get j x hj
    have : vs.getD j undef = v := by
      rw [Array.getElem?_toList] at h3
      rw [Array.getD_eq_getD_getElem?, h3]; rfl
    rw [this]; exact h4
/-- An argument of a slice's type. -/
theorem rep_slice {H : Type} {enc : TypeId × Value → H} {base : Nat} {held : Bool} (Es : List TypeId) {t e : TypeId} {a : Option Addr} {len cap : Nat} {d : DataW H} {ps : List MemPlace}
    (hEs : okEs P Es = true) (hs : P.underlying t = some (.slice e)) (hE : e ∈ Es) (h : DataW.Trod enc P w base (fun _ => true) held t (.slice a len cap) d ps) :
    ∃ x, CellOk P (.sl e) x ∧ Rep none4 (fun _ => False) zeroC w true x (.slice a len cap) := by
  obtain ⟨fuel, hf⟩ := h
  have hsh : shapes P 9 t = some [.sl e] := by simp only [shapes, hs]
  obtain ⟨xs, hx⟩ := rep_cells hEs fuel 9 t _ _ _ hsh (fun e' he' => by simp at he'; subst he'; exact hE) hf
  have hcs : (Value.slice a len cap).cells.toList = [.slice a len cap] := rfl
  rw [hcs] at hx
  have hl := hx.len
  match xs, hl with
  | [x], _ =>
    obtain ⟨s', v, h1, h3, h2, h4, _⟩ := hx.get 0 x rfl
    simp at h1 h3; subst h1 h3
    exact ⟨x, h2, h4⟩
  | [], hl => simp at hl
  | _ :: _ :: _, hl => simp at hl
end
end Go.Ev
/- Cells of known types, told as plain things: events, rows of bytes. -/
namespace Go.Ev
set_option linter.unusedVariables false
theorem CellOk.int_inv {P : Program} {k : IntKind} {x : AV} (h : CellOk P (.int k) x) : ∃ n, x = .int k n ∧ (Lit.int k n).wf = true := by
  cases h with | int h => exact ⟨_, rfl, h⟩
theorem CellOk.bool_inv {P : Program} {x : AV} (h : CellOk P .bool x) : ∃ b, x = .bool b := by
  cases h; exact ⟨_, rfl⟩
theorem CellOk.str_inv {P : Program} {x : AV} (h : CellOk P .str x) : ∃ s, x = .str s ∧ s.size ≤ maxLen := by
  cases h with | str h => exact ⟨_, rfl, h⟩
/-- Each element of a row of structs, by its cells. -/
theorem CellOk.sl_inv {P : Program} {e : TypeId} {ss : List Sh} {x : AV} (h : CellOk P (.sl e) x) (hs : shapes P 9 e = some ss) : ∃ es : List AV, x = .fz ss.length es none ∧ es.length ≤ maxLen ∧ ∀ y ∈ es, y = mkE P e (cells y) ∧ (cells y).length = ss.length ∧ ∀ (j : Nat) s c, ss[j]? = some s → (cells y)[j]? = some c → CellOk P s c := by
  cases h with
  | @sl _ ss' es hs' hlen hl hf h =>
    rw [hs] at hs'; cases hs'
    exact ⟨es, rfl, hlen, fun y hy => ⟨hf y hy, hl y hy, h y hy⟩⟩
theorem mkE_struct {P : Program} {e : TypeId} {fs : Array Field} (hu : P.underlying e = some (.struct fs)) (xs : List AV) : mkE P e xs = .agg xs := by simp [mkE, hu]
/-- A row whose elements are each told so. -/
theorem list_of {α : Type} (f : α → AV) : ∀ (es : List AV), (∀ y ∈ es, ∃ a, y = f a) → ∃ l : List α, es = l.map f
  | [], _ => ⟨[], rfl⟩
  | y :: es, h => by
    obtain ⟨a, rfl⟩ := h y List.mem_cons_self
    obtain ⟨l, rfl⟩ := list_of f es (fun z hz => h z (List.mem_cons_of_mem _ hz))
    exact ⟨a :: l, rfl⟩
theorem xtavs_map : ∀ ps : List ET, xtavs ps = ps.map xtv
  | [] => by simp [xtavs]
  | p :: ps => by simp only [xtavs, xtav_tv, List.map_cons, xtavs_map ps]
theorem dec_ets {P : Program} {tE : TypeId} {fs : Array Field} (hu : P.underlying tE = some (.struct fs)) (hs : shapes P 9 tE = some [.int .i64, .sl tE]) : ∀ {s : Sh} {x : AV}, CellOk P s x → s = .sl tE → ∃ ps : List ET, x = .fz 2 (xtavs ps) none := by
  intro s x h
  induction h with
  | int => intro e; cases e
  | bool => intro e; cases e
  | str => intro e; cases e
  | @sl e ss es hs' hlen hl hf h ih =>
    intro e0
    cases e0
    rw [hs] at hs'; cases hs'
    obtain ⟨l, hl2⟩ := list_of xtv es (fun y hy => by
      have h1 := hl y hy
      have h2 := hf y hy
      rw [mkE_struct hu] at h2
      match hc : cells y, h1 with
      | [c0, c1], _ =>
        obtain ⟨n, rfl, _⟩ := (h y hy 0 _ c0 rfl (by rw [hc]; rfl)).int_inv
        obtain ⟨ps, rfl⟩ := ih y hy 1 _ c1 rfl (by rw [hc]; rfl) rfl
        rw [hc] at h2
        exact ⟨.mk n ps, h2⟩
      | [], h1 => simp at h1
      | [_], h1 => simp at h1
      | _ :: _ :: _ :: _, h1 => simp at h1)
    exact ⟨l, by rw [xtavs_map, ← hl2]; rfl⟩
theorem dec_ecells {P : Program} {tE : TypeId} {fs : Array Field} (hu : P.underlying tE = some (.struct fs)) (hs : shapes P 9 tE = some [.int .i64, .sl tE]) {xs : List AV} (hl : xs.length = 2)
    (h : ∀ (j : Nat) s x, ([.int .i64, .sl tE] : List Sh)[j]? = some s → xs[j]? = some x → CellOk P s x) : ∃ e : ET, xs = [.int .i64 e.n, .fz 2 (xtavs e.ps) none] := by
  match xs, hl with
  | [x0, x1], _ =>
    obtain ⟨n0, rfl, _⟩ := (h 0 _ x0 rfl rfl).int_inv
    obtain ⟨ps, rfl⟩ := dec_ets hu hs (h 1 _ x1 rfl rfl) rfl
    exact ⟨.mk n0 ps, rfl⟩
theorem dec_bytes {P : Program} {tB : TypeId} (hu : P.underlying tB = some (.int .u8)) {x : AV} (h : CellOk P (.sl tB) x) : ∃ bs : List Nat, x = .fz 1 (avs bs) none ∧ ∀ b ∈ bs, b < 256 := by
  have hs : shapes P 9 tB = some [.int .u8] := by simp only [shapes, hu]
  obtain ⟨es, rfl, _, he⟩ := h.sl_inv hs
  have key : ∀ y ∈ es, ∃ b : Nat, y = .int .u8 (b : Nat) ∧ b < 256 := by
    intro y hy
    obtain ⟨h1, h2, h3⟩ := he y hy
    match hc : cells y, h2 with
    | [c0], _ =>
      obtain ⟨n, rfl, hw⟩ := (h3 0 _ c0 rfl (by rw [hc]; rfl)).int_inv
      rw [hc] at h1
      simp [Lit.wf, IntKind.min, IntKind.max, IntKind.signed, IntKind.bits] at hw
      refine ⟨n.toNat, ?_, by omega⟩
      rw [h1]; simp only [mkE, hu, List.headD]; congr 1; omega
    | [], h2 => simp at h2
    | _ :: _ :: _, h2 => simp at h2
  obtain ⟨l, rfl⟩ := list_of (fun b : {b : Nat // b < 256} => AV.int .u8 ((b.1 : Nat) : Int)) es (fun y hy => by
    obtain ⟨b, h1, h2⟩ := key y hy
    exact ⟨⟨b, h2⟩, h1⟩)
  refine ⟨l.map (·.1), by simp [avs], ?_⟩
  intro b hb
  obtain ⟨a, _, rfl⟩ := List.mem_map.1 hb
  exact a.2
end Go.Ev
/- A stamp's cells, told as a plain thing. -/
namespace Go.Ev
set_option linter.unusedVariables false
theorem tavs_map : ∀ ps : List Tree, tavs ps = ps.map tv
  | [] => by simp [tavs]
  | p :: ps => by simp only [tavs, tav_tv, List.map_cons, tavs_map ps]
theorem dec_trs {P : Program} {tE : TypeId} {fs : Array Field} (hu : P.underlying tE = some (.struct fs)) (hs : shapes P 9 tE = some [.bool, .sl tE]) : ∀ {s : Sh} {x : AV}, CellOk P s x → s = .sl tE → ∃ ps : List Tree, x = .fz 2 (tavs ps) none := by
  intro s x h
  induction h with
  | int => intro e; cases e
  | bool => intro e; cases e
  | str => intro e; cases e
  | @sl e ss es hs' hlen hl hf h ih =>
    intro e0
    cases e0
    rw [hs] at hs'; cases hs'
    obtain ⟨l, hl2⟩ := list_of tv es (fun y hy => by
      have h1 := hl y hy
      have h2 := hf y hy
      rw [mkE_struct hu] at h2
      match hc : cells y, h1 with
      | [c0, c1], _ =>
        obtain ⟨n, rfl⟩ := (h y hy 0 _ c0 rfl (by rw [hc]; rfl)).bool_inv
        obtain ⟨ps, rfl⟩ := ih y hy 1 _ c1 rfl (by rw [hc]; rfl) rfl
        rw [hc] at h2
        exact ⟨.mk n ps, h2⟩
      | [], h1 => simp at h1
      | [_], h1 => simp at h1
      | _ :: _ :: _ :: _, h1 => simp at h1)
    exact ⟨l, by rw [tavs_map, ← hl2]; rfl⟩
theorem dec_scells {P : Program} {tI tE : TypeId} {fi fs : Array Field} (hui : P.underlying tI = some (.struct fi)) (hsi : shapes P 9 tI = some [.bool, .sl tI]) (hu : P.underlying tE = some (.struct fs)) (hs : shapes P 9 tE = some [.int .i64, .sl tE]) {xs : List AV} (hl : xs.length = 4)
    (h : ∀ (j : Nat) s x, ([.bool, .sl tI, .int .i64, .sl tE] : List Sh)[j]? = some s → xs[j]? = some x → CellOk P s x) : ∃ z : Tree × ET, xs = [.bool z.1.one, .fz 2 (tavs z.1.ps) none, .int .i64 z.2.n, .fz 2 (xtavs z.2.ps) none] := by
  match xs, hl with
  | [x0, x1, x2, x3], _ =>
    obtain ⟨b, rfl⟩ := (h 0 _ x0 rfl rfl).bool_inv
    obtain ⟨ps, rfl⟩ := dec_trs hui hsi (h 1 _ x1 rfl rfl) rfl
    obtain ⟨n, rfl, _⟩ := (h 2 _ x2 rfl rfl).int_inv
    obtain ⟨qs, rfl⟩ := dec_ets hu hs (h 3 _ x3 rfl rfl) rfl
    exact ⟨(.mk b ps, .mk n qs), rfl⟩
end Go.Ev
/- THE LAW StampBytes: a right stamp is put and taken as it was; of whatever bytes only right ones are taken: the row's function answers true and leaves memory as it was.
   The walks step through the compiled bodies; here the row's reading of the arguments is opened and the answer shut. -/
namespace Go.Proofs.Ytmokhopjnjecbab.stampBytes
open Go.ChangeShapes Go.WideShapes Go.ChangeAt Go.RowKit
open Go.Ev (PCalls Rep Reps none4 avs)
set_option linter.unusedVariables false
set_option maxRecDepth 100000
theorem own : ownKnob Try.prog.godebug = none := by kernel_rfl
theorem laidOut : laidOutB Try.prog = true := by kernel_rfl
theorem lifted (os : Os) (started : os.Started) (H : Type) (enc : TypeId × Value → H) :
    ReturnsInHanded {} Try.checked os 10 .any (Rows.stampBytesSpec.pre6 enc Try.prog Try.f10 Rows.stampBytesRow.domain false) (Rows.stampBytesSpec.post enc Try.prog Try.f10 false true false false) := by
  refine returnsInHanded_of_change_sized (C := Try.checked) own started (by kernel_rfl) Try.func10
    (ChangeSpec.witness6 (enc := enc) (C := Try.checked) false ⟨#[], #[.agg #[.bool false, .slice none 0 0, .int .i64 0, .slice none 0 0], .slice none 0 0], []⟩ 8 (by kernel_rfl) (by kernel_rfl) (by kernel_rfl) (by kernel_rfl)) ?_
  intro W base args ds gs before hval0 hW hcnd hsz0 _
  have hval : ∀ (j : Nat) t v, Try.f10.params[j]? = some t → args[j]? = some v → Value.okWide Try.prog W .any base t v := hval0
  have hW' := hW
  obtain ⟨p, q, hA0, hV, rfl, hfz, hnd⟩ := hW
  have hA : DataW.TrodAll enc Try.prog W 0 (fun _ => true) true Try.f10.params.toList args.toList ds p := hA0
  rw [Try.params10] at hA hval
  obtain ⟨v0, vs0, d0, ds0, p0, q0, hargs, rfl, rfl, h0, r0⟩ := trodAll_cons hA
  obtain ⟨v1, vs1, d1, ds1, p1, q1, rfl, rfl, rfl, h1, r1⟩ := trodAll_cons r0
  obtain ⟨rfl, rfl, rfl⟩ := trodAll_nil r1
  obtain rfl : args = #[v0, v1] := by cases args; simp_all
  obtain ⟨rfl, rfl⟩ := trodVars_none hV
  have k0 := h0
  have lt0 : ∀ x ∈ p0, x.block < W.heap.size := by obtain ⟨m, hm⟩ := k0; exact DataW.trod_lt m _ _ _ hm
  obtain ⟨a0, rfl, _⟩ := okWide_struct Try.underlying96 (hval 0 96 v0 rfl rfl)
  obtain ⟨xs0, hxl0, hxc0, hrep0⟩ := Go.Ev.rep_struct [24,42] (by kernel_rfl) (show Go.Ev.shapes Try.prog 9 96 = some [.bool, .sl 24, .int .i64, .sl 42] by kernel_rfl) (by intro e he; simp at he ⊢; first | omega | exact he | (rcases he with rfl | rfl <;> simp)) h0
  obtain ⟨z0, hz0⟩ := Go.Ev.dec_scells Try.underlying24 (by kernel_rfl) Try.underlying42 (by kernel_rfl) hxl0 hxc0
  rw [hz0] at hrep0
  have k1 := h1
  have lt1 : ∀ x ∈ p1, x.block < W.heap.size := by obtain ⟨m, hm⟩ := k1; exact DataW.trod_lt m _ _ _ hm
  obtain ⟨a1, len1, cap1, rfl⟩ := okWide_slice Try.underlying76 (hval 1 76 v1 rfl rfl)
  obtain ⟨x1, hxc1, hrep1⟩ := Go.Ev.rep_slice [5] (by kernel_rfl) Try.underlying76 (by decide) h1
  obtain ⟨z1, hz1⟩ := Go.Ev.dec_bytes Try.underlying5 hxc1
  obtain ⟨hz1, hy1⟩ := hz1
  rw [hz1] at hrep1
  refine ((sbytes_pair z0 z1 hy1).calls (fun _ => False) W [.agg a0, .slice a1 len1 cap1] (fun _ h => h.elim) (.cons hrep0 (.cons hrep1 .nil))).mono fun e W' he => ?_
  obtain ⟨v, rfl, bel, hv⟩ := he
  cases hv
  exact ⟨_, rfl, _, _, _, [], _, [], hW', trodAll_mk1 (shut_bool Try.underlying4 _), (trodAll_cons_mk (Below.trod laidOut (by kernel_rfl) (of_decide_eq_true (by kernel_rfl)) k0 bel lt0) (trodAll_cons_mk (Below.trod laidOut (by kernel_rfl) (of_decide_eq_true (by kernel_rfl)) k1 bel lt1) trodAll_mk0)), rfl, bel.frame _, fun h => by cases h⟩
theorem over : Rows.stampBytesRow.holds Try.pinned (OpenSpec.ofChange Rows.stampBytesSpec) :=
  OpenClaim.holds_of_wide 10 Try.f10 rfl rfl rfl rfl rfl rfl rfl ⟨rfl, rfl, rfl, rfl, rfl⟩ rfl rfl rfl rfl rfl (by kernel_rfl) Try.func10 (by kernel_rfl)
    (of_decide_eq_true (by kernel_rfl)) (by unfold Func.isWrapper; first | (rw [if_pos (by decide +kernel)]; kernel_rfl) | (rw [if_neg (by decide +kernel)]; exact ⟨rfl, rfl⟩))
    (fun os started H enc _ => lifted os started H enc)
theorem proved : Rows.StampBytesSaid := over
#print axioms proved
end Go.Proofs.Ytmokhopjnjecbab.stampBytes
namespace Go.Proofs.Ytmokhopjnjecbab
/-- The row, under a short name, for the claim. -/
theorem stampBytes_holds : Rows.StampBytesSaid := stampBytes.proved
end Go.Proofs.Ytmokhopjnjecbab
