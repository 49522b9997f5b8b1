/- THE LAW VersionOrder: in whatever order versions come, and however often, the same stay: the row's function answers true and leaves memory as it was.
   The walks step through the compiled bodies; here the row's reading of the arguments is opened and the answer shut. -/
import Derived.Test.YtmokhopjnjecbacM6
import Derived.Test.YtmokhopjnjecbacRows
import Derived.Eval
import Derived.KernelRfl
import Derived.SizedLaws
import Derived.ChangeSlices
import Derived.ProofKit
import Derived.OpenShut
import Derived.ShutString
import Derived.ChangeOld
import Derived.ChangeMaps5
import Derived.Below
-- short
-- fuel 300
namespace Go.Proofs.Ytmokhopjnjecbac
open Go.Ev
set_option linter.unusedVariables false
set_option linter.unusedSimpArgs false
set_option maxRecDepth 100000
set_option maxHeartbeats 3200000
theorem refone_loop (v0 : Ver) (r0 l : List Ver) (h0 : l = v0 :: r0) (hl : l.length ≤ 1000) (hs : ∀ v ∈ l, v.event.size < 2 ^ 32) : ∀ (post pre : List Ver), l = pre ++ post → ∀ nx : Ctr,
    RunsX Try.prog 0 (Gives [.t 2] (.bool (post.all (okV v0.key)))) (i_ref04_One_0 ++ [.c c_ref04_One_k0]) (s_ref04_One_0 (qv l) (.int .i64 (l.length : Nat)) (.int .i64 (pre.length : Nat))) [] nx := by
  intro post
  induction post with
  | nil =>
    intro pre h1 nx
    rw [List.append_nil] at h1
    subst h1
    refine round (its := [.blk 0 wb_ref04_One_0]) (k0 := [.c c_ref04_One_k0]) 300 trivial trivial (fun A eA => ?_)
    simp (disch := first | omega | (simp only [avs_len, zz1, zz2, zz3, zz4, zz5, zz6]; omega) | (simp only [cells, scal1, allSz, zz1, zz3, zz2, zz6, zz7, zz8, avs_len, zz9, zz10, zz11, zz12, zz13, reduceCtorEq, *]; done) | fail) only [c_ref04_One, wl_ref04_One_0, s_ref04_One_0, c_ref04_One_l0, wb_ref04_One_0, c_ref04_One_k0, go_sem, eA, scal1]
    refine walk0 (its := [.c c_ref04_One_k0]) 300 trivial (fun A eA => ?_)
    simp (disch := first | omega | (simp only [avs_len, zz1, zz2, zz3, zz4, zz5, zz6]; omega) | (simp only [cells, scal1, allSz, zz1, zz3, zz2, zz6, zz7, zz8, avs_len, zz9, zz10, zz11, zz12, zz13, reduceCtorEq, *]; done) | fail) only [c_ref04_One, wl_ref04_One_0, s_ref04_One_0, c_ref04_One_l0, wb_ref04_One_0, c_ref04_One_k0, go_sem, eA, scal1]
    exact doneG rfl
  | cons v post ih =>
    intro pre h1 nx
    have hlt : pre.length < l.length := by rw [h1]; simp
    have hpm : v ∈ l := by rw [h1]; simp
    have hih := ih (pre ++ [v]) (by rw [h1]; simp) nx
    rw [show (pre ++ [v]).length = pre.length + 1 by simp] at hih
    have g0 : (l.map vv)[((pre.length : Nat) : Int).toNat]? = some (vv v) := by
      rw [zz16, h1, List.getElem?_map, List.getElem?_append_right (Nat.le_refl _), Nat.sub_self]; rfl
    have g1 : (l.map vv)[((0 : Int)).toNat]? = some (vv v0) := by rw [h0]; rfl
    have w1 : IntKind.i64.wrap ((pre.length : Int) + 1) = ((pre.length + 1 : Nat) : Int) := by rw [wrap64 (by omega) (by omega)]; omega
    have c1 := refVRight_calls v (hs v hpm)
    rw [List.all_cons]
    refine round (its := [.blk 0 wb_ref04_One_0]) (k0 := [.c c_ref04_One_k0]) 300 trivial trivial (fun A eA => ?_)
    cases hr : vrtb v with
    | false =>
      rw [hr] at c1
      rw [show okV v0.key v = false by simp [okV, hr], Bool.false_and]
      simp (disch := first | omega | (simp only [avs_len, zz1, zz2, zz3, zz4, zz5, zz6]; omega) | (simp only [cells, scal1, allSz, zz1, zz3, zz2, zz6, zz7, zz8, avs_len, zz9, zz10, zz11, zz12, zz13, reduceCtorEq, *]; done) | fail) only [c_ref04_One, wl_ref04_One_0, s_ref04_One_0, c_ref04_One_l0, wb_ref04_One_0, c_ref04_One_k0, go_sem, eA, scal1, ↓optI_of g0, ↓optI_of g1, w1, List.all_cons, List.all_nil]
      refine call0 300 trivial trivial c1 (.inl rfl) (fun A eA => ?_)
      simp (disch := first | omega | (simp only [avs_len, zz1, zz2, zz3, zz4, zz5, zz6]; omega) | (simp only [cells, scal1, allSz, zz1, zz3, zz2, zz6, zz7, zz8, avs_len, zz9, zz10, zz11, zz12, zz13, reduceCtorEq, *]; done) | fail) only [c_ref04_One, wl_ref04_One_0, s_ref04_One_0, c_ref04_One_l0, wb_ref04_One_0, c_ref04_One_k0, go_sem, eA, scal1, ↓optI_of g0, ↓optI_of g1, w1, List.all_cons, List.all_nil]
      exact doneG rfl
    | true =>
      rw [hr] at c1
      cases hk : (v.key.toList == v0.key.toList) with
      | false =>
        rw [show okV v0.key v = false by simp only [okV, hr, hk, Bool.and_false], Bool.false_and]
        simp (disch := first | omega | (simp only [avs_len, zz1, zz2, zz3, zz4, zz5, zz6]; omega) | (simp only [cells, scal1, allSz, zz1, zz3, zz2, zz6, zz7, zz8, avs_len, zz9, zz10, zz11, zz12, zz13, reduceCtorEq, *]; done) | fail) only [c_ref04_One, wl_ref04_One_0, s_ref04_One_0, c_ref04_One_l0, wb_ref04_One_0, c_ref04_One_k0, go_sem, eA, scal1, ↓optI_of g0, ↓optI_of g1, w1, List.all_cons, List.all_nil, hk]
        refine call0 300 trivial trivial c1 (.inl rfl) (fun A eA => ?_)
        simp (disch := first | omega | (simp only [avs_len, zz1, zz2, zz3, zz4, zz5, zz6]; omega) | (simp only [cells, scal1, allSz, zz1, zz3, zz2, zz6, zz7, zz8, avs_len, zz9, zz10, zz11, zz12, zz13, reduceCtorEq, *]; done) | fail) only [c_ref04_One, wl_ref04_One_0, s_ref04_One_0, c_ref04_One_l0, wb_ref04_One_0, c_ref04_One_k0, go_sem, eA, scal1, ↓optI_of g0, ↓optI_of g1, w1, List.all_cons, List.all_nil, hk]
        exact doneG rfl
      | true =>
        rw [show okV v0.key v = true by simp only [okV, hr, hk, Bool.and_self], Bool.true_and]
        simp (disch := first | omega | (simp only [avs_len, zz1, zz2, zz3, zz4, zz5, zz6]; omega) | (simp only [cells, scal1, allSz, zz1, zz3, zz2, zz6, zz7, zz8, avs_len, zz9, zz10, zz11, zz12, zz13, reduceCtorEq, *]; done) | fail) only [c_ref04_One, wl_ref04_One_0, s_ref04_One_0, c_ref04_One_l0, wb_ref04_One_0, c_ref04_One_k0, go_sem, eA, scal1, ↓optI_of g0, ↓optI_of g1, w1, List.all_cons, List.all_nil, hk]
        refine call0 300 trivial trivial c1 (.inl rfl) (fun A eA => ?_)
        simp (disch := first | omega | (simp only [avs_len, zz1, zz2, zz3, zz4, zz5, zz6]; omega) | (simp only [cells, scal1, allSz, zz1, zz3, zz2, zz6, zz7, zz8, avs_len, zz9, zz10, zz11, zz12, zz13, reduceCtorEq, *]; done) | fail) only [c_ref04_One, wl_ref04_One_0, s_ref04_One_0, c_ref04_One_l0, wb_ref04_One_0, c_ref04_One_k0, go_sem, eA, scal1, ↓optI_of g0, ↓optI_of g1, w1, List.all_cons, List.all_nil, hk]
        exact hih
theorem refone_calls (l : List Ver) (hl : l.length ≤ 1000) (hs : ∀ v ∈ l, v.event.size < 2 ^ 32) : PCalls Try.prog F_ref04_One [qv l] (.bool (oneB l)) := by
  refine calls_ref04_One (walk0 300 trivial (fun A eA => ?_))
  simp (disch := first | omega | (simp only [avs_len, zz1, zz2, zz3, zz4, zz5, zz6]; omega) | (simp only [cells, scal1, allSz, zz1, zz3, zz2, zz6, zz7, zz8, avs_len, zz9, zz10, zz11, zz12, zz13, reduceCtorEq, *]; done) | fail) only [c_ref04_One, wl_ref04_One_0, s_ref04_One_0, c_ref04_One_l0, wb_ref04_One_0, c_ref04_One_k0, go_sem, eA, scal1, List.length_map]
  cases l with
  | nil =>
    refine round (its := [.blk 0 wb_ref04_One_0]) (k0 := [.c c_ref04_One_k0]) 300 trivial trivial (fun A eA => ?_)
    simp (disch := first | omega | (simp only [avs_len, zz1, zz2, zz3, zz4, zz5, zz6]; omega) | (simp only [cells, scal1, allSz, zz1, zz3, zz2, zz6, zz7, zz8, avs_len, zz9, zz10, zz11, zz12, zz13, reduceCtorEq, *]; done) | fail) only [c_ref04_One, wl_ref04_One_0, s_ref04_One_0, c_ref04_One_l0, wb_ref04_One_0, c_ref04_One_k0, go_sem, eA, scal1]
    refine walk0 (its := [.c c_ref04_One_k0]) 300 trivial (fun A eA => ?_)
    simp (disch := first | omega | (simp only [avs_len, zz1, zz2, zz3, zz4, zz5, zz6]; omega) | (simp only [cells, scal1, allSz, zz1, zz3, zz2, zz6, zz7, zz8, avs_len, zz9, zz10, zz11, zz12, zz13, reduceCtorEq, *]; done) | fail) only [c_ref04_One, wl_ref04_One_0, s_ref04_One_0, c_ref04_One_l0, wb_ref04_One_0, c_ref04_One_k0, go_sem, eA, scal1]
    exact doneG rfl
  | cons v0 r0 => exact refone_loop v0 r0 (v0 :: r0) rfl hl hs (v0 :: r0) [] rfl _
/-! ### the document's Merge -/
theorem insM_split (a : Ver) : ∀ R : List Ver, insM ltV a R = R.takeWhile (fun b => ltV b a) ++ (match R.dropWhile (fun b => ltV b a) with | [] => [a] | b :: B => if ltV a b then a :: b :: B else b :: B)
  | [] => rfl
  | b :: R => by
    unfold insM
    cases h : ltV b a with
    | true =>
      simp only [if_true, List.takeWhile_cons, List.dropWhile_cons, h, List.cons_append]
      rw [insM_split a R]
    | false =>
      simp only [Bool.false_eq_true, if_false, List.takeWhile_cons, List.dropWhile_cons, h, List.nil_append]
abbrev rmI : List It := [.c c_z26z_k1, .blk 1 wb_z26z_1, .c c_z26z_k2, .lp wl_z26z_0 c_z26z_l0, .blk 0 wb_z26z_0]
abbrev rmI2 : List It := [.c c_z26z_k0, .blk 1 wb_z26z_1, .c c_z26z_k2, .lp wl_z26z_0 c_z26z_l0, .blk 0 wb_z26z_0]
theorem last_loop (l : List Ver) (hl : l.length ≤ 1000) (hv : ∀ v ∈ l, XRt v.event) (a : Ver) (ha : XRt a.event) (kn : Nat) (hka : (l.map vv)[((kn : Nat) : Int).toNat]? = some (vv a)) {R : List AV → Heap → Ctr → Prop} {k : List It} (hk : flat k) (t3 : AV) (t9 t10 : AV) (H : Heap) : ∀ (post pre : List Ver), l = pre ++ post → ∀ nx : Ctr,
    (∀ nx, RunsX Try.prog 0 R k (e_z26z_2 (qv l) t3 (.int .i64 (kn : Nat)) (.bool (kpB l a)) t9 t10) H nx) →
    RunsX Try.prog 0 R (i_z26z_2 ++ k) (s_z26z_2 (qv l) t3 (.int .i64 (kn : Nat)) (.bool (kpB pre a)) t9 t10 (.int .i64 (l.length : Nat)) (.int .i64 (pre.length : Nat))) H nx := by
  intro post
  induction post with
  | nil =>
    intro pre h1 nx h
    rw [List.append_nil] at h1
    subst h1
    refine round (its := [.blk 2 wb_z26z_2]) (k0 := k) 300 hk trivial (fun A eA => ?_)
    simp (disch := first | omega | (simp only [avs_len, zz1, zz2, zz3, zz4, zz5, zz6]; omega) | (simp only [cells, scal1, allSz, zz1, zz3, zz2, zz6, zz7, zz8, avs_len, zz9, zz10, zz11, zz12, zz13, reduceCtorEq, *]; done) | fail) only [c_z26z, wl_z26z_2, s_z26z_2, c_z26z_l2, wb_z26z_2, wl_z26z_4, s_z26z_4, c_z26z_l4, wb_z26z_4, c_z26z_k0, c_z26z_k1, wb_z26z_1, c_z26z_k2, wl_z26z_0, s_z26z_0, c_z26z_l0, wb_z26z_0, c_z26z_k3, go_sem, eA, scal1]
    exact h _
  | cons v post ih =>
    intro pre h1 nx h
    have hlt : pre.length < l.length := by rw [h1]; simp
    have hpm : v ∈ l := by rw [h1]; simp
    have hih := fun nx => ih (pre ++ [v]) (by rw [h1]; simp) nx h
    have hsn : kpB (pre ++ [v]) a = (kpB pre a && !bhB v a) := by simp only [kpB, List.any_append, List.any_cons, List.any_nil, Bool.or_false, Bool.not_or]
    rw [show (pre ++ [v]).length = pre.length + 1 by simp, hsn] at hih
    have g0 : (l.map vv)[((pre.length : Nat) : Int).toNat]? = some (vv v) := by
      rw [zz16, h1, List.getElem?_map, List.getElem?_append_right (Nat.le_refl _), Nat.sub_self]; rfl
    have w1 : IntKind.i64.wrap ((pre.length : Int) + 1) = ((pre.length + 1 : Nat) : Int) := by rw [wrap64 (by omega) (by omega)]; omega
    have c1 : PCalls Try.prog F_ref04_VBehind [vv v, vv a] (.bool (bhB v a)) := refVBehind_calls v a (hv v hpm) ha
    refine round (its := [.blk 2 wb_z26z_2]) (k0 := k) 300 hk trivial (fun A eA => ?_)
    cases hq : kpB pre a with
    | false =>
      rw [hq, Bool.false_and] at hih
      simp (disch := first | omega | (simp only [avs_len, zz1, zz2, zz3, zz4, zz5, zz6]; omega) | (simp only [cells, scal1, allSz, zz1, zz3, zz2, zz6, zz7, zz8, avs_len, zz9, zz10, zz11, zz12, zz13, reduceCtorEq, *]; done) | fail) only [c_z26z, wl_z26z_2, s_z26z_2, c_z26z_l2, wb_z26z_2, wl_z26z_4, s_z26z_4, c_z26z_l4, wb_z26z_4, c_z26z_k0, c_z26z_k1, wb_z26z_1, c_z26z_k2, wl_z26z_0, s_z26z_0, c_z26z_l0, wb_z26z_0, c_z26z_k3, go_sem, eA, scal1, ↓optI_of g0, w1]
      exact hih _
    | true =>
      rw [hq, Bool.true_and] at hih
      simp (disch := first | omega | (simp only [avs_len, zz1, zz2, zz3, zz4, zz5, zz6]; omega) | (simp only [cells, scal1, allSz, zz1, zz3, zz2, zz6, zz7, zz8, avs_len, zz9, zz10, zz11, zz12, zz13, reduceCtorEq, *]; done) | fail) only [c_z26z, wl_z26z_2, s_z26z_2, c_z26z_l2, wb_z26z_2, wl_z26z_4, s_z26z_4, c_z26z_l4, wb_z26z_4, c_z26z_k0, c_z26z_k1, wb_z26z_1, c_z26z_k2, wl_z26z_0, s_z26z_0, c_z26z_l0, wb_z26z_0, c_z26z_k3, go_sem, eA, scal1, ↓optI_of g0, ↓optI_of hka, w1]
      refine call0 300 hk trivial c1 (.inl rfl) (fun A eA => ?_)
      simp (disch := first | omega | (simp only [avs_len, zz1, zz2, zz3, zz4, zz5, zz6]; omega) | (simp only [cells, scal1, allSz, zz1, zz3, zz2, zz6, zz7, zz8, avs_len, zz9, zz10, zz11, zz12, zz13, reduceCtorEq, *]; done) | fail) only [c_z26z, wl_z26z_2, s_z26z_2, c_z26z_l2, wb_z26z_2, wl_z26z_4, s_z26z_4, c_z26z_l4, wb_z26z_4, c_z26z_k0, c_z26z_k1, wb_z26z_1, c_z26z_k2, wl_z26z_0, s_z26z_0, c_z26z_l0, wb_z26z_0, c_z26z_k3, go_sem, eA, scal1, w1]
      exact hih _
theorem at_loop (l : List Ver) (a : Ver) (kn : Nat) (hka : (l.map vv)[((kn : Nat) : Int).toNat]? = some (vv a)) (Q : List Ver) (hQ : Q.length ≤ 1000) {R : List AV → Heap → Ctr → Prop} {k : List It} (hk : flat k) (t5 t9 t10 : AV) (H : Heap) : ∀ (post pre : List Ver), Q = pre ++ post → ∀ nx : Ctr,
    (∀ nx, RunsX Try.prog 0 R k (e_z26z_4 (qv l) (qv Q) (.int .i64 (kn : Nat)) t5 (.int .i64 ((pre.length + (post.takeWhile (fun b => ltV b a)).length : Nat) : Nat)) t9 t10) H nx) →
    RunsX Try.prog 0 R (i_z26z_4 ++ k) (s_z26z_4 (qv l) (qv Q) (.int .i64 (kn : Nat)) t5 (.int .i64 (pre.length : Nat)) t9 t10) H nx := by
  intro post
  induction post with
  | nil =>
    intro pre h1 nx h
    rw [List.append_nil] at h1
    subst h1
    refine round (its := [.blk 4 wb_z26z_4]) (k0 := k) 300 hk trivial (fun A eA => ?_)
    simp (disch := first | omega | (simp only [avs_len, zz1, zz2, zz3, zz4, zz5, zz6]; omega) | (simp only [cells, scal1, allSz, zz1, zz3, zz2, zz6, zz7, zz8, avs_len, zz9, zz10, zz11, zz12, zz13, reduceCtorEq, *]; done) | fail) only [c_z26z, wl_z26z_2, s_z26z_2, c_z26z_l2, wb_z26z_2, wl_z26z_4, s_z26z_4, c_z26z_l4, wb_z26z_4, c_z26z_k0, c_z26z_k1, wb_z26z_1, c_z26z_k2, wl_z26z_0, s_z26z_0, c_z26z_l0, wb_z26z_0, c_z26z_k3, go_sem, eA, scal1, List.length_map]
    exact h _
  | cons b post ih =>
    intro pre h1 nx h
    have hlt : pre.length < Q.length := by rw [h1]; simp
    have g0 : (Q.map vv)[((pre.length : Nat) : Int).toNat]? = some (vv b) := by
      rw [zz16, h1, List.getElem?_map, List.getElem?_append_right (Nat.le_refl _), Nat.sub_self]; rfl
    have w1 : IntKind.i64.wrap ((pre.length : Int) + 1) = ((pre.length + 1 : Nat) : Int) := by rw [wrap64 (by omega) (by omega)]; omega
    have c1 := less_calls b a
    refine round (its := [.blk 4 wb_z26z_4]) (k0 := k) 300 hk trivial (fun A eA => ?_)
    cases hq : ltV b a with
    | true =>
      rw [hq] at c1
      have e : pre.length + ((b :: post).takeWhile (fun b => ltV b a)).length = (pre.length + 1) + (post.takeWhile (fun b => ltV b a)).length := by simp only [List.takeWhile_cons, hq, if_true, List.length_cons]; omega
      rw [e] at h
      have hih := fun nx => ih (pre ++ [b]) (by rw [h1]; simp) nx (by rw [show (pre ++ [b]).length = pre.length + 1 by simp]; exact h)
      rw [show (pre ++ [b]).length = pre.length + 1 by simp] at hih
      simp (disch := first | omega | (simp only [avs_len, zz1, zz2, zz3, zz4, zz5, zz6]; omega) | (simp only [cells, scal1, allSz, zz1, zz3, zz2, zz6, zz7, zz8, avs_len, zz9, zz10, zz11, zz12, zz13, reduceCtorEq, *]; done) | fail) only [c_z26z, wl_z26z_2, s_z26z_2, c_z26z_l2, wb_z26z_2, wl_z26z_4, s_z26z_4, c_z26z_l4, wb_z26z_4, c_z26z_k0, c_z26z_k1, wb_z26z_1, c_z26z_k2, wl_z26z_0, s_z26z_0, c_z26z_l0, wb_z26z_0, c_z26z_k3, go_sem, eA, scal1, ↓optI_of g0, ↓optI_of hka, w1, List.length_map]
      refine call0 300 hk trivial c1 (.inl rfl) (fun A eA => ?_)
      simp (disch := first | omega | (simp only [avs_len, zz1, zz2, zz3, zz4, zz5, zz6]; omega) | (simp only [cells, scal1, allSz, zz1, zz3, zz2, zz6, zz7, zz8, avs_len, zz9, zz10, zz11, zz12, zz13, reduceCtorEq, *]; done) | fail) only [c_z26z, wl_z26z_2, s_z26z_2, c_z26z_l2, wb_z26z_2, wl_z26z_4, s_z26z_4, c_z26z_l4, wb_z26z_4, c_z26z_k0, c_z26z_k1, wb_z26z_1, c_z26z_k2, wl_z26z_0, s_z26z_0, c_z26z_l0, wb_z26z_0, c_z26z_k3, go_sem, eA, scal1, w1]
      exact hih _
    | false =>
      rw [hq] at c1
      have e : pre.length + ((b :: post).takeWhile (fun b => ltV b a)).length = pre.length := by simp only [List.takeWhile_cons, hq, Bool.false_eq_true, if_false, List.length_nil]; omega
      rw [e] at h
      simp (disch := first | omega | (simp only [avs_len, zz1, zz2, zz3, zz4, zz5, zz6]; omega) | (simp only [cells, scal1, allSz, zz1, zz3, zz2, zz6, zz7, zz8, avs_len, zz9, zz10, zz11, zz12, zz13, reduceCtorEq, *]; done) | fail) only [c_z26z, wl_z26z_2, s_z26z_2, c_z26z_l2, wb_z26z_2, wl_z26z_4, s_z26z_4, c_z26z_l4, wb_z26z_4, c_z26z_k0, c_z26z_k1, wb_z26z_1, c_z26z_k2, wl_z26z_0, s_z26z_0, c_z26z_l0, wb_z26z_0, c_z26z_k3, go_sem, eA, scal1, ↓optI_of g0, ↓optI_of hka, w1, List.length_map]
      refine call0 300 hk trivial c1 (.inl rfl) (fun A eA => ?_)
      simp (disch := first | omega | (simp only [avs_len, zz1, zz2, zz3, zz4, zz5, zz6]; omega) | (simp only [cells, scal1, allSz, zz1, zz3, zz2, zz6, zz7, zz8, avs_len, zz9, zz10, zz11, zz12, zz13, reduceCtorEq, *]; done) | fail) only [c_z26z, wl_z26z_2, s_z26z_2, c_z26z_l2, wb_z26z_2, wl_z26z_4, s_z26z_4, c_z26z_l4, wb_z26z_4, c_z26z_k0, c_z26z_k1, wb_z26z_1, c_z26z_k2, wl_z26z_0, s_z26z_0, c_z26z_l0, wb_z26z_0, c_z26z_k3, go_sem, eA, scal1, w1]
      exact h _
end Go.Proofs.Ytmokhopjnjecbac
/- The functions' bodies, compiled; printed by a program of mine (gen.py); that they are is checked here. -/
namespace Go.Proofs.Ytmokhopjnjecbac
open Go.Ev
set_option maxRecDepth 100000

/-- pedlar/pedlarref04.VSameAll: parameters [78, 78], results [.t 4], calls ref04_VSame -/
def wl_z21z_0 : Mk := ⟨[false, false, true, true, true, true, true, true, true, true, true, true, false, false, true, true, true, true, true, true, true, true, true, true, true, true, true], []⟩
abbrev s_z21z_0 (t0 t1 t12 t13 : AV) : List AV := [t0, t1, .any, .any, .any, .any, .any, .any, .any, .any, .any, .any, t12, t13, .any, .any, .any, .any, .any, .any, .any, .any, .any, .any, .any, .any, .any]
def c_z21z_l0 : Cd := (.seq (.reg [⟨some 14, none, (.bin .lss), [.t 13, .t 12]⟩]) (.seq (.cond (.t 14) .skip (.exit 0)) (.seq (.blk 1 [] (.seq (.reg [⟨some 15, none, .mv, [.t 13]⟩, ⟨some 5, none, .mv, [.t 15]⟩]) (.seq (.reg [⟨some 16, none, .mv, [.t 0]⟩, ⟨some 17, none, .mv, [.t 5]⟩, ⟨some 18, none, (.ixS 7), [.t 16, .t 17]⟩, ⟨some 19, none, (.ldn 7), [.t 18]⟩, ⟨some 20, none, .mv, [.t 1]⟩, ⟨some 21, none, .mv, [.t 5]⟩, ⟨some 22, none, (.ixS 7), [.t 20, .t 21]⟩, ⟨some 23, none, (.ldn 7), [.t 22]⟩, ⟨some 24, none, (.call F_ref04_VSame 0), [.t 19, .t 23]⟩, ⟨some 25, none, .not, [.t 24]⟩]) (.cond (.t 25) (.seq (.reg [⟨some 4, none, .mv, [.c (.bool false)]⟩]) .ret) .skip)))) (.reg [⟨some 26, none, (.bin .add), [.t 13, .c (.int .i64 1)]⟩, ⟨some 13, none, .mv, [.t 26]⟩]))))
def wb_z21z_0 : List Bool := [true, true, true, true, true, true, true, true, true, true, true, true, true, true, true, true, true, true, true, true, true, true, true, true, true, true, true]
abbrev e_z21z_0 : List AV := [.any, .any, .any, .any, .any, .any, .any, .any, .any, .any, .any, .any, .any, .any, .any, .any, .any, .any, .any, .any, .any, .any, .any, .any, .any, .any, .any]
abbrev i_z21z_0 : List It := [.lp wl_z21z_0 c_z21z_l0, .blk 0 wb_z21z_0]
def c_z21z_k0 : Cd := (.seq (.reg [⟨some 4, none, .mv, [.c (.bool true)]⟩]) .ret)
def c_z21z : Cd := (.seq (.reg [⟨some 4, none, .mv, [.c (.bool false)]⟩]) (.seq (.seq (.reg [⟨some 6, none, .mv, [.t 0]⟩, ⟨some 7, none, .len, [.t 6]⟩, ⟨some 8, none, .mv, [.t 1]⟩, ⟨some 9, none, .len, [.t 8]⟩, ⟨some 10, none, (.bin .neq), [.t 7, .t 9]⟩]) (.cond (.t 10) (.seq (.reg [⟨some 4, none, .mv, [.c (.bool false)]⟩]) .ret) .skip)) (.seq (.seq (.reg [⟨some 11, none, .mv, [.t 0]⟩, ⟨some 12, none, .len, [.t 11]⟩, ⟨some 13, none, .mv, [.c (.int .i64 0)]⟩]) (.blk 0 wb_z21z_0 (.loop wl_z21z_0 c_z21z_l0))) c_z21z_k0)))
theorem comp_z21z : compF Try.prog (mset [] [] []) (cset [] [] []) (wset [(0, wl_z21z_0, wb_z21z_0)] []) Try.f48 = some c_z21z := by kernel_rfl
theorem ok_z21z : fnOk Try.prog F_z21z = true := by kernel_rfl
theorem calls_z21z {args : List AV} {r : AV} (h : RunsX Try.prog 0 (Gives [.t 4] r) [.c c_z21z] (args ++ List.replicate (27 - args.length) (.tup [])) [] zeroC) : PCalls Try.prog F_z21z args r :=
  pcallsF Try.checked.mixed Try.func48 ok_z21z comp_z21z rfl (rs := [.t 4]) (by kernel_rfl) h
theorem hcalls_z21z {args : List AV} {Hin Hout : Heap} {nx nx2 : Ctr} {r : AV} (φ : Nat) (ks : List (Nat × Nat)) (h : RunsX Try.prog φ (GivesH ks [.t 4] r Hout nx2) [.c c_z21z] (args ++ List.replicate (27 - args.length) (.tup [])) Hin nx) : HCalls Try.prog F_z21z args Hin nx r Hout nx2 :=
  hcallsF Try.checked.mixed Try.func48 ok_z21z comp_z21z rfl (rs := [.t 4]) (by kernel_rfl) φ ks h

def tab_CdVsa : List (Nat × Cd × Nat × List RS) := [(F_z21z, c_z21z, 27, [.t 4])]
theorem tok_CdVsa : TabOk Try.prog (tabOf tab_CdVsa) := tab_cons calls_z21z hcalls_z21z (tab_nil)
end Go.Proofs.Ytmokhopjnjecbac
/- Lists of versions, alike. -/
-- short
-- fuel 300
namespace Go.Proofs.Ytmokhopjnjecbac
open Go.Ev
set_option linter.unusedVariables false
set_option linter.unusedSimpArgs false
set_option maxRecDepth 100000
set_option maxHeartbeats 3200000
theorem vsame_self {v : Ver} (h : VRt v) : PCalls Try.prog F_ref04_VSame [vv v, vv v] (.bool true) := by
  have := refVSame_calls v v (by have := xrt_size h.2.2.2.2.2.2.2.2.1; omega)
  rw [xteq_true.2 rfl, show vhead v v = true from cdec_t ⟨rfl, rfl, rfl, rfl, rfl⟩] at this
  exact this
theorem vsameall_loop (l : List Ver) (hl : l.length ≤ 1000) (hv : ∀ v ∈ l, VRt v) : ∀ (post pre : List Ver), l = pre ++ post → ∀ nx : Ctr,
    RunsX Try.prog 0 (Gives [.t 4] (.bool true)) (i_z21z_0 ++ [.c c_z21z_k0]) (s_z21z_0 (.fz 7 (l.map vv) none) (.fz 7 (l.map vv) none) (.int .i64 (l.length : Nat)) (.int .i64 (pre.length : Nat))) [] nx := by
  intro post
  induction post with
  | nil =>
    intro pre h1 nx
    rw [List.append_nil] at h1
    subst h1
    refine round (its := [.blk 0 wb_z21z_0]) (k0 := [.c c_z21z_k0]) 300 trivial trivial (fun A eA => ?_)
    simp (disch := first | omega | (simp only [avs_len, zz1, zz2, zz3, zz4, zz5, zz6]; omega) | (simp only [cells, scal1, allSz, zz1, zz3, zz2, zz6, zz7, zz8, avs_len, zz9, zz10, zz11, zz12, zz13, reduceCtorEq, *]; done) | fail) only [c_z21z, wl_z21z_0, s_z21z_0, c_z21z_l0, wb_z21z_0, c_z21z_k0, go_sem, eA, scal1]
    refine walk0 (its := [.c c_z21z_k0]) 300 trivial (fun A eA => ?_)
    simp (disch := first | omega | (simp only [avs_len, zz1, zz2, zz3, zz4, zz5, zz6]; omega) | (simp only [cells, scal1, allSz, zz1, zz3, zz2, zz6, zz7, zz8, avs_len, zz9, zz10, zz11, zz12, zz13, reduceCtorEq, *]; done) | fail) only [c_z21z, wl_z21z_0, s_z21z_0, c_z21z_l0, wb_z21z_0, c_z21z_k0, go_sem, eA, scal1]
    exact doneG rfl
  | cons p post ih =>
    intro pre h1 nx
    have hlt : pre.length < l.length := by rw [h1]; simp
    have hpm : p ∈ l := by rw [h1]; simp
    have hih := ih (pre ++ [p]) (by rw [h1]; simp) nx
    rw [show (pre ++ [p]).length = pre.length + 1 by simp] at hih
    have g0 : (l.map vv)[((pre.length : Nat) : Int).toNat]? = some (vv p) := by
      rw [zz16, h1, List.getElem?_map, List.getElem?_append_right (Nat.le_refl _), Nat.sub_self]; rfl
    have w1 : IntKind.i64.wrap ((pre.length : Int) + 1) = ((pre.length + 1 : Nat) : Int) := by rw [wrap64 (by omega) (by omega)]; omega
    refine round (its := [.blk 0 wb_z21z_0]) (k0 := [.c c_z21z_k0]) 300 trivial trivial (fun A eA => ?_)
    simp (disch := first | omega | (simp only [avs_len, zz1, zz2, zz3, zz4, zz5, zz6]; omega) | (simp only [cells, scal1, allSz, zz1, zz3, zz2, zz6, zz7, zz8, avs_len, zz9, zz10, zz11, zz12, zz13, reduceCtorEq, *]; done) | fail) only [c_z21z, wl_z21z_0, s_z21z_0, c_z21z_l0, wb_z21z_0, c_z21z_k0, go_sem, eA, scal1, ↓optI_of g0, w1]
    refine call0 300 trivial trivial (vsame_self (hv p hpm)) (.inl rfl) (fun A eA => ?_)
    simp (disch := first | omega | (simp only [avs_len, zz1, zz2, zz3, zz4, zz5, zz6]; omega) | (simp only [cells, scal1, allSz, zz1, zz3, zz2, zz6, zz7, zz8, avs_len, zz9, zz10, zz11, zz12, zz13, reduceCtorEq, *]; done) | fail) only [c_z21z, wl_z21z_0, s_z21z_0, c_z21z_l0, wb_z21z_0, c_z21z_k0, go_sem, eA, scal1, ↓optI_of g0, w1]
    exact hih
theorem vsameall_calls {l : List Ver} (hl : l.length ≤ 1000) (hv : ∀ v ∈ l, VRt v) : PCalls Try.prog F_z21z [.fz 7 (l.map vv) none, .fz 7 (l.map vv) none] (.bool true) := by
  refine calls_z21z (walk0 300 trivial (fun A eA => ?_))
  simp (disch := first | omega | (simp only [avs_len, zz1, zz2, zz3, zz4, zz5, zz6]; omega) | (simp only [cells, scal1, allSz, zz1, zz3, zz2, zz6, zz7, zz8, avs_len, zz9, zz10, zz11, zz12, zz13, reduceCtorEq, *]; done) | fail) only [c_z21z, wl_z21z_0, s_z21z_0, c_z21z_l0, wb_z21z_0, c_z21z_k0, go_sem, eA, scal1, List.length_map]
  exact vsameall_loop l hl hv l [] rfl _
end Go.Proofs.Ytmokhopjnjecbac
/- Versions, beside one another: the document's Merge, whole. -/
-- short
-- fuel 300
namespace Go.Proofs.Ytmokhopjnjecbac
open Go.Ev
set_option linter.unusedVariables false
set_option linter.unusedSimpArgs false
set_option maxRecDepth 100000
set_option maxHeartbeats 3200000
abbrev rmS (l Q : List Ver) (i : Nat) : List AV := s_z26z_0 (qv l) (qv Q) (.int .i64 (l.length : Nat)) (.int .i64 (i : Nat))
/-- One is put in its place. -/
theorem rm_put (l : List Ver) (hl : l.length ≤ 49) (i : Nat) (hi : i < l.length) (a : Ver) (hka : (l.map vv)[((i : Nat) : Int).toNat]? = some (vv a)) (A B : List Ver) (hAB : A.length + B.length ≤ 49) (hB : ∀ b B', B = b :: B' → ltV a b = true) {R : List AV → Heap → Ctr → Prop} (nx : Ctr)
    (h : ∀ nx, RunsX Try.prog 0 R (i_z26z_0 ++ [.c c_z26z_k3]) (rmS l (A ++ a :: B) (i + 1)) [] nx) :
    RunsX Try.prog 0 R (rmI2 ++ [.c c_z26z_k3]) (e_z26z_4 (qv l) (qv (A ++ B)) (.int .i64 (i : Nat)) (.bool true) (.int .i64 (A.length : Nat)) (.int .i64 (l.length : Nat)) (.int .i64 (i : Nat))) [] nx := by
  have w1 : IntKind.i64.wrap ((i : Int) + 1) = ((i + 1 : Nat) : Int) := by rw [wrap64 (by omega) (by omega)]; omega
  have hlenQ : (A ++ B).length = A.length + B.length := by simp
  have hTk : ((A ++ B).map vv).take A.length = A.map vv := by rw [List.map_append, List.take_append_of_le_length (by simp), List.take_of_length_le (by simp)]
  have hTl : ((A ++ B).map vv).take (A.length + B.length) = (A ++ B).map vv := List.take_of_length_le (by simp)
  have hDr : ((A ++ B).map vv).drop A.length = B.map vv := by rw [List.map_append, List.drop_append, List.drop_eq_nil_of_le (by simp), List.nil_append]; simp
  have hqB := qcat_cat B
  have hqlB := qcat_len B
  -- what stands there is not ahead
  have hgB : ∀ b B', B = b :: B' → ((A ++ B).map vv)[((A.length : Nat) : Int).toNat]? = some (vv b) := by
    intro b B' e
    rw [zz16, List.getElem?_map, List.getElem?_append_right (Nat.le_refl _), Nat.sub_self, e]; rfl
  have ends : ∀ (nx : Ctr), RunsX Try.prog 0 R (i_z26z_0 ++ [.c c_z26z_k3]) (rmS l (A ++ a :: B) (i + 1)) [] nx := h
  cases A with
  | nil =>
    have hZ : ∀ X : List AV, X = vcs a ++ qcat B → chunk 7 (1 + B.length) X = (a :: B).map vv := by
      intro X e; subst e
      have := chunk_qcat (a :: B)
      rw [show (a :: B).length = 1 + B.length by simp; omega] at this
      exact this
    have ha0 : AV.int .i64 a.client :: .int .i64 a.token :: .str a.key :: .str a.value :: .bool a.gone :: .int .i64 a.event.n :: .fz 2 (xtavs a.event.ps) none :: qcat B = qcat (a :: B) := rfl
    have hql := qcat_len (a :: B)
    have hT : (qcat (a :: B)).take ((1 + B.length) * 7) = qcat (a :: B) := List.take_of_length_le (by rw [hql]; simp; omega)
    have hC : chunk 7 (1 + B.length) (qcat (a :: B)) = (a :: B).map vv := hZ _ rfl
    simp only [List.nil_append, List.length_nil, Nat.zero_add] at *
    cases B with
    | nil =>
      refine walk (its := [.c c_z26z_k0, .blk 1 wb_z26z_1, .c c_z26z_k2, .lp wl_z26z_0 c_z26z_l0, .blk 0 wb_z26z_0]) (k0 := [.c c_z26z_k3]) 300 trivial trivial (fun A eA => ?_)
      simp (disch := first | omega | (simp only [avs_len, zz1, zz2, zz3, zz4, zz5, zz6]; omega) | (simp only [cells, scal1, allSz, zz1, zz3, zz2, zz6, zz7, zz8, avs_len, zz9, zz10, zz11, zz12, zz13, reduceCtorEq, *]; done) | fail) only [c_z26z, wl_z26z_2, s_z26z_2, c_z26z_l2, wb_z26z_2, wl_z26z_4, s_z26z_4, c_z26z_l4, wb_z26z_4, c_z26z_k0, c_z26z_k1, wb_z26z_1, c_z26z_k2, wl_z26z_0, s_z26z_0, c_z26z_l0, wb_z26z_0, c_z26z_k3, go_sem, eA, scal1, List.length_map, List.map_nil, allSz, List.all_cons, List.all_nil, ↓optI_of hka, ↓appK, catCells, w1, chunk, chunkN]
      exact h _
    | cons b B' =>
      have g1 := hgB b B' rfl
      have c1 := less_calls a b
      rw [hB b B' rfl] at c1
      refine walk (its := [.c c_z26z_k0, .blk 1 wb_z26z_1, .c c_z26z_k2, .lp wl_z26z_0 c_z26z_l0, .blk 0 wb_z26z_0]) (k0 := [.c c_z26z_k3]) 300 trivial trivial (fun A eA => ?_)
      have hlB : (b :: B').length = B'.length + 1 := rfl
      generalize b :: B' = B at *
      have hql : (qcat (a :: B)).length = (1 + (B'.length + 1)) * 7 := by rw [qcat_len, List.length_cons, hlB]; omega
      rw [hlB] at hT hC hTl hqlB
      simp (disch := first | omega | (simp only [avs_len, zz1, zz2, zz3, zz4, zz5, zz6]; omega) | (simp only [cells, scal1, allSz, zz1, zz3, zz2, zz6, zz7, zz8, avs_len, zz9, zz10, zz11, zz12, zz13, reduceCtorEq, *]; done) | fail) only [c_z26z, wl_z26z_2, s_z26z_2, c_z26z_l2, wb_z26z_2, wl_z26z_4, s_z26z_4, c_z26z_l4, wb_z26z_4, c_z26z_k0, c_z26z_k1, wb_z26z_1, c_z26z_k2, wl_z26z_0, s_z26z_0, c_z26z_l0, wb_z26z_0, c_z26z_k3, go_sem, eA, scal1, List.length_map, hlB, allSz, List.all_cons, List.all_nil, ↓optI_of hka, ↓optI_of g1, ↓appK, catCells, w1, zz16, hqB, hqlB, hTl, hDr, hTk, ha0, hql, hT, hC, ↓frz_qcat]
      refine call0 300 trivial trivial c1 (.inl rfl) (fun A eA => ?_)
      simp (disch := first | omega | (simp only [avs_len, zz1, zz2, zz3, zz4, zz5, zz6]; omega) | (simp only [cells, scal1, allSz, zz1, zz3, zz2, zz6, zz7, zz8, avs_len, zz9, zz10, zz11, zz12, zz13, reduceCtorEq, *]; done) | fail) only [c_z26z, wl_z26z_2, s_z26z_2, c_z26z_l2, wb_z26z_2, wl_z26z_4, s_z26z_4, c_z26z_l4, wb_z26z_4, c_z26z_k0, c_z26z_k1, wb_z26z_1, c_z26z_k2, wl_z26z_0, s_z26z_0, c_z26z_l0, wb_z26z_0, c_z26z_k3, go_sem, eA, scal1, List.length_map, hlB, allSz, List.all_cons, List.all_nil, ↓optI_of hka, ↓optI_of g1, ↓appK, catCells, w1, zz16, hqB, hqlB, hTl, hDr, hTk, ha0, hql, hT, hC, ↓frz_qcat]
      exact h _
  | cons x A' =>
    have hlA : (x :: A').length = A'.length + 1 := rfl
    generalize x :: A' = A at *
    have hqA := qcat_cat A
    have hqlA := qcat_len A
    have ha1 : qcat A ++ vcs a = qcat (A ++ [a]) := by rw [qcat_app A [a]]; rfl
    have hq1 : (qcat (A ++ [a])).length = (A'.length + 1 + 1) * 7 := by rw [qcat_len]; simp [hlA]
    have ha2 : qcat (A ++ [a]) ++ qcat B = qcat (A ++ a :: B) := by rw [← qcat_app]; simp
    have hq2 : (qcat (A ++ a :: B)).length = (A'.length + 1 + 1 + B.length) * 7 := by rw [qcat_len]; simp [hlA]; omega
    have hT : (qcat (A ++ a :: B)).take ((A'.length + 1 + 1 + B.length) * 7) = qcat (A ++ a :: B) := List.take_of_length_le (by omega)
    have hC : chunk 7 (A'.length + 1 + 1 + B.length) (qcat (A ++ a :: B)) = (A ++ a :: B).map vv := by
      have := chunk_qcat (A ++ a :: B)
      rwa [show (A ++ a :: B).length = A'.length + 1 + 1 + B.length by simp [hlA]; omega] at this
    rw [hlA] at hTk hTl hDr hlenQ hqlA hAB
    have hgB' := hgB
    rw [hlA] at hgB'
    rw [hlA]
    cases B with
    | nil =>
      simp only [List.length_nil, Nat.add_zero, qcat, List.append_nil] at *
      refine walk (its := [.c c_z26z_k0, .blk 1 wb_z26z_1, .c c_z26z_k2, .lp wl_z26z_0 c_z26z_l0, .blk 0 wb_z26z_0]) (k0 := [.c c_z26z_k3]) 300 trivial trivial (fun A eA => ?_)
      simp (disch := first | omega | (simp only [avs_len, zz1, zz2, zz3, zz4, zz5, zz6]; omega) | (simp only [cells, scal1, allSz, zz1, zz3, zz2, zz6, zz7, zz8, avs_len, zz9, zz10, zz11, zz12, zz13, reduceCtorEq, *]; done) | fail) only [c_z26z, wl_z26z_2, s_z26z_2, c_z26z_l2, wb_z26z_2, wl_z26z_4, s_z26z_4, c_z26z_l4, wb_z26z_4, c_z26z_k0, c_z26z_k1, wb_z26z_1, c_z26z_k2, wl_z26z_0, s_z26z_0, c_z26z_l0, wb_z26z_0, c_z26z_k3, go_sem, eA, scal1, List.length_map, hlA, hlenQ, allSz, List.all_cons, List.all_nil, ↓optI_of hka, ↓appK, catCells, w1, zz16, hTl, hDr, hTk, hqA, hqlA, ha1, hq1, hqB, hqlB, ha2, hq2, hT, hC, ↓frz_qcat, List.map_nil, qcat]
      exact h _
    | cons b B' =>
      have g1 := hgB' b B' rfl
      have c1 := less_calls a b
      rw [hB b B' rfl] at c1
      have hlB : (b :: B').length = B'.length + 1 := rfl
      generalize b :: B' = B at *
      rw [hlB] at hTl hlenQ hqlB hq2 hT hC hAB
      refine walk (its := [.c c_z26z_k0, .blk 1 wb_z26z_1, .c c_z26z_k2, .lp wl_z26z_0 c_z26z_l0, .blk 0 wb_z26z_0]) (k0 := [.c c_z26z_k3]) 300 trivial trivial (fun A eA => ?_)
      simp (disch := first | omega | (simp only [avs_len, zz1, zz2, zz3, zz4, zz5, zz6]; omega) | (simp only [cells, scal1, allSz, zz1, zz3, zz2, zz6, zz7, zz8, avs_len, zz9, zz10, zz11, zz12, zz13, reduceCtorEq, *]; done) | fail) only [c_z26z, wl_z26z_2, s_z26z_2, c_z26z_l2, wb_z26z_2, wl_z26z_4, s_z26z_4, c_z26z_l4, wb_z26z_4, c_z26z_k0, c_z26z_k1, wb_z26z_1, c_z26z_k2, wl_z26z_0, s_z26z_0, c_z26z_l0, wb_z26z_0, c_z26z_k3, go_sem, eA, scal1, List.length_map, hlA, hlenQ, allSz, List.all_cons, List.all_nil, ↓optI_of hka, ↓appK, catCells, w1, zz16, hTl, hDr, hTk, hqA, hqlA, ha1, hq1, hqB, hqlB, ha2, hq2, hT, hC, ↓frz_qcat, hlB, ↓optI_of g1]
      refine call0 300 trivial trivial c1 (.inl rfl) (fun A eA => ?_)
      simp (disch := first | omega | (simp only [avs_len, zz1, zz2, zz3, zz4, zz5, zz6]; omega) | (simp only [cells, scal1, allSz, zz1, zz3, zz2, zz6, zz7, zz8, avs_len, zz9, zz10, zz11, zz12, zz13, reduceCtorEq, *]; done) | fail) only [c_z26z, wl_z26z_2, s_z26z_2, c_z26z_l2, wb_z26z_2, wl_z26z_4, s_z26z_4, c_z26z_l4, wb_z26z_4, c_z26z_k0, c_z26z_k1, wb_z26z_1, c_z26z_k2, wl_z26z_0, s_z26z_0, c_z26z_l0, wb_z26z_0, c_z26z_k3, go_sem, eA, scal1, List.length_map, hlA, hlenQ, allSz, List.all_cons, List.all_nil, ↓optI_of hka, ↓appK, catCells, w1, zz16, hTl, hDr, hTk, hqA, hqlA, ha1, hq1, hqB, hqlB, ha2, hq2, hT, hC, ↓frz_qcat, hlB]
      exact h _
end Go.Proofs.Ytmokhopjnjecbac
/- Versions, beside one another: the document's Merge, and the question for siblings. -/
-- short
-- fuel 300
namespace Go.Proofs.Ytmokhopjnjecbac
open Go.Ev
set_option linter.unusedVariables false
set_option linter.unusedSimpArgs false
set_option maxRecDepth 100000
set_option maxHeartbeats 3200000
/-- The next round, nothing put. -/
theorem rm_skip (l : List Ver) (hl : l.length ≤ 49) (i : Nat) (hi : i < l.length) (a : Ver) (hka : (l.map vv)[((i : Nat) : Int).toNat]? = some (vv a)) (Q : List Ver) (last : Bool) (at_ : Nat) (hla : last = false ∨ (at_ < Q.length ∧ ∃ b, (Q.map vv)[((at_ : Nat) : Int).toNat]? = some (vv b) ∧ ltV a b = false)) {R : List AV → Heap → Ctr → Prop} (nx : Ctr)
    (h : ∀ nx, RunsX Try.prog 0 R (i_z26z_0 ++ [.c c_z26z_k3]) (rmS l Q (i + 1)) [] nx) :
    RunsX Try.prog 0 R (rmI2 ++ [.c c_z26z_k3]) (e_z26z_4 (qv l) (qv Q) (.int .i64 (i : Nat)) (.bool last) (.int .i64 (at_ : Nat)) (.int .i64 (l.length : Nat)) (.int .i64 (i : Nat))) [] nx := by
  have w1 : IntKind.i64.wrap ((i : Int) + 1) = ((i + 1 : Nat) : Int) := by rw [wrap64 (by omega) (by omega)]; omega
  cases last with
  | false =>
    refine walk (its := [.c c_z26z_k0, .blk 1 wb_z26z_1, .c c_z26z_k2, .lp wl_z26z_0 c_z26z_l0, .blk 0 wb_z26z_0]) (k0 := [.c c_z26z_k3]) 300 trivial trivial (fun A eA => ?_)
    simp (disch := first | omega | (simp only [avs_len, zz1, zz2, zz3, zz4, zz5, zz6]; omega) | (simp only [cells, scal1, allSz, zz1, zz3, zz2, zz6, zz7, zz8, avs_len, zz9, zz10, zz11, zz12, zz13, reduceCtorEq, *]; done) | fail) only [c_z26z, wl_z26z_2, s_z26z_2, c_z26z_l2, wb_z26z_2, wl_z26z_4, s_z26z_4, c_z26z_l4, wb_z26z_4, c_z26z_k0, c_z26z_k1, wb_z26z_1, c_z26z_k2, wl_z26z_0, s_z26z_0, c_z26z_l0, wb_z26z_0, c_z26z_k3, go_sem, eA, scal1, w1]
    exact h _
  | true =>
    obtain ⟨h1, b, g1, h2⟩ : at_ < Q.length ∧ ∃ b, (Q.map vv)[((at_ : Nat) : Int).toNat]? = some (vv b) ∧ ltV a b = false := by rcases hla with h | h; cases h; exact h
    have c1 := less_calls a b
    rw [h2] at c1
    refine walk (its := [.c c_z26z_k0, .blk 1 wb_z26z_1, .c c_z26z_k2, .lp wl_z26z_0 c_z26z_l0, .blk 0 wb_z26z_0]) (k0 := [.c c_z26z_k3]) 300 trivial trivial (fun A eA => ?_)
    simp (disch := first | omega | (simp only [avs_len, zz1, zz2, zz3, zz4, zz5, zz6]; omega) | (simp only [cells, scal1, allSz, zz1, zz3, zz2, zz6, zz7, zz8, avs_len, zz9, zz10, zz11, zz12, zz13, reduceCtorEq, *]; done) | fail) only [c_z26z, wl_z26z_2, s_z26z_2, c_z26z_l2, wb_z26z_2, wl_z26z_4, s_z26z_4, c_z26z_l4, wb_z26z_4, c_z26z_k0, c_z26z_k1, wb_z26z_1, c_z26z_k2, wl_z26z_0, s_z26z_0, c_z26z_l0, wb_z26z_0, c_z26z_k3, go_sem, eA, scal1, w1, List.length_map, ↓optI_of hka, ↓optI_of g1]
    refine call0 300 trivial trivial c1 (.inl rfl) (fun A eA => ?_)
    simp (disch := first | omega | (simp only [avs_len, zz1, zz2, zz3, zz4, zz5, zz6]; omega) | (simp only [cells, scal1, allSz, zz1, zz3, zz2, zz6, zz7, zz8, avs_len, zz9, zz10, zz11, zz12, zz13, reduceCtorEq, *]; done) | fail) only [c_z26z, wl_z26z_2, s_z26z_2, c_z26z_l2, wb_z26z_2, wl_z26z_4, s_z26z_4, c_z26z_l4, wb_z26z_4, c_z26z_k0, c_z26z_k1, wb_z26z_1, c_z26z_k2, wl_z26z_0, s_z26z_0, c_z26z_l0, wb_z26z_0, c_z26z_k3, go_sem, eA, scal1, w1]
    exact h _
theorem rmerge_loop (l : List Ver) (hl : l.length ≤ 49) (hv : ∀ v ∈ l, XRt v.event) : ∀ (post pre : List Ver), l = pre ++ post → ∀ (Q : List Ver), Q.length ≤ pre.length → ∀ nx : Ctr,
    RunsX Try.prog 0 (Gives [.t 2] (qv (refM ltV (kpB l) post Q))) (i_z26z_0 ++ [.c c_z26z_k3]) (rmS l Q pre.length) [] nx := by
  intro post
  induction post with
  | nil =>
    intro pre h1 Q hQ nx
    rw [List.append_nil] at h1
    subst h1
    refine round (its := [.blk 0 wb_z26z_0]) (k0 := [.c c_z26z_k3]) 300 trivial trivial (fun A eA => ?_)
    simp (disch := first | omega | (simp only [avs_len, zz1, zz2, zz3, zz4, zz5, zz6]; omega) | (simp only [cells, scal1, allSz, zz1, zz3, zz2, zz6, zz7, zz8, avs_len, zz9, zz10, zz11, zz12, zz13, reduceCtorEq, *]; done) | fail) only [c_z26z, wl_z26z_2, s_z26z_2, c_z26z_l2, wb_z26z_2, wl_z26z_4, s_z26z_4, c_z26z_l4, wb_z26z_4, c_z26z_k0, c_z26z_k1, wb_z26z_1, c_z26z_k2, wl_z26z_0, s_z26z_0, c_z26z_l0, wb_z26z_0, c_z26z_k3, go_sem, eA, scal1]
    refine walk0 (its := [.c c_z26z_k3]) 300 trivial (fun A eA => ?_)
    simp (disch := first | omega | (simp only [avs_len, zz1, zz2, zz3, zz4, zz5, zz6]; omega) | (simp only [cells, scal1, allSz, zz1, zz3, zz2, zz6, zz7, zz8, avs_len, zz9, zz10, zz11, zz12, zz13, reduceCtorEq, *]; done) | fail) only [c_z26z, wl_z26z_2, s_z26z_2, c_z26z_l2, wb_z26z_2, wl_z26z_4, s_z26z_4, c_z26z_l4, wb_z26z_4, c_z26z_k0, c_z26z_k1, wb_z26z_1, c_z26z_k2, wl_z26z_0, s_z26z_0, c_z26z_l0, wb_z26z_0, c_z26z_k3, go_sem, eA, scal1]
    exact doneG rfl
  | cons a post ih =>
    intro pre h1 Q hQ nx
    have hlt : pre.length < l.length := by rw [h1]; simp
    have ham : a ∈ l := by rw [h1]; simp
    have ih := fun Q hQ nx => ih (pre ++ [a]) (by rw [h1]; simp) Q (by simp; omega) nx
    rw [show (pre ++ [a]).length = pre.length + 1 by simp] at ih
    have g0 : (l.map vv)[((pre.length : Nat) : Int).toNat]? = some (vv a) := by
      rw [zz16, h1, List.getElem?_map, List.getElem?_append_right (Nat.le_refl _), Nat.sub_self]; rfl
    refine round (its := [.blk 0 wb_z26z_0]) (k0 := [.c c_z26z_k3]) 300 trivial trivial (fun A eA => ?_)
    simp (disch := first | omega | (simp only [avs_len, zz1, zz2, zz3, zz4, zz5, zz6]; omega) | (simp only [cells, scal1, allSz, zz1, zz3, zz2, zz6, zz7, zz8, avs_len, zz9, zz10, zz11, zz12, zz13, reduceCtorEq, *]; done) | fail) only [c_z26z, wl_z26z_2, s_z26z_2, c_z26z_l2, wb_z26z_2, wl_z26z_4, s_z26z_4, c_z26z_l4, wb_z26z_4, c_z26z_k0, c_z26z_k1, wb_z26z_1, c_z26z_k2, wl_z26z_0, s_z26z_0, c_z26z_l0, wb_z26z_0, c_z26z_k3, go_sem, eA, scal1, List.length_map]
    refine last_loop l (by omega) hv a (hv a ham) pre.length g0 (k := rmI ++ [.c c_z26z_k3]) (show flat (rmI ++ [It.c c_z26z_k3]) from trivial) _ _ _ [] l [] rfl _ (fun nx => ?_)
    refine walk (its := [.c c_z26z_k1, .blk 1 wb_z26z_1, .c c_z26z_k2, .lp wl_z26z_0 c_z26z_l0, .blk 0 wb_z26z_0]) (k0 := [.c c_z26z_k3]) 300 trivial trivial (fun A eA => ?_)
    simp (disch := first | omega | (simp only [avs_len, zz1, zz2, zz3, zz4, zz5, zz6]; omega) | (simp only [cells, scal1, allSz, zz1, zz3, zz2, zz6, zz7, zz8, avs_len, zz9, zz10, zz11, zz12, zz13, reduceCtorEq, *]; done) | fail) only [c_z26z, wl_z26z_2, s_z26z_2, c_z26z_l2, wb_z26z_2, wl_z26z_4, s_z26z_4, c_z26z_l4, wb_z26z_4, c_z26z_k0, c_z26z_k1, wb_z26z_1, c_z26z_k2, wl_z26z_0, s_z26z_0, c_z26z_l0, wb_z26z_0, c_z26z_k3, go_sem, eA, scal1]
    refine at_loop l a pre.length g0 Q (by omega) (k := rmI2 ++ [.c c_z26z_k3]) (show flat (rmI2 ++ [It.c c_z26z_k3]) from trivial) _ _ _ [] Q [] rfl _ (fun nx => ?_)
    rw [show ([] : List Ver).length + (Q.takeWhile (fun b => ltV b a)).length = (Q.takeWhile (fun b => ltV b a)).length by simp]
    have hAB : Q.takeWhile (fun b => ltV b a) ++ Q.dropWhile (fun b => ltV b a) = Q := List.takeWhile_append_dropWhile
    have hins := insM_split a Q
    cases hk : kpB l a with
    | false =>
      have e : refM ltV (kpB l) (a :: post) Q = refM ltV (kpB l) post Q := by rw [refM, hk]; rfl
      rw [e]
      exact rm_skip l hl pre.length hlt a g0 Q false _ (.inl rfl) nx (fun nx => ih Q (by omega) nx)
    | true =>
      have e : refM ltV (kpB l) (a :: post) Q = refM ltV (kpB l) post (insM ltV a Q) := by rw [refM, hk]; rfl
      rw [e]
      generalize Q.takeWhile (fun b => ltV b a) = A at *
      generalize Q.dropWhile (fun b => ltV b a) = B at *
      subst hAB
      have hlen : (A ++ B).length = A.length + B.length := by simp
      cases B with
      | nil =>
        simp only at hins
        rw [hins]
        exact rm_put l hl pre.length hlt a g0 A [] (by rw [hlen] at hQ; omega) (fun b B' e => by cases e) nx (fun nx => ih _ (by simp at hQ ⊢; omega) nx)
      | cons b B' =>
        have g1 : ((A ++ b :: B').map vv)[((A.length : Nat) : Int).toNat]? = some (vv b) := by
          rw [zz16, List.getElem?_map, List.getElem?_append_right (Nat.le_refl _), Nat.sub_self]; rfl
        cases hab : ltV a b with
        | true =>
          simp only [hab, if_true] at hins
          rw [hins]
          exact rm_put l hl pre.length hlt a g0 A (b :: B') (by omega) (fun b2 B2 e => by cases e; exact hab) nx (fun nx => ih _ (by simp at hQ ⊢; omega) nx)
        | false =>
          simp only [hab, Bool.false_eq_true, if_false] at hins
          rw [hins]
          exact rm_skip l hl pre.length hlt a g0 _ true A.length (.inr ⟨by simp, b, g1, hab⟩) nx (fun nx => ih _ (by omega) nx)
theorem rmerge_start (l : List Ver) (hl : l.length ≤ 49) (hv : ∀ v ∈ l, XRt v.event) (nx : Ctr) :
    RunsX Try.prog 0 (Gives [.t 2] (qv (mrgL l))) (i_z26z_0 ++ [.c c_z26z_k3]) (s_z26z_0 (qv l) .nils (.int .i64 (l.length : Nat)) (.int .i64 0)) [] nx :=
  RunsX.wkT (show flat (i_z26z_0 ++ [It.c c_z26z_k3]) from trivial) (Wk.at1 (Wk1.nils 7) [_, .any, .any] _) (rmerge_loop l hl hv l [] rfl [] (Nat.le_refl _) nx)
theorem rmerge_calls (l : List Ver) (hl : l.length ≤ 49) (hv : ∀ v ∈ l, XRt v.event) : PCalls Try.prog F_z26z [qv l] (qv (mrgL l)) := by
  refine calls_z26z (walk0 300 trivial (fun A eA => ?_))
  simp (disch := first | omega | (simp only [avs_len, zz1, zz2, zz3, zz4, zz5, zz6]; omega) | (simp only [cells, scal1, allSz, zz1, zz3, zz2, zz6, zz7, zz8, avs_len, zz9, zz10, zz11, zz12, zz13, reduceCtorEq, *]; done) | fail) only [c_z26z, wl_z26z_2, s_z26z_2, c_z26z_l2, wb_z26z_2, wl_z26z_4, s_z26z_4, c_z26z_l4, wb_z26z_4, c_z26z_k0, c_z26z_k1, wb_z26z_1, c_z26z_k2, wl_z26z_0, s_z26z_0, c_z26z_l0, wb_z26z_0, c_z26z_k3, go_sem, eA, scal1, List.length_map]
  exact rmerge_start l hl hv _
end Go.Proofs.Ytmokhopjnjecbac
/- Versions, beside one another: siblings; lists alike. -/
-- short
-- fuel 300
namespace Go.Proofs.Ytmokhopjnjecbac
open Go.Ev
set_option linter.unusedVariables false
set_option linter.unusedSimpArgs false
set_option maxRecDepth 100000
set_option maxHeartbeats 3200000
/-! ### plain -/
theorem stay_mem (keep : Ver → Bool) : ∀ (l out : List Ver) (x : Ver), x ∈ stay ltV keep l out → x ∈ out ∨ (x ∈ l ∧ keep x = true)
  | [], out, x, h => .inl h
  | a :: l, out, x, h => by
    unfold stay at h
    rcases stay_mem keep l _ x h with h | h
    · split at h
      · rename_i hc
        rcases List.mem_append.1 h with h | h
        · exact .inl h
        · rw [List.mem_singleton] at h; subst h
          simp only [Bool.and_eq_true] at hc
          exact .inr ⟨List.mem_cons_self .., hc.2⟩
      · exact .inl h
    · exact .inr ⟨List.mem_cons_of_mem _ h.1, h.2⟩
theorem stay_has (keep : Ver → Bool) : ∀ (l out : List Ver), (∀ x ∈ out, x ∈ stay ltV keep l out) ∧ ∀ x ∈ l, keep x = true → ∃ y ∈ stay ltV keep l out, nmB ltV x y = true
  | [], out => ⟨fun x h => h, fun x h => by cases h⟩
  | a :: l, out => by
    unfold stay
    by_cases hc : (!(out.any fun b => nmB ltV a b) && keep a) = true
    · rw [if_pos hc]
      obtain ⟨h1, h2⟩ := stay_has keep l (out ++ [a])
      refine ⟨fun x hx => h1 x (List.mem_append_left _ hx), fun x hx hk => ?_⟩
      rcases List.mem_cons.1 hx with rfl | hx
      · exact ⟨x, h1 x (by simp), by rw [nmB_iff]; exact ⟨ltV_swo.irrefl x, ltV_swo.irrefl x⟩⟩
      · exact h2 x hx hk
    · rw [if_neg hc]
      obtain ⟨h1, h2⟩ := stay_has keep l out
      refine ⟨h1, fun x hx hk => ?_⟩
      rcases List.mem_cons.1 hx with rfl | hx
      · rw [hk, Bool.and_true, Bool.not_eq_true', Bool.not_eq_false] at hc
        obtain ⟨y, hy, hn⟩ := List.any_eq_true.1 hc
        exact ⟨y, h1 y hy, hn⟩
      · exact h2 x hx hk
theorem mrg_mem {l : List Ver} {x : Ver} (h : x ∈ mrgL l) : x ∈ l ∧ kpB l x = true := by
  rcases stay_mem (kpB l) l [] x ((mrg_perm l).mem_iff.2 h) with h | h
  · cases h
  · exact h
/-- Where no two of one name are unlike, all that may stay stays. -/
theorem mrg_all {l : List Ver} (hn : ∀ x ∈ l, ∀ y ∈ l, nmB ltV x y = true → x = y) {x : Ver} : x ∈ mrgL l ↔ x ∈ l ∧ kpB l x = true := by
  refine ⟨mrg_mem, fun ⟨hx, hk⟩ => ?_⟩
  obtain ⟨y, hy, he⟩ := (stay_has (kpB l) l []).2 x hx hk
  have hy' := (mrg_perm l).mem_iff.1 hy
  rw [hn x hx y (mrg_mem hy').1 he]; exact hy'
theorem sorted_mem : ∀ (l l' : List Ver), (∀ x, x ∈ l ↔ x ∈ l') → l.Pairwise (fun x y => ltV x y = true) → l'.Pairwise (fun x y => ltV x y = true) → l = l'
  | [], [], _, _, _ => rfl
  | [], b :: l', h, _, _ => absurd ((h b).2 (List.mem_cons_self ..)) (by simp)
  | a :: l, [], h, _, _ => absurd ((h a).1 (List.mem_cons_self ..)) (by simp)
  | a :: l, b :: l', h, hs, hs' => by
    rw [List.pairwise_cons] at hs hs'
    have hab : a = b := by
      have h1 := List.mem_cons.1 ((h a).1 (List.mem_cons_self ..))
      have h2 := List.mem_cons.1 ((h b).2 (List.mem_cons_self ..))
      rcases h1 with h1 | h1
      · exact h1
      · rcases h2 with h2 | h2
        · exact h2.symm
        · have := ltV_swo.trans _ _ _ (hs.1 b h2) (hs'.1 a h1)
          rw [ltV_swo.irrefl] at this; cases this
    subst hab
    congr 1
    refine sorted_mem l l' (fun x => ?_) hs.2 hs'.2
    have hne : ∀ {m : List Ver}, (∀ c ∈ m, ltV a c = true) → x ∈ m → x ≠ a := by
      intro m hm hx e; subst e; have := hm x hx; rw [ltV_swo.irrefl] at this; cases this
    constructor
    · intro hx
      rcases List.mem_cons.1 ((h x).1 (List.mem_cons_of_mem _ hx)) with e | e
      · exact absurd e (hne hs.1 hx)
      · exact e
    · intro hx
      rcases List.mem_cons.1 ((h x).2 (List.mem_cons_of_mem _ hx)) with e | e
      · exact absurd e (hne hs'.1 hx)
      · exact e
theorem kp_mem {l l' : List Ver} (h : ∀ x, x ∈ l ↔ x ∈ l') (a : Ver) : kpB l a = kpB l' a := by
  unfold kpB
  congr 1
  rw [Bool.eq_iff_iff, List.any_eq_true, List.any_eq_true]
  exact ⟨fun ⟨x, hx, q⟩ => ⟨x, (h x).1 hx, q⟩, fun ⟨x, hx, q⟩ => ⟨x, (h x).2 hx, q⟩⟩
theorem mrg_same {l l' : List Ver} (h : ∀ x, x ∈ l ↔ x ∈ l') (hn : ∀ x ∈ l, ∀ y ∈ l, nmB ltV x y = true → x = y) : mrgL l = mrgL l' := by
  refine sorted_mem _ _ (fun x => ?_) (mrg_sorted l) (mrg_sorted l')
  rw [mrg_all hn, mrg_all (fun x hx y hy => hn x ((h x).2 hx) y ((h y).2 hy)), h x, kp_mem h]
theorem one_iff {l : List Ver} : oneB l = true ↔ (∀ x ∈ l, VRt x) ∧ ∀ x ∈ l, ∀ y ∈ l, x.key = y.key := by
  cases l with
  | nil => exact ⟨fun _ => ⟨(fun x h => by cases h), (fun x h => by cases h)⟩, fun _ => rfl⟩
  | cons v0 l =>
    constructor
    · intro h
      have hk : ∀ x ∈ v0 :: l, x.key = v0.key := by
        intro x hx
        have := List.all_eq_true.1 h x hx
        simp only [okV, Bool.and_eq_true, beq_iff_eq] at this
        exact str_inj this.2
      exact ⟨one_rt h, fun x hx y hy => (hk x hx).trans (hk y hy).symm⟩
    · intro ⟨h1, h2⟩
      refine List.all_eq_true.2 (fun x hx => ?_)
      simp only [okV, Bool.and_eq_true, beq_iff_eq]
      exact ⟨vrtb_true.2 (h1 x hx), by rw [h2 x hx v0 (List.mem_cons_self ..)]⟩
theorem one_sub {l l' : List Ver} (h : ∀ x ∈ l', x ∈ l) (ho : oneB l = true) : oneB l' = true := by
  rw [one_iff] at *
  exact ⟨fun x hx => ho.1 x (h x hx), fun x hx y hy => ho.2 x (h x hx) y (h y hy)⟩
/-- In order, and none behind another one? -/
noncomputable def sibL (l : List Ver) : Option Ver → List Ver → Bool
  | _, [] => true
  | p, a :: r => (match p with | none => true | some b => decide (ordZ b a < 0)) && kpB l a && sibL l (some a) r
theorem sibL_iff (l : List Ver) : ∀ (p : Option Ver) (r : List Ver), sibL l p r = true ↔ (p.toList ++ r).Pairwise (fun x y => ltV x y = true) ∧ (∀ a ∈ r, kpB l a = true) ∨ (r = [] ) := by
  intro p r
  induction r generalizing p with
  | nil => simp [sibL]
  | cons a r ih =>
    simp only [sibL, Bool.and_eq_true, ih (some a), reduceCtorEq, or_false, Option.toList_some, List.singleton_append, List.cons_append, List.nil_append, List.mem_cons, forall_eq_or_imp]
    cases p with
    | none =>
      simp only [Option.toList_none, List.nil_append, true_and]
      constructor
      · rintro ⟨h1, ⟨h2, h3⟩ | h2⟩
        · exact ⟨h2, h1, h3⟩
        · subst h2; exact ⟨List.pairwise_singleton _ _, h1, fun x h => by cases h⟩
      · rintro ⟨h1, h2, h3⟩; exact ⟨h2, .inl ⟨h1, h3⟩⟩
    | some b =>
      simp only [Option.toList_some, List.singleton_append]
      have tr : ∀ {r : List Ver}, ltV b a = true → (a :: r).Pairwise (fun x y => ltV x y = true) → (b :: a :: r).Pairwise (fun x y => ltV x y = true) := by
        intro r h1 h2
        rw [List.pairwise_cons]
        refine ⟨fun x hx => ?_, h2⟩
        rcases List.mem_cons.1 hx with rfl | hx
        · exact h1
        · exact ltV_swo.trans _ _ _ h1 ((List.pairwise_cons.1 h2).1 x hx)
      constructor
      · rintro ⟨⟨h0, h1⟩, ⟨h2, h3⟩ | h2⟩
        · exact ⟨tr h0 h2, h1, h3⟩
        · subst h2; exact ⟨tr h0 (List.pairwise_singleton _ _), h1, fun x h => by cases h⟩
      · rintro ⟨h1, h2, h3⟩
        exact ⟨⟨(List.pairwise_cons.1 h1).1 a (List.mem_cons_self ..), h2⟩, .inl ⟨(List.pairwise_cons.1 h1).2, h3⟩⟩
theorem sib_mrg {l : List Ver} : sibL l none l = true ↔ mrgL l = l := by
  rw [sibL_iff]
  simp only [Option.toList_none, List.nil_append]
  constructor
  · intro h
    have hs : l.Pairwise (fun x y => ltV x y = true) ∧ ∀ a ∈ l, kpB l a = true := by
      rcases h with h | h
      · exact h
      · subst h; exact ⟨.nil, fun x h => by cases h⟩
    refine sorted_mem _ _ (fun x => ?_) (mrg_sorted l) hs.1
    have hn : ∀ x ∈ l, ∀ y ∈ l, nmB ltV x y = true → x = y := by
      intro x hx y hy hnm
      rw [nmB_iff] at hnm
      obtain ⟨i, hi, rfl⟩ := List.mem_iff_getElem.1 hx
      obtain ⟨j, hj, rfl⟩ := List.mem_iff_getElem.1 hy
      have hp := List.pairwise_iff_getElem.1 hs.1
      rcases Nat.lt_trichotomy i j with q | q | q
      · rw [hp i j hi hj q] at hnm; cases hnm.1
      · subst q; rfl
      · rw [hp j i hj hi q] at hnm; cases hnm.2
    rw [mrg_all hn]
    exact ⟨fun q => q.1, fun q => ⟨q, hs.2 x q⟩⟩
  · intro h
    refine .inl ⟨by rw [← h]; exact mrg_sorted l, fun a ha => ?_⟩
    rw [← h] at ha
    exact (mrg_mem ha).2
/-- Siblings? -/
noncomputable def sibB (l : List Ver) : Bool := oneB l && decide (l.length ≤ 16) && sibL l none l
theorem sib_of_mrg {l : List Ver} (ho : oneB l = true) (h16 : (mrgL l).length ≤ 16) : sibB (mrgL l) = true := by
  unfold sibB
  simp only [Bool.and_eq_true, decide_eq_true_eq]
  refine ⟨⟨one_sub (fun x hx => (mrg_mem hx).1) ho, h16⟩, ?_⟩
  rw [sibL_iff]
  refine .inl ⟨by simpa using mrg_sorted l, fun a ha => ?_⟩
  have := (mrg_mem ha).2
  unfold kpB at this ⊢
  simp only [Bool.not_eq_true', List.any_eq_false] at this ⊢
  exact fun b hb => this b (mrg_mem hb).1
end Go.Proofs.Ytmokhopjnjecbac
/- Versions, beside one another: siblings, lists alike, walked. -/
-- short
-- fuel 300
namespace Go.Proofs.Ytmokhopjnjecbac
open Go.Ev
set_option linter.unusedVariables false
set_option linter.unusedSimpArgs false
set_option maxRecDepth 100000
set_option maxHeartbeats 3200000
theorem sib_loop (l : List Ver) (hl : l.length ≤ 1000) (hv : ∀ v ∈ l, XRt v.event) : ∀ (post pre : List Ver), l = pre ++ post → ∀ nx : Ctr,
    RunsX Try.prog 0 (Gives [.t 2] (.bool (sibL l pre.getLast? post))) (i_z20z_0 ++ [.c c_z20z_k0]) (s_z20z_0 (qv l) (qv l) (.int .i64 (l.length : Nat)) (.int .i64 (pre.length : Nat))) [] nx := by
  intro post
  induction post with
  | nil =>
    intro pre h1 nx
    rw [List.append_nil] at h1
    subst h1
    have e : sibL l l.getLast? [] = true := by simp [sibL]
    rw [e]
    refine round (its := [.blk 0 wb_z20z_0]) (k0 := [.c c_z20z_k0]) 300 trivial trivial (fun A eA => ?_)
    simp (disch := first | omega | (simp only [avs_len, zz1, zz2, zz3, zz4, zz5, zz6]; omega) | (simp only [cells, scal1, allSz, zz1, zz3, zz2, zz6, zz7, zz8, avs_len, zz9, zz10, zz11, zz12, zz13, reduceCtorEq, *]; done) | fail) only [c_z20z, wl_z20z_0, s_z20z_0, c_z20z_l0, wb_z20z_0, c_z20z_k0, go_sem, eA, scal1]
    refine walk0 (its := [.c c_z20z_k0]) 300 trivial (fun A eA => ?_)
    simp (disch := first | omega | (simp only [avs_len, zz1, zz2, zz3, zz4, zz5, zz6]; omega) | (simp only [cells, scal1, allSz, zz1, zz3, zz2, zz6, zz7, zz8, avs_len, zz9, zz10, zz11, zz12, zz13, reduceCtorEq, *]; done) | fail) only [c_z20z, wl_z20z_0, s_z20z_0, c_z20z_l0, wb_z20z_0, c_z20z_k0, go_sem, eA, scal1]
    exact doneG rfl
  | cons a post ih =>
    intro pre h1 nx
    have hlt : pre.length < l.length := by rw [h1]; simp
    have ham : a ∈ l := by rw [h1]; simp
    have ih := fun nx => ih (pre ++ [a]) (by rw [h1]; simp) nx
    rw [show (pre ++ [a]).length = pre.length + 1 by simp, show (pre ++ [a]).getLast? = some a by simp] at ih
    have g0 : (l.map vv)[((pre.length : Nat) : Int).toNat]? = some (vv a) := by
      rw [zz16, h1, List.getElem?_map, List.getElem?_append_right (Nat.le_refl _), Nat.sub_self]; rfl
    have w1 : IntKind.i64.wrap ((pre.length : Int) + 1) = ((pre.length + 1 : Nat) : Int) := by rw [wrap64 (by omega) (by omega)]; omega
    have c3 := vany_calls F_z20z_1 [.ro (vcs a)] (fun b => bhB b a) l none (by omega) (fun v hm => sib1_calls v a (hv v hm)) (frz_vcs a)
    rw [show (l.any fun b => bhB b a) = !kpB l a by simp [kpB]] at c3
    rcases List.eq_nil_or_concat pre with rfl | ⟨p2, b, rfl⟩
    · have e : sibL l [].getLast? (a :: post) = (kpB l a && sibL l (some a) post) := by simp [sibL]
      rw [e]
      simp only [List.length_nil] at *
      refine round (its := [.blk 0 wb_z20z_0]) (k0 := [.c c_z20z_k0]) 300 trivial trivial (fun A eA => ?_)
      simp (disch := first | omega | (simp only [avs_len, zz1, zz2, zz3, zz4, zz5, zz6]; omega) | (simp only [cells, scal1, allSz, zz1, zz3, zz2, zz6, zz7, zz8, avs_len, zz9, zz10, zz11, zz12, zz13, reduceCtorEq, *]; done) | fail) only [c_z20z, wl_z20z_0, s_z20z_0, c_z20z_l0, wb_z20z_0, c_z20z_k0, go_sem, eA, scal1, ↓optI_of g0, w1, List.all_cons, List.all_nil]
      refine call0 300 trivial trivial c3 (.inr rfl) (fun A eA => ?_)
      cases hk : kpB l a with
      | true =>
        rw [Bool.true_and]
        simp (disch := first | omega | (simp only [avs_len, zz1, zz2, zz3, zz4, zz5, zz6]; omega) | (simp only [cells, scal1, allSz, zz1, zz3, zz2, zz6, zz7, zz8, avs_len, zz9, zz10, zz11, zz12, zz13, reduceCtorEq, *]; done) | fail) only [c_z20z, wl_z20z_0, s_z20z_0, c_z20z_l0, wb_z20z_0, c_z20z_k0, go_sem, eA, scal1, ↓optI_of g0, w1, hk]
        exact ih _
      | false =>
        rw [Bool.false_and]
        simp (disch := first | omega | (simp only [avs_len, zz1, zz2, zz3, zz4, zz5, zz6]; omega) | (simp only [cells, scal1, allSz, zz1, zz3, zz2, zz6, zz7, zz8, avs_len, zz9, zz10, zz11, zz12, zz13, reduceCtorEq, *]; done) | fail) only [c_z20z, wl_z20z_0, s_z20z_0, c_z20z_l0, wb_z20z_0, c_z20z_k0, go_sem, eA, scal1, ↓optI_of g0, w1, hk]
        exact doneG rfl
    · rw [List.concat_eq_append] at *
      have e : sibL l (p2 ++ [b]).getLast? (a :: post) = (decide (ordZ b a < 0) && (kpB l a && sibL l (some a) post)) := by simp [sibL, Bool.and_assoc]
      rw [e]
      have hln : (p2 ++ [b]).length = p2.length + 1 := by simp
      rw [hln] at ih hlt g0 w1 ⊢
      have g1 : (l.map vv)[((p2.length : Nat) : Int).toNat]? = some (vv b) := by
        rw [zz16, h1, List.getElem?_map, List.append_assoc, List.getElem?_append_right (Nat.le_refl _), Nat.sub_self]; rfl
      have w2 : IntKind.i64.wrap (((p2.length + 1 : Nat) : Int) - 1) = ((p2.length : Nat) : Int) := by rw [wrap64 (by omega) (by omega)]; omega
      have c2 := order_calls b a
      refine round (its := [.blk 0 wb_z20z_0]) (k0 := [.c c_z20z_k0]) 300 trivial trivial (fun A eA => ?_)
      simp (disch := first | omega | (simp only [avs_len, zz1, zz2, zz3, zz4, zz5, zz6]; omega) | (simp only [cells, scal1, allSz, zz1, zz3, zz2, zz6, zz7, zz8, avs_len, zz9, zz10, zz11, zz12, zz13, reduceCtorEq, *]; done) | fail) only [c_z20z, wl_z20z_0, s_z20z_0, c_z20z_l0, wb_z20z_0, c_z20z_k0, go_sem, eA, scal1, ↓optI_of g0, ↓optI_of g1, w1, w2, List.all_cons, List.all_nil]
      refine call0 300 trivial trivial c2 (.inl rfl) (fun A eA => ?_)
      by_cases ho : ordZ b a < 0
      · rw [decide_eq_true ho, Bool.true_and]
        simp (disch := first | omega | (simp only [avs_len, zz1, zz2, zz3, zz4, zz5, zz6]; omega) | (simp only [cells, scal1, allSz, zz1, zz3, zz2, zz6, zz7, zz8, avs_len, zz9, zz10, zz11, zz12, zz13, reduceCtorEq, *]; done) | fail) only [c_z20z, wl_z20z_0, s_z20z_0, c_z20z_l0, wb_z20z_0, c_z20z_k0, go_sem, eA, scal1, w1]
        refine call0 300 trivial trivial c3 (.inr rfl) (fun A eA => ?_)
        cases hk : kpB l a with
        | true =>
          rw [Bool.true_and]
          simp (disch := first | omega | (simp only [avs_len, zz1, zz2, zz3, zz4, zz5, zz6]; omega) | (simp only [cells, scal1, allSz, zz1, zz3, zz2, zz6, zz7, zz8, avs_len, zz9, zz10, zz11, zz12, zz13, reduceCtorEq, *]; done) | fail) only [c_z20z, wl_z20z_0, s_z20z_0, c_z20z_l0, wb_z20z_0, c_z20z_k0, go_sem, eA, scal1, w1, hk]
          exact ih _
        | false =>
          rw [Bool.false_and]
          simp (disch := first | omega | (simp only [avs_len, zz1, zz2, zz3, zz4, zz5, zz6]; omega) | (simp only [cells, scal1, allSz, zz1, zz3, zz2, zz6, zz7, zz8, avs_len, zz9, zz10, zz11, zz12, zz13, reduceCtorEq, *]; done) | fail) only [c_z20z, wl_z20z_0, s_z20z_0, c_z20z_l0, wb_z20z_0, c_z20z_k0, go_sem, eA, scal1, w1, hk]
          exact doneG rfl
      · rw [decide_eq_false ho, Bool.false_and]
        simp (disch := first | omega | (simp only [avs_len, zz1, zz2, zz3, zz4, zz5, zz6]; omega) | (simp only [cells, scal1, allSz, zz1, zz3, zz2, zz6, zz7, zz8, avs_len, zz9, zz10, zz11, zz12, zz13, reduceCtorEq, *]; done) | fail) only [c_z20z, wl_z20z_0, s_z20z_0, c_z20z_l0, wb_z20z_0, c_z20z_k0, go_sem, eA, scal1, w1]
        exact doneG rfl
theorem sib_calls (l : List Ver) (hl : l.length ≤ 1000) : PCalls Try.prog F_z20z [qv l] (.bool (sibB l)) := by
  have c1 := one_calls l (by omega)
  unfold sibB
  refine calls_z20z (walk0 300 trivial (fun A eA => ?_))
  simp (disch := first | omega | (simp only [avs_len, zz1, zz2, zz3, zz4, zz5, zz6]; omega) | (simp only [cells, scal1, allSz, zz1, zz3, zz2, zz6, zz7, zz8, avs_len, zz9, zz10, zz11, zz12, zz13, reduceCtorEq, *]; done) | fail) only [c_z20z, wl_z20z_0, s_z20z_0, c_z20z_l0, wb_z20z_0, c_z20z_k0, go_sem, eA, scal1]
  refine call0 300 trivial trivial c1 (.inl rfl) (fun A eA => ?_)
  cases ho : oneB l with
  | false =>
    rw [Bool.false_and, Bool.false_and]
    simp (disch := first | omega | (simp only [avs_len, zz1, zz2, zz3, zz4, zz5, zz6]; omega) | (simp only [cells, scal1, allSz, zz1, zz3, zz2, zz6, zz7, zz8, avs_len, zz9, zz10, zz11, zz12, zz13, reduceCtorEq, *]; done) | fail) only [c_z20z, wl_z20z_0, s_z20z_0, c_z20z_l0, wb_z20z_0, c_z20z_k0, go_sem, eA, scal1]
    exact doneG rfl
  | true =>
    rw [Bool.true_and]
    by_cases h16 : l.length ≤ 16
    · rw [decide_eq_true h16, Bool.true_and]
      simp (disch := first | omega | (simp only [avs_len, zz1, zz2, zz3, zz4, zz5, zz6]; omega) | (simp only [cells, scal1, allSz, zz1, zz3, zz2, zz6, zz7, zz8, avs_len, zz9, zz10, zz11, zz12, zz13, reduceCtorEq, *]; done) | fail) only [c_z20z, wl_z20z_0, s_z20z_0, c_z20z_l0, wb_z20z_0, c_z20z_k0, go_sem, eA, scal1, List.length_map]
      exact sib_loop l hl (one_xrt ho) l [] rfl _
    · rw [decide_eq_false h16, Bool.false_and]
      simp (disch := first | omega | (simp only [avs_len, zz1, zz2, zz3, zz4, zz5, zz6]; omega) | (simp only [cells, scal1, allSz, zz1, zz3, zz2, zz6, zz7, zz8, avs_len, zz9, zz10, zz11, zz12, zz13, reduceCtorEq, *]; done) | fail) only [c_z20z, wl_z20z_0, s_z20z_0, c_z20z_l0, wb_z20z_0, c_z20z_k0, go_sem, eA, scal1, List.length_map]
      exact doneG rfl
/-! ### lists alike -/
theorem same_self {v : Ver} (h : XRt v.event) : PCalls Try.prog F_version_Same [vv v, vv v] (.bool true) := by
  have := vSame_calls v v (by have := xrt_size h; omega)
  rw [xsm_self _ h, xteq_true.2 rfl, show vhead v v = true from cdec_t ⟨rfl, rfl, rfl, rfl, rfl⟩] at this
  exact this
theorem eqf_loop (l : List Ver) (hl : l.length ≤ 1000) (hv : ∀ v ∈ l, XRt v.event) : ∀ (post pre : List Ver), l = pre ++ post → ∀ nx : Ctr,
    RunsX Try.prog 0 (Gives [.t 6] (.bool true)) (i_z14z_0 ++ [.c c_z14z_k0]) (s_z14z_0 (qv l) (.func F_version_Same []) (qv l) (.int .i64 (l.length : Nat)) (.int .i64 (pre.length : Nat))) [] nx := by
  intro post
  induction post with
  | nil =>
    intro pre h1 nx
    rw [List.append_nil] at h1
    subst h1
    refine round (its := [.blk 0 wb_z14z_0]) (k0 := [.c c_z14z_k0]) 300 trivial trivial (fun A eA => ?_)
    simp (disch := first | omega | (simp only [avs_len, zz1, zz2, zz3, zz4, zz5, zz6]; omega) | (simp only [cells, scal1, allSz, zz1, zz3, zz2, zz6, zz7, zz8, avs_len, zz9, zz10, zz11, zz12, zz13, reduceCtorEq, *]; done) | fail) only [c_z14z, wl_z14z_0, s_z14z_0, c_z14z_l0, wb_z14z_0, c_z14z_k0, go_sem, eA, scal1]
    refine walk0 (its := [.c c_z14z_k0]) 300 trivial (fun A eA => ?_)
    simp (disch := first | omega | (simp only [avs_len, zz1, zz2, zz3, zz4, zz5, zz6]; omega) | (simp only [cells, scal1, allSz, zz1, zz3, zz2, zz6, zz7, zz8, avs_len, zz9, zz10, zz11, zz12, zz13, reduceCtorEq, *]; done) | fail) only [c_z14z, wl_z14z_0, s_z14z_0, c_z14z_l0, wb_z14z_0, c_z14z_k0, go_sem, eA, scal1]
    exact doneG rfl
  | cons a post ih =>
    intro pre h1 nx
    have hlt : pre.length < l.length := by rw [h1]; simp
    have ham : a ∈ l := by rw [h1]; simp
    have ih := fun nx => ih (pre ++ [a]) (by rw [h1]; simp) nx
    rw [show (pre ++ [a]).length = pre.length + 1 by simp] at ih
    have g0 : (l.map vv)[((pre.length : Nat) : Int).toNat]? = some (vv a) := by
      rw [zz16, h1, List.getElem?_map, List.getElem?_append_right (Nat.le_refl _), Nat.sub_self]; rfl
    have w1 : IntKind.i64.wrap ((pre.length : Int) + 1) = ((pre.length + 1 : Nat) : Int) := by rw [wrap64 (by omega) (by omega)]; omega
    refine round (its := [.blk 0 wb_z14z_0]) (k0 := [.c c_z14z_k0]) 300 trivial trivial (fun A eA => ?_)
    simp (disch := first | omega | (simp only [avs_len, zz1, zz2, zz3, zz4, zz5, zz6]; omega) | (simp only [cells, scal1, allSz, zz1, zz3, zz2, zz6, zz7, zz8, avs_len, zz9, zz10, zz11, zz12, zz13, reduceCtorEq, *]; done) | fail) only [c_z14z, wl_z14z_0, s_z14z_0, c_z14z_l0, wb_z14z_0, c_z14z_k0, go_sem, eA, scal1, ↓optI_of g0, w1, List.all_cons, List.all_nil]
    refine call0 300 trivial trivial (same_self (hv a ham)) (.inl rfl) (fun A eA => ?_)
    simp (disch := first | omega | (simp only [avs_len, zz1, zz2, zz3, zz4, zz5, zz6]; omega) | (simp only [cells, scal1, allSz, zz1, zz3, zz2, zz6, zz7, zz8, avs_len, zz9, zz10, zz11, zz12, zz13, reduceCtorEq, *]; done) | fail) only [c_z14z, wl_z14z_0, s_z14z_0, c_z14z_l0, wb_z14z_0, c_z14z_k0, go_sem, eA, scal1, w1]
    exact ih _
theorem sameall_calls (l : List Ver) (hl : l.length ≤ 1000) (hv : ∀ v ∈ l, XRt v.event) : PCalls Try.prog F_version_SameAll [qv l, qv l] (.bool true) := by
  have c1 : PCalls Try.prog F_z14z [qv l, qv l, .func F_version_Same []] (.bool true) := by
    refine calls_z14z (walk0 300 trivial (fun A eA => ?_))
    simp (disch := first | omega | (simp only [avs_len, zz1, zz2, zz3, zz4, zz5, zz6]; omega) | (simp only [cells, scal1, allSz, zz1, zz3, zz2, zz6, zz7, zz8, avs_len, zz9, zz10, zz11, zz12, zz13, reduceCtorEq, *]; done) | fail) only [c_z14z, wl_z14z_0, s_z14z_0, c_z14z_l0, wb_z14z_0, c_z14z_k0, go_sem, eA, scal1, List.length_map]
    exact eqf_loop l hl hv l [] rfl _
  refine calls_version_SameAll (walk0 300 trivial (fun A eA => ?_))
  simp (disch := first | omega | (simp only [avs_len, zz1, zz2, zz3, zz4, zz5, zz6]; omega) | (simp only [cells, scal1, allSz, zz1, zz3, zz2, zz6, zz7, zz8, avs_len, zz9, zz10, zz11, zz12, zz13, reduceCtorEq, *]; done) | fail) only [c_version_SameAll, go_sem, eA, scal1]
  refine call0 300 trivial trivial c1 (.inl rfl) (fun A eA => ?_)
  simp (disch := first | omega | (simp only [avs_len, zz1, zz2, zz3, zz4, zz5, zz6]; omega) | (simp only [cells, scal1, allSz, zz1, zz3, zz2, zz6, zz7, zz8, avs_len, zz9, zz10, zz11, zz12, zz13, reduceCtorEq, *]; done) | fail) only [c_version_SameAll, go_sem, eA, scal1]
  exact doneG rfl
theorem vsame_iff (a b : Ver) : (vhead a b && xteq a.event b.event) = cdec (a = b) := by
  by_cases h : a = b
  · subst h
    rw [cdec_t rfl, xteq_true.2 rfl, show vhead a a = true from cdec_t ⟨rfl, rfl, rfl, rfl, rfl⟩]; rfl
  · rw [cdec_f h, Bool.eq_false_iff]
    intro e
    rw [Bool.and_eq_true, xteq_true] at e
    have e1 : a.client = b.client ∧ a.token = b.token ∧ a.key = b.key ∧ a.value = b.value ∧ a.gone = b.gone := by
      by_cases q : a.client = b.client ∧ a.token = b.token ∧ a.key = b.key ∧ a.value = b.value ∧ a.gone = b.gone
      · exact q
      · have := e.1; rw [vhead, cdec_f q] at this; cases this
    apply h
    obtain ⟨q1, q2, q3, q4, q5⟩ := e1
    cases a; cases b; simp only at *; subst q1 q2 q3 q4 q5; rw [e.2]
theorem vsa_loop (X Y : List Ver) (hXY : X.length = Y.length) (hl : X.length ≤ 1000) (hs : ∀ v ∈ X, v.event.size < 2 ^ 60) : ∀ (pX pY preX preY : List Ver), X = preX ++ pX → Y = preY ++ pY → preX.length = preY.length → ∀ nx : Ctr,
    RunsX Try.prog 0 (Gives [.t 4] (.bool (cdec (pX = pY)))) (i_z21z_0 ++ [.c c_z21z_k0]) (s_z21z_0 (qv X) (qv Y) (.int .i64 (X.length : Nat)) (.int .i64 (preX.length : Nat))) [] nx := by
  intro pX
  induction pX with
  | nil =>
    intro pY preX preY h1 h2 h3 nx
    have hp : pY = [] := by
      rw [List.append_nil] at h1
      have := congrArg List.length h2
      rw [List.length_append, ← hXY, h1, h3] at this
      exact List.eq_nil_of_length_eq_zero (by omega)
    subst hp
    rw [List.append_nil] at h1
    subst h1
    rw [cdec_t rfl]
    refine round (its := [.blk 0 wb_z21z_0]) (k0 := [.c c_z21z_k0]) 300 trivial trivial (fun A eA => ?_)
    simp (disch := first | omega | (simp only [avs_len, zz1, zz2, zz3, zz4, zz5, zz6]; omega) | (simp only [cells, scal1, allSz, zz1, zz3, zz2, zz6, zz7, zz8, avs_len, zz9, zz10, zz11, zz12, zz13, reduceCtorEq, *]; done) | fail) only [c_z21z, wl_z21z_0, s_z21z_0, c_z21z_l0, wb_z21z_0, c_z21z_k0, go_sem, eA, scal1]
    refine walk0 (its := [.c c_z21z_k0]) 300 trivial (fun A eA => ?_)
    simp (disch := first | omega | (simp only [avs_len, zz1, zz2, zz3, zz4, zz5, zz6]; omega) | (simp only [cells, scal1, allSz, zz1, zz3, zz2, zz6, zz7, zz8, avs_len, zz9, zz10, zz11, zz12, zz13, reduceCtorEq, *]; done) | fail) only [c_z21z, wl_z21z_0, s_z21z_0, c_z21z_l0, wb_z21z_0, c_z21z_k0, go_sem, eA, scal1]
    exact doneG rfl
  | cons a pX ih =>
    intro pY preX preY h1 h2 h3 nx
    cases pY with
    | nil =>
      exfalso
      have e1 := congrArg List.length h1
      have e2 := congrArg List.length h2
      simp at e1 e2; omega
    | cons b pY =>
      have hlt : preX.length < X.length := by rw [h1]; simp
      have ham : a ∈ X := by rw [h1]; simp
      have ih := fun nx => ih pY (preX ++ [a]) (preY ++ [b]) (by rw [h1]; simp) (by rw [h2]; simp) (by simp [h3]) nx
      rw [show (preX ++ [a]).length = preX.length + 1 by simp] at ih
      have g0 : (X.map vv)[((preX.length : Nat) : Int).toNat]? = some (vv a) := by
        rw [zz16, h1, List.getElem?_map, List.getElem?_append_right (Nat.le_refl _), Nat.sub_self]; rfl
      have g1 : (Y.map vv)[((preX.length : Nat) : Int).toNat]? = some (vv b) := by
        rw [h3, zz16, h2, List.getElem?_map, List.getElem?_append_right (Nat.le_refl _), Nat.sub_self]; rfl
      have w1 : IntKind.i64.wrap ((preX.length : Int) + 1) = ((preX.length + 1 : Nat) : Int) := by rw [wrap64 (by omega) (by omega)]; omega
      have c1 := refVSame_calls a b (hs a ham)
      rw [vsame_iff] at c1
      refine round (its := [.blk 0 wb_z21z_0]) (k0 := [.c c_z21z_k0]) 300 trivial trivial (fun A eA => ?_)
      simp (disch := first | omega | (simp only [avs_len, zz1, zz2, zz3, zz4, zz5, zz6]; omega) | (simp only [cells, scal1, allSz, zz1, zz3, zz2, zz6, zz7, zz8, avs_len, zz9, zz10, zz11, zz12, zz13, reduceCtorEq, *]; done) | fail) only [c_z21z, wl_z21z_0, s_z21z_0, c_z21z_l0, wb_z21z_0, c_z21z_k0, go_sem, eA, scal1, ↓optI_of g0, ↓optI_of g1, w1]
      refine call0 300 trivial trivial c1 (.inl rfl) (fun A eA => ?_)
      by_cases hab : a = b
      · subst hab
        have e : cdec (a :: pX = a :: pY) = cdec (pX = pY) := by
          by_cases q : pX = pY
          · rw [cdec_t q, cdec_t (by rw [q])]
          · rw [cdec_f q, cdec_f (by simpa using q)]
        rw [e, cdec_t rfl]
        simp (disch := first | omega | (simp only [avs_len, zz1, zz2, zz3, zz4, zz5, zz6]; omega) | (simp only [cells, scal1, allSz, zz1, zz3, zz2, zz6, zz7, zz8, avs_len, zz9, zz10, zz11, zz12, zz13, reduceCtorEq, *]; done) | fail) only [c_z21z, wl_z21z_0, s_z21z_0, c_z21z_l0, wb_z21z_0, c_z21z_k0, go_sem, eA, scal1, w1]
        exact ih _
      · rw [cdec_f hab, cdec_f (show ¬ a :: pX = b :: pY from fun e => hab (by simp at e; exact e.1))]
        simp (disch := first | omega | (simp only [avs_len, zz1, zz2, zz3, zz4, zz5, zz6]; omega) | (simp only [cells, scal1, allSz, zz1, zz3, zz2, zz6, zz7, zz8, avs_len, zz9, zz10, zz11, zz12, zz13, reduceCtorEq, *]; done) | fail) only [c_z21z, wl_z21z_0, s_z21z_0, c_z21z_l0, wb_z21z_0, c_z21z_k0, go_sem, eA, scal1, w1]
        exact doneG rfl
theorem vsa_calls (X Y : List Ver) (hl : X.length ≤ 1000) (hs : ∀ v ∈ X, v.event.size < 2 ^ 60) : PCalls Try.prog F_z21z [qv X, qv Y] (.bool (cdec (X = Y))) := by
  refine calls_z21z (walk0 300 trivial (fun A eA => ?_))
  by_cases h : X.length = Y.length
  · simp (disch := first | omega | (simp only [avs_len, zz1, zz2, zz3, zz4, zz5, zz6]; omega) | (simp only [cells, scal1, allSz, zz1, zz3, zz2, zz6, zz7, zz8, avs_len, zz9, zz10, zz11, zz12, zz13, reduceCtorEq, *]; done) | fail) only [c_z21z, wl_z21z_0, s_z21z_0, c_z21z_l0, wb_z21z_0, c_z21z_k0, go_sem, eA, scal1, List.length_map, h]
    rw [← h]
    exact vsa_loop X Y h hl hs X Y [] [] rfl rfl rfl _
  · rw [cdec_f (fun e => h (by rw [e]))]
    simp (disch := first | omega | (simp only [avs_len, zz1, zz2, zz3, zz4, zz5, zz6]; omega) | (simp only [cells, scal1, allSz, zz1, zz3, zz2, zz6, zz7, zz8, avs_len, zz9, zz10, zz11, zz12, zz13, reduceCtorEq, *]; done) | fail) only [c_z21z, wl_z21z_0, s_z21z_0, c_z21z_l0, wb_z21z_0, c_z21z_k0, go_sem, eA, scal1, List.length_map]
    exact doneG rfl
theorem sib12_calls (l : List Ver) (hl : l.length ≤ 49) (hs : ∀ v ∈ l, v.event.size < 2 ^ 32) : PCalls Try.prog F_ref12_Siblings [qv l] (.bool (sibB l)) := by
  have c1 := refone_calls l (by omega) hs
  unfold sibB
  refine calls_ref12_Siblings (walk0 300 trivial (fun A eA => ?_))
  simp (disch := first | omega | (simp only [avs_len, zz1, zz2, zz3, zz4, zz5, zz6]; omega) | (simp only [cells, scal1, allSz, zz1, zz3, zz2, zz6, zz7, zz8, avs_len, zz9, zz10, zz11, zz12, zz13, reduceCtorEq, *]; done) | fail) only [c_ref12_Siblings, go_sem, eA, scal1]
  refine call0 300 trivial trivial c1 (.inl rfl) (fun A eA => ?_)
  cases ho : oneB l with
  | false =>
    rw [Bool.false_and, Bool.false_and]
    simp (disch := first | omega | (simp only [avs_len, zz1, zz2, zz3, zz4, zz5, zz6]; omega) | (simp only [cells, scal1, allSz, zz1, zz3, zz2, zz6, zz7, zz8, avs_len, zz9, zz10, zz11, zz12, zz13, reduceCtorEq, *]; done) | fail) only [c_ref12_Siblings, go_sem, eA, scal1]
    exact doneG rfl
  | true =>
    rw [Bool.true_and]
    by_cases h16 : l.length ≤ 16
    · rw [decide_eq_true h16, Bool.true_and]
      have c2 := rmerge_calls l hl (one_xrt ho)
      have c3 := vsa_calls (mrgL l) l (by have := mrg_len l; omega) (fun v hv => by have := hs v (mrg_mem hv).1; omega)
      have e : sibL l none l = cdec (mrgL l = l) := by
        by_cases q : mrgL l = l
        · rw [cdec_t q]; exact sib_mrg.2 q
        · rw [cdec_f q, Bool.eq_false_iff]; exact fun h => q (sib_mrg.1 h)
      rw [e]
      simp (disch := first | omega | (simp only [avs_len, zz1, zz2, zz3, zz4, zz5, zz6]; omega) | (simp only [cells, scal1, allSz, zz1, zz3, zz2, zz6, zz7, zz8, avs_len, zz9, zz10, zz11, zz12, zz13, reduceCtorEq, *]; done) | fail) only [c_ref12_Siblings, go_sem, eA, scal1, List.length_map]
      refine call0 300 trivial trivial c2 (.inl rfl) (fun A eA => ?_)
      simp (disch := first | omega | (simp only [avs_len, zz1, zz2, zz3, zz4, zz5, zz6]; omega) | (simp only [cells, scal1, allSz, zz1, zz3, zz2, zz6, zz7, zz8, avs_len, zz9, zz10, zz11, zz12, zz13, reduceCtorEq, *]; done) | fail) only [c_ref12_Siblings, go_sem, eA, scal1]
      refine call0 300 trivial trivial c3 (.inl rfl) (fun A eA => ?_)
      simp (disch := first | omega | (simp only [avs_len, zz1, zz2, zz3, zz4, zz5, zz6]; omega) | (simp only [cells, scal1, allSz, zz1, zz3, zz2, zz6, zz7, zz8, avs_len, zz9, zz10, zz11, zz12, zz13, reduceCtorEq, *]; done) | fail) only [c_ref12_Siblings, go_sem, eA, scal1]
      exact doneG rfl
    · rw [decide_eq_false h16, Bool.false_and]
      simp (disch := first | omega | (simp only [avs_len, zz1, zz2, zz3, zz4, zz5, zz6]; omega) | (simp only [cells, scal1, allSz, zz1, zz3, zz2, zz6, zz7, zz8, avs_len, zz9, zz10, zz11, zz12, zz13, reduceCtorEq, *]; done) | fail) only [c_ref12_Siblings, go_sem, eA, scal1, List.length_map]
      exact doneG rfl
end Go.Proofs.Ytmokhopjnjecbac
/- The law on versions: what is looked at, what a program that does nothing answers wrongly. -/
-- short
-- fuel 300
namespace Go.Proofs.Ytmokhopjnjecbac
open Go.Ev
set_option linter.unusedVariables false
set_option linter.unusedSimpArgs false
set_option maxRecDepth 100000
set_option maxHeartbeats 3200000
variable {R : List AV → Heap → Ctr → Prop} {k : List It} {H : Heap} {nx : Ctr} {φ : Nat}

def tab_xright : List (Nat × Cd × Nat × List RS) := [(F_event_Right, c_event_Right, 10, [.t 2]), (F_z28z, c_z28z, 48, [.t 4]), (F_event_leaf, c_event_leaf, 7, [.t 2]), (F_event_short, c_event_short, 47, [.t 2]), (F_event_Same, c_event_Same, 8, [.t 4]), (F_z35z, c_z35z, 47, [.t 6])]
theorem tok_xright : TabOk Try.prog (tabOf tab_xright) := tab_cons calls_event_Right hcalls_event_Right (tab_cons calls_z28z hcalls_z28z (tab_cons calls_event_leaf hcalls_event_leaf (tab_cons calls_event_short hcalls_event_short (tab_cons calls_event_Same hcalls_event_Same (tab_cons calls_z35z hcalls_z35z (tab_nil))))))
theorem vawake_calls : PCalls Try.prog F_law07_awake [] (.bool true) :=
  evalF_calls (T := tabOf (tab_CdVersion ++ tab_xright)) (n := 300) (tab_append tok_CdVersion tok_xright) (by kernel_rfl)
def fewL : Nat → List Ver → Bool
  | _, [] => true
  | i, v :: l => decide (i < 40) && decide (v.key.size ≤ 100) && decide (v.value.size ≤ 300) && decide (xlcnt 30 v.event ≤ 1000) && fewL (i + 1) l
theorem fewL_mem : ∀ {l : List Ver} {i : Nat}, fewL i l = true → l.length ≤ 40 - i ∧ ∀ v ∈ l, v.key.size ≤ 100 ∧ v.value.size ≤ 300 ∧ v.event.size ≤ 1000
  | [], i, _ => by simp
  | v :: l, i, h => by
    simp only [fewL, Bool.and_eq_true, decide_eq_true_eq] at h
    obtain ⟨h1, h2⟩ := fewL_mem h.2
    refine ⟨by simp only [List.length_cons]; omega, fun w hw => ?_⟩
    rcases List.mem_cons.1 hw with rfl | hw
    · have := xlcnt_size 30 w.event h.1.2
      exact ⟨h.1.1.1.2, h.1.1.2, by omega⟩
    · exact h2 w hw
theorem vv_get (l : List Ver) (i : Nat) : (l.map vv)[i]? = l[i]?.map vv := List.getElem?_map ..
theorem few_loop (l : List Ver) (c : Option Nat) (hl : l.length < 2 ^ 63) : ∀ (post pre : List Ver), l = pre ++ post → ∀ nx : Ctr,
    RunsX Try.prog 0 (Gives [.t 2] (.bool (fewL pre.length post))) (i_law07_Few_0 ++ [.c c_law07_Few_k0]) (s_law07_Few_0 (.fz 7 (l.map vv) c) (.int .i64 (l.length : Nat)) (.int .i64 (pre.length : Nat))) [] nx := by
  intro post
  induction post with
  | nil =>
    intro pre h1 nx
    have h5 : l.length = pre.length := by rw [h1]; simp
    refine round (its := [.blk 0 wb_law07_Few_0]) (k0 := [.c c_law07_Few_k0]) 300 trivial trivial (fun A eA => ?_)
    simp (disch := first | omega | (simp only [avs_len, zz1, zz2, zz3, zz4, zz5, zz6]; omega) | (simp only [cells, scal1, allSz, zz1, zz3, zz2, zz6, zz7, zz8, avs_len, zz9, zz10, zz11, zz12, zz13, reduceCtorEq, *]; done) | fail) only [c_law07_Few, wl_law07_Few_0, s_law07_Few_0, c_law07_Few_l0, wb_law07_Few_0, c_law07_Few_k0, go_sem, eA]
    refine walk0 (its := [.c c_law07_Few_k0]) 300 trivial (fun A eA => ?_)
    simp (disch := first | omega | (simp only [avs_len, zz1, zz2, zz3, zz4, zz5, zz6]; omega) | (simp only [cells, scal1, allSz, zz1, zz3, zz2, zz6, zz7, zz8, avs_len, zz9, zz10, zz11, zz12, zz13, reduceCtorEq, *]; done) | fail) only [c_law07_Few, wl_law07_Few_0, s_law07_Few_0, c_law07_Few_l0, wb_law07_Few_0, c_law07_Few_k0, go_sem, eA]
    exact doneG rfl
  | cons v post ih =>
    intro pre h1 nx
    have hlt : pre.length < l.length := by rw [h1]; simp
    have g0 : (List.map vv l)[pre.length]? = some (vv v) := by rw [vv_get, h1]; simp
    have w1 : IntKind.i64.wrap ((pre.length : Int) + 1) = ((pre.length + 1 : Nat) : Int) := by rw [IntKind.wrap_i64]; omega
    have hih := ih (pre ++ [v]) (by rw [h1]; simp) nx
    rw [show (pre ++ [v]).length = pre.length + 1 by simp] at hih
    have c := xFew_calls v.event
    simp only [fewL]
    refine round (its := [.blk 0 wb_law07_Few_0]) (k0 := [.c c_law07_Few_k0]) 300 trivial trivial (fun A eA => ?_)
    by_cases h1 : pre.length < 40
    case neg =>
      rw [decide_eq_false h1, Bool.false_and, Bool.false_and, Bool.false_and, Bool.false_and]
      simp (disch := first | omega | (simp only [avs_len, zz1, zz2, zz3, zz4, zz5, zz6]; omega) | (simp only [cells, scal1, allSz, zz1, zz3, zz2, zz6, zz7, zz8, avs_len, zz9, zz10, zz11, zz12, zz13, reduceCtorEq, *]; done) | fail) only [c_law07_Few, wl_law07_Few_0, s_law07_Few_0, c_law07_Few_l0, wb_law07_Few_0, c_law07_Few_k0, go_sem, eA]
      exact doneG rfl
    by_cases h2 : v.key.size ≤ 100
    case neg =>
      rw [decide_eq_false h2, Bool.and_false, Bool.false_and, Bool.false_and, Bool.false_and]
      simp (disch := first | omega | (simp only [avs_len, zz1, zz2, zz3, zz4, zz5, zz6]; omega) | (simp only [cells, scal1, allSz, zz1, zz3, zz2, zz6, zz7, zz8, avs_len, zz9, zz10, zz11, zz12, zz13, reduceCtorEq, *]; done) | fail) only [c_law07_Few, wl_law07_Few_0, s_law07_Few_0, c_law07_Few_l0, wb_law07_Few_0, c_law07_Few_k0, go_sem, eA, zz16, g0]
      exact doneG rfl
    by_cases h3 : v.value.size ≤ 300
    case neg =>
      rw [decide_eq_false h3, Bool.and_false, Bool.false_and, Bool.false_and]
      simp (disch := first | omega | (simp only [avs_len, zz1, zz2, zz3, zz4, zz5, zz6]; omega) | (simp only [cells, scal1, allSz, zz1, zz3, zz2, zz6, zz7, zz8, avs_len, zz9, zz10, zz11, zz12, zz13, reduceCtorEq, *]; done) | fail) only [c_law07_Few, wl_law07_Few_0, s_law07_Few_0, c_law07_Few_l0, wb_law07_Few_0, c_law07_Few_k0, go_sem, eA, zz16, g0]
      exact doneG rfl
    rw [decide_eq_true h1, decide_eq_true h2, decide_eq_true h3, Bool.true_and, Bool.true_and, Bool.true_and]
    by_cases h4 : xlcnt 30 v.event ≤ 1000
    · rw [decide_eq_true h4] at c ⊢
      rw [Bool.true_and]
      simp (disch := first | omega | (simp only [avs_len, zz1, zz2, zz3, zz4, zz5, zz6]; omega) | (simp only [cells, scal1, allSz, zz1, zz3, zz2, zz6, zz7, zz8, avs_len, zz9, zz10, zz11, zz12, zz13, reduceCtorEq, *]; done) | fail) only [c_law07_Few, wl_law07_Few_0, s_law07_Few_0, c_law07_Few_l0, wb_law07_Few_0, c_law07_Few_k0, go_sem, eA, zz16, g0, scal1, List.all_cons, List.all_nil, Bool.and_self]
      refine call0 300 trivial trivial c (.inl rfl) (fun A eA => ?_)
      simp (disch := first | omega | (simp only [avs_len, zz1, zz2, zz3, zz4, zz5, zz6]; omega) | (simp only [cells, scal1, allSz, zz1, zz3, zz2, zz6, zz7, zz8, avs_len, zz9, zz10, zz11, zz12, zz13, reduceCtorEq, *]; done) | fail) only [c_law07_Few, wl_law07_Few_0, s_law07_Few_0, c_law07_Few_l0, wb_law07_Few_0, c_law07_Few_k0, go_sem, eA, w1]
      exact hih
    · rw [decide_eq_false h4] at c ⊢
      rw [Bool.false_and]
      simp (disch := first | omega | (simp only [avs_len, zz1, zz2, zz3, zz4, zz5, zz6]; omega) | (simp only [cells, scal1, allSz, zz1, zz3, zz2, zz6, zz7, zz8, avs_len, zz9, zz10, zz11, zz12, zz13, reduceCtorEq, *]; done) | fail) only [c_law07_Few, wl_law07_Few_0, s_law07_Few_0, c_law07_Few_l0, wb_law07_Few_0, c_law07_Few_k0, go_sem, eA, zz16, g0, scal1, List.all_cons, List.all_nil, Bool.and_self]
      refine call0 300 trivial trivial c (.inl rfl) (fun A eA => ?_)
      simp (disch := first | omega | (simp only [avs_len, zz1, zz2, zz3, zz4, zz5, zz6]; omega) | (simp only [cells, scal1, allSz, zz1, zz3, zz2, zz6, zz7, zz8, avs_len, zz9, zz10, zz11, zz12, zz13, reduceCtorEq, *]; done) | fail) only [c_law07_Few, wl_law07_Few_0, s_law07_Few_0, c_law07_Few_l0, wb_law07_Few_0, c_law07_Few_k0, go_sem, eA, w1]
      exact doneG rfl
theorem vFew_calls (l : List Ver) (c : Option Nat) (hl : l.length < 2 ^ 63) : PCalls Try.prog F_law07_Few [.fz 7 (l.map vv) c] (.bool (fewL 0 l)) := by
  refine calls_law07_Few (walk0 300 trivial (fun A eA => ?_))
  simp (disch := first | omega | (simp only [avs_len, zz1, zz2, zz3, zz4, zz5, zz6]; omega) | (simp only [cells, scal1, allSz, zz1, zz3, zz2, zz6, zz7, zz8, avs_len, zz9, zz10, zz11, zz12, zz13, reduceCtorEq, *]; done) | fail) only [c_law07_Few, wl_law07_Few_0, s_law07_Few_0, c_law07_Few_l0, wb_law07_Few_0, c_law07_Few_k0, go_sem, eA, List.length_map]
  exact few_loop l c hl l [] rfl zeroC
end Go.Proofs.Ytmokhopjnjecbac
/- The functions' bodies, compiled; printed by a program of mine (gen.py); that they are is checked here. -/
namespace Go.Proofs.Ytmokhopjnjecbac
open Go.Ev
set_option maxRecDepth 100000

/-- pedlar/pedlarlaw07.VersionOrder: parameters [78, 5], results [.t 4], calls law07_awake, law07_Few, version_Merge, version_SameAll -/
def wl_law07_VersionOrder_2 : Mk := ⟨[false, false, true, true, true, false, true, true, true, true, true, true, true, true, true, true, true, true, true, true, true, true, true, true, true, true, true, true, false, false, true, true, false, false, true, true, true, true, true, true, true, true, true, true, true, true, true, true, true, true, true, true, true, true, true, true, true, true, true, true, true, true, true, true, true, true, true, true, true, true, true, true, true, true, true, true, true, true, true, true, true, true, true, true, true, true, true, true, true, true, true, true, true, true, true, true, true, true, true, true, true, true, true, true, true, true, true, true, true, true, true, true, true, true, true, true, true, true, true, true, true], []⟩
abbrev s_law07_VersionOrder_2 (t0 t1 t5 t28 t29 t32 t33 : AV) : List AV := [t0, t1, .any, .any, .any, t5, .any, .any, .any, .any, .any, .any, .any, .any, .any, .any, .any, .any, .any, .any, .any, .any, .any, .any, .any, .any, .any, .any, t28, t29, .any, .any, t32, t33, .any, .any, .any, .any, .any, .any, .any, .any, .any, .any, .any, .any, .any, .any, .any, .any, .any, .any, .any, .any, .any, .any, .any, .any, .any, .any, .any, .any, .any, .any, .any, .any, .any, .any, .any, .any, .any, .any, .any, .any, .any, .any, .any, .any, .any, .any, .any, .any, .any, .any, .any, .any, .any, .any, .any, .any, .any, .any, .any, .any, .any, .any, .any, .any, .any, .any, .any, .any, .any, .any, .any, .any, .any, .any, .any, .any, .any, .any, .any, .any, .any, .any, .any, .any, .any, .any, .any]
def c_law07_VersionOrder_l2 : Cd := (.seq (.reg [⟨some 34, none, (.bin .lss), [.t 33, .t 32]⟩]) (.seq (.cond (.t 34) .skip (.exit 2)) (.seq (.blk 3 [] (.seq (.reg [⟨some 35, none, .mv, [.t 33]⟩, ⟨some 6, none, .mv, [.t 35]⟩]) (.seq (.reg [⟨some 36, none, .mv, [.t 0]⟩, ⟨some 37, none, .mv, [.t 6]⟩, ⟨some 38, none, (.ixS 7), [.t 36, .t 37]⟩, ⟨some 39, none, (.fa 0), [.t 38]⟩, ⟨some 40, none, .ld1, [.t 39]⟩, ⟨some 41, none, .mv, [.t 0]⟩, ⟨some 42, none, .mv, [.t 5]⟩, ⟨some 43, none, (.ixS 7), [.t 41, .t 42]⟩, ⟨some 44, none, (.fa 0), [.t 43]⟩, ⟨some 45, none, .ld1, [.t 44]⟩, ⟨some 46, none, (.bin .eql), [.t 40, .t 45]⟩, ⟨some 47, none, .mv, [.t 46]⟩, ⟨some 48, (some (47, true)), .mv, [.t 0]⟩, ⟨some 49, (some (47, true)), .mv, [.t 6]⟩, ⟨some 50, (some (47, true)), (.ixS 7), [.t 48, .t 49]⟩, ⟨some 51, (some (47, true)), (.fa 1), [.t 50]⟩, ⟨some 52, (some (47, true)), .ld1, [.t 51]⟩, ⟨some 53, (some (47, true)), .mv, [.t 0]⟩, ⟨some 54, (some (47, true)), .mv, [.t 5]⟩, ⟨some 55, (some (47, true)), (.ixS 7), [.t 53, .t 54]⟩, ⟨some 56, (some (47, true)), (.fa 1), [.t 55]⟩, ⟨some 57, (some (47, true)), .ld1, [.t 56]⟩, ⟨some 58, (some (47, true)), (.bin .eql), [.t 52, .t 57]⟩, ⟨some 59, none, .pick, [.t 47, .t 58, .c (.bool false)]⟩]) (.cond (.t 59) (.seq (.reg [⟨some 4, none, .mv, [.c (.bool true)]⟩]) .ret) .skip)))) (.reg [⟨some 60, none, (.bin .add), [.t 33, .c (.int .i64 1)]⟩, ⟨some 33, none, .mv, [.t 60]⟩]))))
def wb_law07_VersionOrder_2 : List Bool := [false, false, true, true, true, true, true, true, true, true, true, true, true, true, true, true, true, true, true, true, true, true, true, true, true, true, true, true, false, false, true, true, true, true, true, true, true, true, true, true, true, true, true, true, true, true, true, true, true, true, true, true, true, true, true, true, true, true, true, true, true, true, true, true, true, true, true, true, true, true, true, true, true, true, true, true, true, true, true, true, true, true, true, true, true, true, true, true, true, true, true, true, true, true, true, true, true, true, true, true, true, true, true, true, true, true, true, true, true, true, true, true, true, true, true, true, true, true, true, true, true]
abbrev e_law07_VersionOrder_2 (t0 t1 t28 t29 : AV) : List AV := [t0, t1, .any, .any, .any, .any, .any, .any, .any, .any, .any, .any, .any, .any, .any, .any, .any, .any, .any, .any, .any, .any, .any, .any, .any, .any, .any, .any, t28, t29, .any, .any, .any, .any, .any, .any, .any, .any, .any, .any, .any, .any, .any, .any, .any, .any, .any, .any, .any, .any, .any, .any, .any, .any, .any, .any, .any, .any, .any, .any, .any, .any, .any, .any, .any, .any, .any, .any, .any, .any, .any, .any, .any, .any, .any, .any, .any, .any, .any, .any, .any, .any, .any, .any, .any, .any, .any, .any, .any, .any, .any, .any, .any, .any, .any, .any, .any, .any, .any, .any, .any, .any, .any, .any, .any, .any, .any, .any, .any, .any, .any, .any, .any, .any, .any, .any, .any, .any, .any, .any, .any]
abbrev i_law07_VersionOrder_2 : List It := [.lp wl_law07_VersionOrder_2 c_law07_VersionOrder_l2, .blk 2 wb_law07_VersionOrder_2]
def wb_law07_VersionOrder_1 : List Bool := [false, false, true, true, true, true, true, true, true, true, true, true, true, true, true, true, true, true, true, true, true, true, true, true, true, true, true, true, false, false, true, true, true, true, true, true, true, true, true, true, true, true, true, true, true, true, true, true, true, true, true, true, true, true, true, true, true, true, true, true, true, true, true, true, true, true, true, true, true, true, true, true, true, true, true, true, true, true, true, true, true, true, true, true, true, true, true, true, true, true, true, true, true, true, true, true, true, true, true, true, true, true, true, true, true, true, true, true, true, true, true, true, true, true, true, true, true, true, true, true, true]
abbrev e_law07_VersionOrder_1 (t0 t1 t28 t29 : AV) : List AV := [t0, t1, .any, .any, .any, .any, .any, .any, .any, .any, .any, .any, .any, .any, .any, .any, .any, .any, .any, .any, .any, .any, .any, .any, .any, .any, .any, .any, t28, t29, .any, .any, .any, .any, .any, .any, .any, .any, .any, .any, .any, .any, .any, .any, .any, .any, .any, .any, .any, .any, .any, .any, .any, .any, .any, .any, .any, .any, .any, .any, .any, .any, .any, .any, .any, .any, .any, .any, .any, .any, .any, .any, .any, .any, .any, .any, .any, .any, .any, .any, .any, .any, .any, .any, .any, .any, .any, .any, .any, .any, .any, .any, .any, .any, .any, .any, .any, .any, .any, .any, .any, .any, .any, .any, .any, .any, .any, .any, .any, .any, .any, .any, .any, .any, .any, .any, .any, .any, .any, .any, .any]
def c_law07_VersionOrder_k0 : Cd := (.reg [⟨some 61, none, (.bin .add), [.t 29, .c (.int .i64 1)]⟩, ⟨some 29, none, .mv, [.t 61]⟩])
def wl_law07_VersionOrder_0 : Mk := ⟨[false, false, true, true, true, true, true, true, true, true, true, true, true, true, true, true, true, true, true, true, true, true, true, true, true, true, true, true, false, false, true, true, true, true, true, true, true, true, true, true, true, true, true, true, true, true, true, true, true, true, true, true, true, true, true, true, true, true, true, true, true, true, true, true, true, true, true, true, true, true, true, true, true, true, true, true, true, true, true, true, true, true, true, true, true, true, true, true, true, true, true, true, true, true, true, true, true, true, true, true, true, true, true, true, true, true, true, true, true, true, true, true, true, true, true, true, true, true, true, true, true], []⟩
abbrev s_law07_VersionOrder_0 (t0 t1 t28 t29 : AV) : List AV := [t0, t1, .any, .any, .any, .any, .any, .any, .any, .any, .any, .any, .any, .any, .any, .any, .any, .any, .any, .any, .any, .any, .any, .any, .any, .any, .any, .any, t28, t29, .any, .any, .any, .any, .any, .any, .any, .any, .any, .any, .any, .any, .any, .any, .any, .any, .any, .any, .any, .any, .any, .any, .any, .any, .any, .any, .any, .any, .any, .any, .any, .any, .any, .any, .any, .any, .any, .any, .any, .any, .any, .any, .any, .any, .any, .any, .any, .any, .any, .any, .any, .any, .any, .any, .any, .any, .any, .any, .any, .any, .any, .any, .any, .any, .any, .any, .any, .any, .any, .any, .any, .any, .any, .any, .any, .any, .any, .any, .any, .any, .any, .any, .any, .any, .any, .any, .any, .any, .any, .any, .any]
def c_law07_VersionOrder_l0 : Cd := (.seq (.reg [⟨some 30, none, (.bin .lss), [.t 29, .t 28]⟩]) (.seq (.cond (.t 30) .skip (.exit 0)) (.seq (.blk 1 wb_law07_VersionOrder_1 (.seq (.reg [⟨some 31, none, .mv, [.t 29]⟩, ⟨some 5, none, .mv, [.t 31]⟩]) (.seq (.reg [⟨some 32, none, .mv, [.t 5]⟩, ⟨some 33, none, .mv, [.c (.int .i64 0)]⟩]) (.blk 2 wb_law07_VersionOrder_2 (.loop wl_law07_VersionOrder_2 c_law07_VersionOrder_l2))))) c_law07_VersionOrder_k0)))
def wb_law07_VersionOrder_0 : List Bool := [false, false, true, true, true, true, true, true, true, true, true, true, true, true, true, true, true, true, true, true, true, true, true, true, true, true, true, true, true, true, true, true, true, true, true, true, true, true, true, true, true, true, true, true, true, true, true, true, true, true, true, true, true, true, true, true, true, true, true, true, true, true, true, true, true, true, true, true, true, true, true, true, true, true, true, true, true, true, true, true, true, true, true, true, true, true, true, true, true, true, true, true, true, true, true, true, true, true, true, true, true, true, true, true, true, true, true, true, true, true, true, true, true, true, true, true, true, true, true, true, true]
abbrev e_law07_VersionOrder_0 (t0 t1 : AV) : List AV := [t0, t1, .any, .any, .any, .any, .any, .any, .any, .any, .any, .any, .any, .any, .any, .any, .any, .any, .any, .any, .any, .any, .any, .any, .any, .any, .any, .any, .any, .any, .any, .any, .any, .any, .any, .any, .any, .any, .any, .any, .any, .any, .any, .any, .any, .any, .any, .any, .any, .any, .any, .any, .any, .any, .any, .any, .any, .any, .any, .any, .any, .any, .any, .any, .any, .any, .any, .any, .any, .any, .any, .any, .any, .any, .any, .any, .any, .any, .any, .any, .any, .any, .any, .any, .any, .any, .any, .any, .any, .any, .any, .any, .any, .any, .any, .any, .any, .any, .any, .any, .any, .any, .any, .any, .any, .any, .any, .any, .any, .any, .any, .any, .any, .any, .any, .any, .any, .any, .any, .any, .any]
abbrev i_law07_VersionOrder_0 : List It := [.lp wl_law07_VersionOrder_0 c_law07_VersionOrder_l0, .blk 0 wb_law07_VersionOrder_0]
def c_law07_VersionOrder_k1 : Cd := (.seq (.reg [⟨some 62, none, .mv, [.t 1]⟩, ⟨some 63, none, (.conv .i64), [.t 62]⟩, ⟨some 64, none, .mv, [.t 0]⟩, ⟨some 65, none, .len, [.t 64]⟩, ⟨some 66, none, (.bin .rem), [.t 63, .t 65]⟩, ⟨some 7, none, .mv, [.t 66]⟩]) (.seq (.reg [⟨some 68, none, .mv, [.t 0]⟩, ⟨some 69, none, (.call F_z22z 1), [.t 68]⟩, ⟨some 67, none, .mv, [.t 69]⟩, ⟨some 70, none, (.ext 0), [.t 67]⟩, ⟨some 71, none, (.ext 1), [.t 67]⟩, ⟨some 8, none, .mv, [.t 70]⟩, ⟨some 9, none, .mv, [.t 71]⟩]) (.seq (.reg [⟨some 73, none, (.litr 7 0), []⟩, ⟨some 74, none, .mv, [.t 0]⟩, ⟨some 75, none, .mv, [.t 7]⟩, ⟨some 76, none, (.slc 7 true false false), [.t 74, .t 75]⟩, ⟨some 77, none, (.app 7 88 77), [.t 73, .t 76]⟩, ⟨some 78, none, .mv, [.t 0]⟩, ⟨some 79, none, .mv, [.t 7]⟩, ⟨some 80, none, (.slc 7 false true false), [.t 78, .t 79]⟩, ⟨some 81, none, (.app 7 88 81), [.t 77, .t 80]⟩, ⟨some 82, none, .mv, [.t 0]⟩, ⟨some 83, none, .mv, [.t 7]⟩, ⟨some 84, none, (.ixS 7), [.t 82, .t 83]⟩, ⟨some 85, none, (.ldnr 7), [.t 84]⟩, ⟨some 86, none, (.litr 7 1), [.t 85]⟩, ⟨some 87, none, (.app 7 88 87), [.t 81, .t 86]⟩, ⟨some 88, none, (.call F_z22z 1), [.t 87]⟩, ⟨some 72, none, .mv, [.t 88]⟩, ⟨some 89, none, (.ext 0), [.t 72]⟩, ⟨some 90, none, (.ext 1), [.t 72]⟩, ⟨some 10, none, .mv, [.t 89]⟩, ⟨some 11, none, .mv, [.t 90]⟩]) (.seq (.seq (.reg [⟨some 91, none, .mv, [.t 9]⟩, ⟨some 92, none, (.bin .neq), [.t 91, .c (.int .i64 0)]⟩, ⟨some 93, none, .mv, [.t 92]⟩, ⟨some 94, (some (93, false)), .mv, [.t 11]⟩, ⟨some 95, (some (93, false)), (.bin .neq), [.t 94, .c (.int .i64 0)]⟩, ⟨some 96, none, .pick, [.t 93, .c (.bool true), .t 95]⟩]) (.cond (.t 96) (.seq (.reg [⟨some 97, none, .mv, [.t 9]⟩, ⟨some 98, none, .mv, [.t 11]⟩, ⟨some 99, none, (.bin .eql), [.t 97, .t 98]⟩, ⟨some 4, none, .mv, [.t 99]⟩]) .ret) .skip)) (.seq (.reg [⟨some 101, none, (.lit 7 0), []⟩, ⟨some 102, none, .mv, [.t 8]⟩, ⟨some 103, none, (.app 7 88 103), [.t 101, .t 102]⟩, ⟨some 104, none, .mv, [.t 0]⟩, ⟨some 105, none, (.app 7 88 105), [.t 103, .t 104]⟩, ⟨some 106, none, (.call F_z22z 1), [.t 105]⟩, ⟨some 100, none, .mv, [.t 106]⟩, ⟨some 107, none, (.ext 0), [.t 100]⟩, ⟨some 108, none, (.ext 1), [.t 100]⟩, ⟨some 12, none, .mv, [.t 107]⟩, ⟨some 13, none, .mv, [.t 108]⟩]) (.seq (.reg [⟨some 109, none, .mv, [.t 8]⟩, ⟨some 110, none, .mv, [.t 10]⟩, ⟨some 111, none, (.call F_version_SameAll 0), [.t 109, .t 110]⟩, ⟨some 112, none, .mv, [.t 111]⟩, ⟨some 113, (some (112, true)), .mv, [.t 13]⟩, ⟨some 114, (some (112, true)), (.bin .eql), [.t 113, .c (.int .i64 0)]⟩, ⟨some 115, none, .pick, [.t 112, .t 114, .c (.bool false)]⟩, ⟨some 116, none, .mv, [.t 115]⟩, ⟨some 117, (some (116, true)), .mv, [.t 8]⟩, ⟨some 118, (some (116, true)), .mv, [.t 12]⟩, ⟨some 119, (some (116, true)), (.call F_version_SameAll 0), [.t 117, .t 118]⟩, ⟨some 120, none, .pick, [.t 116, .t 119, .c (.bool false)]⟩, ⟨some 4, none, .mv, [.t 120]⟩]) .ret))))))
def c_law07_VersionOrder : Cd := (.seq (.reg [⟨some 4, none, .mv, [.c (.bool false)]⟩]) (.seq (.seq (.reg [⟨some 14, none, (.call F_law07_awake 0), []⟩, ⟨some 15, none, .not, [.t 14]⟩, ⟨some 16, none, .mv, [.t 15]⟩, ⟨some 17, (some (16, false)), .mv, [.t 0]⟩, ⟨some 18, (some (16, false)), (.call F_law07_Few 0), [.t 17]⟩, ⟨some 19, (some (16, false)), .not, [.t 18]⟩, ⟨some 20, none, .pick, [.t 16, .c (.bool true), .t 19]⟩, ⟨some 21, none, .mv, [.t 20]⟩, ⟨some 22, (some (21, false)), .mv, [.t 0]⟩, ⟨some 23, (some (21, false)), .len, [.t 22]⟩, ⟨some 24, (some (21, false)), (.bin .eql), [.t 23, .c (.int .i64 0)]⟩, ⟨some 25, none, .pick, [.t 21, .c (.bool true), .t 24]⟩]) (.cond (.t 25) (.seq (.reg [⟨some 26, none, (.call F_law07_awake 0), []⟩, ⟨some 4, none, .mv, [.t 26]⟩]) .ret) .skip)) (.seq (.seq (.reg [⟨some 27, none, .mv, [.t 0]⟩, ⟨some 28, none, .len, [.t 27]⟩, ⟨some 29, none, .mv, [.c (.int .i64 0)]⟩]) (.blk 0 wb_law07_VersionOrder_0 (.loop wl_law07_VersionOrder_0 c_law07_VersionOrder_l0))) c_law07_VersionOrder_k1)))
theorem comp_law07_VersionOrder : compF Try.prog (mset [] [73, 85, 86] []) (cset [F_z22z] [] []) (wset [(2, wl_law07_VersionOrder_2, wb_law07_VersionOrder_2), (1, ⟨[], []⟩, wb_law07_VersionOrder_1), (0, wl_law07_VersionOrder_0, wb_law07_VersionOrder_0)] []) Try.f9 = some c_law07_VersionOrder := by kernel_rfl
theorem ok_law07_VersionOrder : fnOk Try.prog F_law07_VersionOrder = true := by kernel_rfl
theorem calls_law07_VersionOrder {args : List AV} {r : AV} (h : RunsX Try.prog 0 (Gives [.t 4] r) [.c c_law07_VersionOrder] (args ++ List.replicate (121 - args.length) (.tup [])) [] zeroC) : PCalls Try.prog F_law07_VersionOrder args r :=
  pcallsF Try.checked.mixed Try.func9 ok_law07_VersionOrder comp_law07_VersionOrder rfl (rs := [.t 4]) (by kernel_rfl) h
theorem hcalls_law07_VersionOrder {args : List AV} {Hin Hout : Heap} {nx nx2 : Ctr} {r : AV} (φ : Nat) (ks : List (Nat × Nat)) (h : RunsX Try.prog φ (GivesH ks [.t 4] r Hout nx2) [.c c_law07_VersionOrder] (args ++ List.replicate (121 - args.length) (.tup [])) Hin nx) : HCalls Try.prog F_law07_VersionOrder args Hin nx r Hout nx2 :=
  hcallsF Try.checked.mixed Try.func9 ok_law07_VersionOrder comp_law07_VersionOrder rfl (rs := [.t 4]) (by kernel_rfl) φ ks h

def tab_CdVOrd : List (Nat × Cd × Nat × List RS) := [(F_law07_VersionOrder, c_law07_VersionOrder, 121, [.t 4])]
theorem tok_CdVOrd : TabOk Try.prog (tabOf tab_CdVOrd) := tab_cons calls_law07_VersionOrder hcalls_law07_VersionOrder (tab_nil)
end Go.Proofs.Ytmokhopjnjecbac
/- The law VersionOrder: its loops, that look for names that are there twice. -/
-- short
-- fuel 300
namespace Go.Proofs.Ytmokhopjnjecbac
open Go.Ev
set_option linter.unusedVariables false
set_option linter.unusedSimpArgs false
set_option maxRecDepth 100000
set_option maxHeartbeats 3200000
def nameD (x y : Ver) : Prop := ¬ (x.client = y.client ∧ x.token = y.token)
theorem ord_inner (l : List Ver) (hl : l.length ≤ 1000) (a : Ver) (pa sa : List Ver) (hla : l = pa ++ a :: sa) (t1 : AV) {k : List It} (hk : flat k) : ∀ (post pre : List Ver), pa = pre ++ post → (∀ x ∈ pre, nameD x a) → ∀ nx : Ctr,
    ((∀ x ∈ pa, nameD x a) → ∀ nx, RunsX Try.prog 0 (Gives [.t 4] (.bool true)) k (e_law07_VersionOrder_2 (qv l) t1 (.int .i64 (l.length : Nat)) (.int .i64 (pa.length : Nat))) [] nx) →
    RunsX Try.prog 0 (Gives [.t 4] (.bool true)) (i_law07_VersionOrder_2 ++ k) (s_law07_VersionOrder_2 (qv l) t1 (.int .i64 (pa.length : Nat)) (.int .i64 (l.length : Nat)) (.int .i64 (pa.length : Nat)) (.int .i64 (pa.length : Nat)) (.int .i64 (pre.length : Nat))) [] nx := by
  have hka : (l.map vv)[((pa.length : Nat) : Int).toNat]? = some (vv a) := by
    rw [zz16, hla, List.getElem?_map, List.getElem?_append_right (Nat.le_refl _), Nat.sub_self]; rfl
  have hpl : pa.length < l.length := by rw [hla]; simp
  intro post
  induction post with
  | nil =>
    intro pre h1 hp nx h
    rw [List.append_nil] at h1
    subst h1
    refine round (its := [.blk 2 wb_law07_VersionOrder_2]) (k0 := k) 300 hk trivial (fun A eA => ?_)
    simp (disch := first | omega | (simp only [avs_len, zz1, zz2, zz3, zz4, zz5, zz6]; omega) | (simp only [cells, scal1, allSz, zz1, zz3, zz2, zz6, zz7, zz8, avs_len, zz9, zz10, zz11, zz12, zz13, reduceCtorEq, *]; done) | fail) only [c_law07_VersionOrder, wl_law07_VersionOrder_2, s_law07_VersionOrder_2, c_law07_VersionOrder_l2, wb_law07_VersionOrder_2, wb_law07_VersionOrder_1, c_law07_VersionOrder_k0, wl_law07_VersionOrder_0, s_law07_VersionOrder_0, c_law07_VersionOrder_l0, wb_law07_VersionOrder_0, c_law07_VersionOrder_k1, go_sem, eA, scal1]
    exact h hp _
  | cons x post ih =>
    intro pre h1 hp nx h
    have hlt : pre.length < pa.length := by rw [h1]; simp
    have g0 : (l.map vv)[((pre.length : Nat) : Int).toNat]? = some (vv x) := by
      rw [zz16, hla, h1, List.getElem?_map, List.append_assoc, List.getElem?_append_right (Nat.le_refl _), Nat.sub_self]; rfl
    have w1 : IntKind.i64.wrap ((pre.length : Int) + 1) = ((pre.length + 1 : Nat) : Int) := by rw [wrap64 (by omega) (by omega)]; omega
    refine round (its := [.blk 2 wb_law07_VersionOrder_2]) (k0 := k) 300 hk trivial (fun A eA => ?_)
    by_cases e1 : x.client = a.client
    · by_cases e2 : x.token = a.token
      · simp (disch := first | omega | (simp only [avs_len, zz1, zz2, zz3, zz4, zz5, zz6]; omega) | (simp only [cells, scal1, allSz, zz1, zz3, zz2, zz6, zz7, zz8, avs_len, zz9, zz10, zz11, zz12, zz13, reduceCtorEq, *]; done) | fail) only [c_law07_VersionOrder, wl_law07_VersionOrder_2, s_law07_VersionOrder_2, c_law07_VersionOrder_l2, wb_law07_VersionOrder_2, wb_law07_VersionOrder_1, c_law07_VersionOrder_k0, wl_law07_VersionOrder_0, s_law07_VersionOrder_0, c_law07_VersionOrder_l0, wb_law07_VersionOrder_0, c_law07_VersionOrder_k1, go_sem, eA, scal1, ↓optI_of g0, ↓optI_of hka, w1, List.all_cons, List.all_nil]
        exact doneG rfl
      · have ih := fun nx => ih (pre ++ [x]) (by rw [h1]; simp) (fun y hy => by rcases List.mem_append.1 hy with hy | hy; exact hp y hy; rw [List.mem_singleton] at hy; subst hy; exact fun q => e2 q.2) nx h
        rw [show (pre ++ [x]).length = pre.length + 1 by simp] at ih
        simp (disch := first | omega | (simp only [avs_len, zz1, zz2, zz3, zz4, zz5, zz6]; omega) | (simp only [cells, scal1, allSz, zz1, zz3, zz2, zz6, zz7, zz8, avs_len, zz9, zz10, zz11, zz12, zz13, reduceCtorEq, *]; done) | fail) only [c_law07_VersionOrder, wl_law07_VersionOrder_2, s_law07_VersionOrder_2, c_law07_VersionOrder_l2, wb_law07_VersionOrder_2, wb_law07_VersionOrder_1, c_law07_VersionOrder_k0, wl_law07_VersionOrder_0, s_law07_VersionOrder_0, c_law07_VersionOrder_l0, wb_law07_VersionOrder_0, c_law07_VersionOrder_k1, go_sem, eA, scal1, ↓optI_of g0, ↓optI_of hka, w1, List.all_cons, List.all_nil]
        exact ih _
    · have ih := fun nx => ih (pre ++ [x]) (by rw [h1]; simp) (fun y hy => by rcases List.mem_append.1 hy with hy | hy; exact hp y hy; rw [List.mem_singleton] at hy; subst hy; exact fun q => e1 q.1) nx h
      rw [show (pre ++ [x]).length = pre.length + 1 by simp] at ih
      simp (disch := first | omega | (simp only [avs_len, zz1, zz2, zz3, zz4, zz5, zz6]; omega) | (simp only [cells, scal1, allSz, zz1, zz3, zz2, zz6, zz7, zz8, avs_len, zz9, zz10, zz11, zz12, zz13, reduceCtorEq, *]; done) | fail) only [c_law07_VersionOrder, wl_law07_VersionOrder_2, s_law07_VersionOrder_2, c_law07_VersionOrder_l2, wb_law07_VersionOrder_2, wb_law07_VersionOrder_1, c_law07_VersionOrder_k0, wl_law07_VersionOrder_0, s_law07_VersionOrder_0, c_law07_VersionOrder_l0, wb_law07_VersionOrder_0, c_law07_VersionOrder_k1, go_sem, eA, scal1, ↓optI_of g0, ↓optI_of hka, w1, List.all_cons, List.all_nil]
      exact ih _
theorem ord_outer (l : List Ver) (hl : l.length ≤ 1000) (t1 : AV) : ∀ (post pre : List Ver), l = pre ++ post → pre.Pairwise nameD → ∀ nx : Ctr,
    (l.Pairwise nameD → ∀ nx, RunsX Try.prog 0 (Gives [.t 4] (.bool true)) [.c c_law07_VersionOrder_k1] (e_law07_VersionOrder_0 (qv l) t1) [] nx) →
    RunsX Try.prog 0 (Gives [.t 4] (.bool true)) (i_law07_VersionOrder_0 ++ [.c c_law07_VersionOrder_k1]) (s_law07_VersionOrder_0 (qv l) t1 (.int .i64 (l.length : Nat)) (.int .i64 (pre.length : Nat))) [] nx := by
  intro post
  induction post with
  | nil =>
    intro pre h1 hp nx h
    rw [List.append_nil] at h1
    subst h1
    refine round (its := [.blk 0 wb_law07_VersionOrder_0]) (k0 := [.c c_law07_VersionOrder_k1]) 300 trivial trivial (fun A eA => ?_)
    simp (disch := first | omega | (simp only [avs_len, zz1, zz2, zz3, zz4, zz5, zz6]; omega) | (simp only [cells, scal1, allSz, zz1, zz3, zz2, zz6, zz7, zz8, avs_len, zz9, zz10, zz11, zz12, zz13, reduceCtorEq, *]; done) | fail) only [c_law07_VersionOrder, wl_law07_VersionOrder_2, s_law07_VersionOrder_2, c_law07_VersionOrder_l2, wb_law07_VersionOrder_2, wb_law07_VersionOrder_1, c_law07_VersionOrder_k0, wl_law07_VersionOrder_0, s_law07_VersionOrder_0, c_law07_VersionOrder_l0, wb_law07_VersionOrder_0, c_law07_VersionOrder_k1, go_sem, eA, scal1]
    exact h hp _
  | cons a post ih =>
    intro pre h1 hp nx h
    have hlt : pre.length < l.length := by rw [h1]; simp
    have w1 : IntKind.i64.wrap ((pre.length : Int) + 1) = ((pre.length + 1 : Nat) : Int) := by rw [wrap64 (by omega) (by omega)]; omega
    refine round (its := [.blk 0 wb_law07_VersionOrder_0]) (k0 := [.c c_law07_VersionOrder_k1]) 300 trivial trivial (fun A eA => ?_)
    simp (disch := first | omega | (simp only [avs_len, zz1, zz2, zz3, zz4, zz5, zz6]; omega) | (simp only [cells, scal1, allSz, zz1, zz3, zz2, zz6, zz7, zz8, avs_len, zz9, zz10, zz11, zz12, zz13, reduceCtorEq, *]; done) | fail) only [c_law07_VersionOrder, wl_law07_VersionOrder_2, s_law07_VersionOrder_2, c_law07_VersionOrder_l2, wb_law07_VersionOrder_2, wb_law07_VersionOrder_1, c_law07_VersionOrder_k0, wl_law07_VersionOrder_0, s_law07_VersionOrder_0, c_law07_VersionOrder_l0, wb_law07_VersionOrder_0, c_law07_VersionOrder_k1, go_sem, eA, scal1]
    refine ord_inner l hl a pre post h1 t1 (k := .blk 1 wb_law07_VersionOrder_1 :: .c c_law07_VersionOrder_k0 :: .lp wl_law07_VersionOrder_0 c_law07_VersionOrder_l0 :: .blk 0 wb_law07_VersionOrder_0 :: [.c c_law07_VersionOrder_k1]) trivial pre [] rfl (fun x hx => by cases hx) _ (fun hd nx => ?_)
    have ih := fun nx => ih (pre ++ [a]) (by rw [h1]; simp) (by rw [List.pairwise_append]; exact ⟨hp, List.pairwise_singleton _ _, fun x hx y hy => by rw [List.mem_singleton] at hy; subst hy; exact hd x hx⟩) nx h
    rw [show (pre ++ [a]).length = pre.length + 1 by simp] at ih
    refine walk (its := [.blk 1 wb_law07_VersionOrder_1, .c c_law07_VersionOrder_k0, .lp wl_law07_VersionOrder_0 c_law07_VersionOrder_l0, .blk 0 wb_law07_VersionOrder_0]) (k0 := [.c c_law07_VersionOrder_k1]) 300 trivial trivial (fun A eA => ?_)
    simp (disch := first | omega | (simp only [avs_len, zz1, zz2, zz3, zz4, zz5, zz6]; omega) | (simp only [cells, scal1, allSz, zz1, zz3, zz2, zz6, zz7, zz8, avs_len, zz9, zz10, zz11, zz12, zz13, reduceCtorEq, *]; done) | fail) only [c_law07_VersionOrder, wl_law07_VersionOrder_2, s_law07_VersionOrder_2, c_law07_VersionOrder_l2, wb_law07_VersionOrder_2, wb_law07_VersionOrder_1, c_law07_VersionOrder_k0, wl_law07_VersionOrder_0, s_law07_VersionOrder_0, c_law07_VersionOrder_l0, wb_law07_VersionOrder_0, c_law07_VersionOrder_k1, go_sem, eA, scal1, w1]
    exact ih _
end Go.Proofs.Ytmokhopjnjecbac
/- The law VersionOrder, walked. -/
-- short
-- fuel 300
namespace Go.Proofs.Ytmokhopjnjecbac
open Go.Ev
set_option linter.unusedVariables false
set_option linter.unusedSimpArgs false
set_option maxRecDepth 100000
set_option maxHeartbeats 3200000
theorem names_eq {l : List Ver} (h : l.Pairwise nameD) : ∀ x ∈ l, ∀ y ∈ l, nmB ltV x y = true → x = y := by
  intro x hx y hy hn
  have hz : x.client = y.client ∧ x.token = y.token := by
    rw [nm_ord, decide_eq_true_eq, ordZ_zero] at hn; exact hn
  obtain ⟨i, hi, rfl⟩ := List.mem_iff_getElem.1 hx
  obtain ⟨j, hj, rfl⟩ := List.mem_iff_getElem.1 hy
  have hp := List.pairwise_iff_getElem.1 h
  rcases Nat.lt_trichotomy i j with q | q | q
  · exact absurd hz (hp i j hi hj q)
  · subst q; rfl
  · exact absurd ⟨hz.1.symm, hz.2.symm⟩ (hp j i hj hi q)
theorem mrgR_same {l l' : List Ver} (h : ∀ x, x ∈ l ↔ x ∈ l') (hn : ∀ x ∈ l, ∀ y ∈ l, nmB ltV x y = true → x = y) : mrgR l = mrgR l' := by
  have ho : oneB l = oneB l' := by
    cases h1 : oneB l' with
    | true => exact one_sub (fun x hx => (h x).1 hx) h1
    | false =>
      cases h2 : oneB l with
      | false => rfl
      | true => rw [one_sub (fun x hx => (h x).2 hx) h2] at h1; cases h1
  unfold mrgR
  rw [ho, mrg_same h hn]
theorem order_end (l : List Ver) (hl : l.length ≤ 40) (hne : 0 < l.length) (turn : Nat) (ht : turn < 256) (hd : l.Pairwise nameD) (nx : Ctr) :
    RunsX Try.prog 0 (Gives [.t 4] (.bool true)) [.c c_law07_VersionOrder_k1] (e_law07_VersionOrder_0 (qv l) (.int .u8 (turn : Nat))) [] nx := by
  obtain ⟨kn, hkn⟩ : ∃ kn, kn = turn % l.length := ⟨_, rfl⟩
  have hlt : kn < l.length := by rw [hkn]; exact Nat.mod_lt _ hne
  have wr : ((turn : Nat) : Int).tmod (l.length : Nat) = ((kn : Nat) : Int) := by rw [Int.tmod_eq_emod_of_nonneg (by omega), hkn, Int.natCast_emod]
  have wt : IntKind.i64.wrap ((turn : Nat) : Int) = ((turn : Nat) : Int) := wrap64 (by omega) (by omega)
  have hz : ¬ ((l.length : Nat) : Int) = 0 := by omega
  have hnm := names_eq hd
  have hml := mrg_len l
  have cm := vmerge_calls l (by omega) (by omega)
  -- the other order
  obtain ⟨a, ha⟩ : ∃ a, l[kn]? = some a := ⟨l[kn], List.getElem?_eq_getElem hlt⟩
  have hka : (l.map vv)[((kn : Nat) : Int).toNat]? = some (vv a) := by rw [zz16, List.getElem?_map, ha]; rfl
  have hTl : (l.map vv).take l.length = l.map vv := List.take_of_length_le (by simp)
  have hX : (l.map vv).drop kn = (l.drop kn).map vv := by rw [List.map_drop]
  have hY : (l.map vv).take kn = (l.take kn).map vv := by rw [List.map_take]
  have lX : (l.drop kn).length = l.length - kn := List.length_drop
  have lY : (l.take kn).length = kn := by rw [List.length_take]; omega
  have hB : ∀ x, x ∈ l ↔ x ∈ l.drop kn ++ l.take kn ++ [a] := by
    intro x
    simp only [List.mem_append, List.mem_singleton]
    constructor
    · intro hx
      rw [← List.take_append_drop kn l] at hx
      rcases List.mem_append.1 hx with hx | hx
      · exact .inl (.inr hx)
      · exact .inl (.inl hx)
    · rintro ((hx | hx) | rfl)
      · exact List.mem_of_mem_drop hx
      · exact List.mem_of_mem_take hx
      · exact List.mem_of_getElem? ha
  have cb := vmerge_calls (l.drop kn ++ l.take kn ++ [a]) (by simp; omega) (by rw [← mrg_same hB hnm]; omega)
  rw [← mrgR_same hB hnm] at cb
  -- and with what stays ahead
  have hC : ∀ x, x ∈ l ↔ x ∈ mrgL l ++ l := by
    intro x
    simp only [List.mem_append]
    exact ⟨fun hx => .inr hx, fun hx => hx.elim (fun h => (mrg_mem h).1) id⟩
  have cc := vmerge_calls (mrgL l ++ l) (by simp; omega) (by rw [← mrg_same hC hnm]; omega)
  rw [← mrgR_same hC hnm] at cc
  have hmr : mrgR l = .tup [qv [], .int .i64 1] ∨ mrgR l = .tup [qv [], .int .i64 11] ∨ (mrgR l = .tup [qv (mrgL l), .int .i64 0] ∧ oneB l = true) := by
    unfold mrgR
    cases ho : oneB l with
    | false => exact .inl (if_pos rfl)
    | true =>
      rw [if_neg (by simp)]
      split
      · exact .inr (.inl rfl)
      · exact .inr (.inr ⟨rfl, rfl⟩)
  have qX := qcat_cat (l.drop kn)
  have qlX := qcat_len (l.drop kn)
  have qY := qcat_cat (l.take kn)
  rw [lX] at qlX
  have h1 : qcat (l.drop kn) ++ qcat (l.take kn) = qcat (l.drop kn ++ l.take kn) := (qcat_app _ _).symm
  have q1 : (qcat (l.drop kn ++ l.take kn)).length = (l.length - kn + kn) * 7 := by rw [qcat_len, List.length_append, lX, lY]
  have h2 : qcat (l.drop kn ++ l.take kn) ++ vcs a = qcat (l.drop kn ++ l.take kn ++ [a]) := by rw [qcat_app (l.drop kn ++ l.take kn) [a]]; rfl
  have q2 : (qcat (l.drop kn ++ l.take kn ++ [a])).length = (l.length - kn + kn + 1) * 7 := by rw [qcat_len]; simp only [List.length_append, lX, lY, List.length_singleton]
  have hT : (qcat (l.drop kn ++ l.take kn ++ [a])).take ((l.length - kn + kn + 1) * 7) = qcat (l.drop kn ++ l.take kn ++ [a]) := List.take_of_length_le (by omega)
  have hCk : chunk 7 (l.length - kn + kn + 1) (qcat (l.drop kn ++ l.take kn ++ [a])) = (l.drop kn ++ l.take kn ++ [a]).map vv := by
    have := chunk_qcat (l.drop kn ++ l.take kn ++ [a])
    rwa [show (l.drop kn ++ l.take kn ++ [a]).length = l.length - kn + kn + 1 by simp only [List.length_append, lX, lY, List.length_singleton]] at this
  generalize hBe : l.drop kn ++ l.take kn ++ [a] = B at *
  generalize hXY : l.drop kn ++ l.take kn = XY at *
  generalize l.drop kn = X at *
  generalize l.take kn = Y at *
  generalize hR : mrgR l = Rr at *
  rcases hmr with e | e | ⟨e, ho⟩
  · subst e
    refine walk0 (its := [.c c_law07_VersionOrder_k1]) 300 trivial (fun A eA => ?_)
    simp (disch := first | omega | (simp only [avs_len, zz1, zz2, zz3, zz4, zz5, zz6]; omega) | (simp only [cells, scal1, allSz, zz1, zz3, zz2, zz6, zz7, zz8, avs_len, zz9, zz10, zz11, zz12, zz13, reduceCtorEq, *]; done) | fail) only [c_law07_VersionOrder, wl_law07_VersionOrder_2, s_law07_VersionOrder_2, c_law07_VersionOrder_l2, wb_law07_VersionOrder_2, wb_law07_VersionOrder_1, c_law07_VersionOrder_k0, wl_law07_VersionOrder_0, s_law07_VersionOrder_0, c_law07_VersionOrder_l0, wb_law07_VersionOrder_0, c_law07_VersionOrder_k1, go_sem, eA, scal1, wt, wr, hz, List.length_map]
    refine call1 300 trivial trivial cm (fun A eA => ?_)
    simp (disch := first | omega | (simp only [avs_len, zz1, zz2, zz3, zz4, zz5, zz6]; omega) | (simp only [cells, scal1, allSz, zz1, zz3, zz2, zz6, zz7, zz8, avs_len, zz9, zz10, zz11, zz12, zz13, reduceCtorEq, *]; done) | fail) only [c_law07_VersionOrder, wl_law07_VersionOrder_2, s_law07_VersionOrder_2, c_law07_VersionOrder_l2, wb_law07_VersionOrder_2, wb_law07_VersionOrder_1, c_law07_VersionOrder_k0, wl_law07_VersionOrder_0, s_law07_VersionOrder_0, c_law07_VersionOrder_l0, wb_law07_VersionOrder_0, c_law07_VersionOrder_k1, go_sem, eA, scal1, List.length_map, zz16, lX, lY, allSz, List.all_cons, List.all_nil, ↓optI_of hka, ↓appK, catCells, hTl, hX, hY, qX, qlX, qY, h1, q1, h2, q2, hT, hCk, ↓frz_qcat]
    refine call1 300 trivial trivial cb (fun A eA => ?_)
    simp (disch := first | omega | (simp only [avs_len, zz1, zz2, zz3, zz4, zz5, zz6]; omega) | (simp only [cells, scal1, allSz, zz1, zz3, zz2, zz6, zz7, zz8, avs_len, zz9, zz10, zz11, zz12, zz13, reduceCtorEq, *]; done) | fail) only [c_law07_VersionOrder, wl_law07_VersionOrder_2, s_law07_VersionOrder_2, c_law07_VersionOrder_l2, wb_law07_VersionOrder_2, wb_law07_VersionOrder_1, c_law07_VersionOrder_k0, wl_law07_VersionOrder_0, s_law07_VersionOrder_0, c_law07_VersionOrder_l0, wb_law07_VersionOrder_0, c_law07_VersionOrder_k1, go_sem, eA, scal1]
    exact doneG rfl
  · subst e
    refine walk0 (its := [.c c_law07_VersionOrder_k1]) 300 trivial (fun A eA => ?_)
    simp (disch := first | omega | (simp only [avs_len, zz1, zz2, zz3, zz4, zz5, zz6]; omega) | (simp only [cells, scal1, allSz, zz1, zz3, zz2, zz6, zz7, zz8, avs_len, zz9, zz10, zz11, zz12, zz13, reduceCtorEq, *]; done) | fail) only [c_law07_VersionOrder, wl_law07_VersionOrder_2, s_law07_VersionOrder_2, c_law07_VersionOrder_l2, wb_law07_VersionOrder_2, wb_law07_VersionOrder_1, c_law07_VersionOrder_k0, wl_law07_VersionOrder_0, s_law07_VersionOrder_0, c_law07_VersionOrder_l0, wb_law07_VersionOrder_0, c_law07_VersionOrder_k1, go_sem, eA, scal1, wt, wr, hz, List.length_map]
    refine call1 300 trivial trivial cm (fun A eA => ?_)
    simp (disch := first | omega | (simp only [avs_len, zz1, zz2, zz3, zz4, zz5, zz6]; omega) | (simp only [cells, scal1, allSz, zz1, zz3, zz2, zz6, zz7, zz8, avs_len, zz9, zz10, zz11, zz12, zz13, reduceCtorEq, *]; done) | fail) only [c_law07_VersionOrder, wl_law07_VersionOrder_2, s_law07_VersionOrder_2, c_law07_VersionOrder_l2, wb_law07_VersionOrder_2, wb_law07_VersionOrder_1, c_law07_VersionOrder_k0, wl_law07_VersionOrder_0, s_law07_VersionOrder_0, c_law07_VersionOrder_l0, wb_law07_VersionOrder_0, c_law07_VersionOrder_k1, go_sem, eA, scal1, List.length_map, zz16, lX, lY, allSz, List.all_cons, List.all_nil, ↓optI_of hka, ↓appK, catCells, hTl, hX, hY, qX, qlX, qY, h1, q1, h2, q2, hT, hCk, ↓frz_qcat]
    refine call1 300 trivial trivial cb (fun A eA => ?_)
    simp (disch := first | omega | (simp only [avs_len, zz1, zz2, zz3, zz4, zz5, zz6]; omega) | (simp only [cells, scal1, allSz, zz1, zz3, zz2, zz6, zz7, zz8, avs_len, zz9, zz10, zz11, zz12, zz13, reduceCtorEq, *]; done) | fail) only [c_law07_VersionOrder, wl_law07_VersionOrder_2, s_law07_VersionOrder_2, c_law07_VersionOrder_l2, wb_law07_VersionOrder_2, wb_law07_VersionOrder_1, c_law07_VersionOrder_k0, wl_law07_VersionOrder_0, s_law07_VersionOrder_0, c_law07_VersionOrder_l0, wb_law07_VersionOrder_0, c_law07_VersionOrder_k1, go_sem, eA, scal1]
    exact doneG rfl
  · subst e
    have cs := sameall_calls (mrgL l) (by omega) (fun v hv => one_xrt ho v (mrg_mem hv).1)
    have qL := qcat_cat l
    have qlL := qcat_len l
    have hTL : (qcat l).take (l.length * 7) = qcat l := qcat_take l
    have hCL := chunk_qcat l
    cases hM : mrgL l with
    | nil =>
      rw [hM] at cm cb cc cs
      simp only [List.nil_append] at cc
      refine walk0 (its := [.c c_law07_VersionOrder_k1]) 300 trivial (fun A eA => ?_)
      simp (disch := first | omega | (simp only [avs_len, zz1, zz2, zz3, zz4, zz5, zz6]; omega) | (simp only [cells, scal1, allSz, zz1, zz3, zz2, zz6, zz7, zz8, avs_len, zz9, zz10, zz11, zz12, zz13, reduceCtorEq, *]; done) | fail) only [c_law07_VersionOrder, wl_law07_VersionOrder_2, s_law07_VersionOrder_2, c_law07_VersionOrder_l2, wb_law07_VersionOrder_2, wb_law07_VersionOrder_1, c_law07_VersionOrder_k0, wl_law07_VersionOrder_0, s_law07_VersionOrder_0, c_law07_VersionOrder_l0, wb_law07_VersionOrder_0, c_law07_VersionOrder_k1, go_sem, eA, scal1, wt, wr, hz, List.length_map]
      refine call1 300 trivial trivial cm (fun A eA => ?_)
      simp (disch := first | omega | (simp only [avs_len, zz1, zz2, zz3, zz4, zz5, zz6]; omega) | (simp only [cells, scal1, allSz, zz1, zz3, zz2, zz6, zz7, zz8, avs_len, zz9, zz10, zz11, zz12, zz13, reduceCtorEq, *]; done) | fail) only [c_law07_VersionOrder, wl_law07_VersionOrder_2, s_law07_VersionOrder_2, c_law07_VersionOrder_l2, wb_law07_VersionOrder_2, wb_law07_VersionOrder_1, c_law07_VersionOrder_k0, wl_law07_VersionOrder_0, s_law07_VersionOrder_0, c_law07_VersionOrder_l0, wb_law07_VersionOrder_0, c_law07_VersionOrder_k1, go_sem, eA, scal1, List.length_map, zz16, lX, lY, allSz, List.all_cons, List.all_nil, ↓optI_of hka, ↓appK, catCells, hTl, hX, hY, qX, qlX, qY, h1, q1, h2, q2, hT, hCk, ↓frz_qcat]
      refine call1 300 trivial trivial cb (fun A eA => ?_)
      simp (disch := first | omega | (simp only [avs_len, zz1, zz2, zz3, zz4, zz5, zz6]; omega) | (simp only [cells, scal1, allSz, zz1, zz3, zz2, zz6, zz7, zz8, avs_len, zz9, zz10, zz11, zz12, zz13, reduceCtorEq, *]; done) | fail) only [c_law07_VersionOrder, wl_law07_VersionOrder_2, s_law07_VersionOrder_2, c_law07_VersionOrder_l2, wb_law07_VersionOrder_2, wb_law07_VersionOrder_1, c_law07_VersionOrder_k0, wl_law07_VersionOrder_0, s_law07_VersionOrder_0, c_law07_VersionOrder_l0, wb_law07_VersionOrder_0, c_law07_VersionOrder_k1, go_sem, eA, scal1, List.length_map, List.map_nil, allSz, ↓appK, catCells, qL, qlL, hTL, hCL, ↓frz_qcat]
      refine call1 300 trivial trivial cc (fun A eA => ?_)
      simp (disch := first | omega | (simp only [avs_len, zz1, zz2, zz3, zz4, zz5, zz6]; omega) | (simp only [cells, scal1, allSz, zz1, zz3, zz2, zz6, zz7, zz8, avs_len, zz9, zz10, zz11, zz12, zz13, reduceCtorEq, *]; done) | fail) only [c_law07_VersionOrder, wl_law07_VersionOrder_2, s_law07_VersionOrder_2, c_law07_VersionOrder_l2, wb_law07_VersionOrder_2, wb_law07_VersionOrder_1, c_law07_VersionOrder_k0, wl_law07_VersionOrder_0, s_law07_VersionOrder_0, c_law07_VersionOrder_l0, wb_law07_VersionOrder_0, c_law07_VersionOrder_k1, go_sem, eA, scal1]
      refine call0 300 trivial trivial cs (.inl rfl) (fun A eA => ?_)
      simp (disch := first | omega | (simp only [avs_len, zz1, zz2, zz3, zz4, zz5, zz6]; omega) | (simp only [cells, scal1, allSz, zz1, zz3, zz2, zz6, zz7, zz8, avs_len, zz9, zz10, zz11, zz12, zz13, reduceCtorEq, *]; done) | fail) only [c_law07_VersionOrder, wl_law07_VersionOrder_2, s_law07_VersionOrder_2, c_law07_VersionOrder_l2, wb_law07_VersionOrder_2, wb_law07_VersionOrder_1, c_law07_VersionOrder_k0, wl_law07_VersionOrder_0, s_law07_VersionOrder_0, c_law07_VersionOrder_l0, wb_law07_VersionOrder_0, c_law07_VersionOrder_k1, go_sem, eA, scal1]
      refine call0 300 trivial trivial cs (.inl rfl) (fun A eA => ?_)
      simp (disch := first | omega | (simp only [avs_len, zz1, zz2, zz3, zz4, zz5, zz6]; omega) | (simp only [cells, scal1, allSz, zz1, zz3, zz2, zz6, zz7, zz8, avs_len, zz9, zz10, zz11, zz12, zz13, reduceCtorEq, *]; done) | fail) only [c_law07_VersionOrder, wl_law07_VersionOrder_2, s_law07_VersionOrder_2, c_law07_VersionOrder_l2, wb_law07_VersionOrder_2, wb_law07_VersionOrder_1, c_law07_VersionOrder_k0, wl_law07_VersionOrder_0, s_law07_VersionOrder_0, c_law07_VersionOrder_l0, wb_law07_VersionOrder_0, c_law07_VersionOrder_k1, go_sem, eA, scal1]
      exact doneG rfl
    | cons m M' =>
      have hlM : (m :: M').length = M'.length + 1 := rfl
      rw [hM] at cm cb cc cs hml
      generalize m :: M' = M at *
      have qM := qcat_cat M
      have qlM := qcat_len M
      rw [hlM] at qlM
      have h3 : qcat M ++ qcat l = qcat (M ++ l) := (qcat_app _ _).symm
      have q3 : (qcat (M ++ l)).length = (M'.length + 1 + l.length) * 7 := by rw [qcat_len, List.length_append, hlM]
      have hT3 : (qcat (M ++ l)).take ((M'.length + 1 + l.length) * 7) = qcat (M ++ l) := List.take_of_length_le (by omega)
      have hC3 : chunk 7 (M'.length + 1 + l.length) (qcat (M ++ l)) = (M ++ l).map vv := by
        have := chunk_qcat (M ++ l)
        rwa [List.length_append, hlM] at this
      refine walk0 (its := [.c c_law07_VersionOrder_k1]) 300 trivial (fun A eA => ?_)
      simp (disch := first | omega | (simp only [avs_len, zz1, zz2, zz3, zz4, zz5, zz6]; omega) | (simp only [cells, scal1, allSz, zz1, zz3, zz2, zz6, zz7, zz8, avs_len, zz9, zz10, zz11, zz12, zz13, reduceCtorEq, *]; done) | fail) only [c_law07_VersionOrder, wl_law07_VersionOrder_2, s_law07_VersionOrder_2, c_law07_VersionOrder_l2, wb_law07_VersionOrder_2, wb_law07_VersionOrder_1, c_law07_VersionOrder_k0, wl_law07_VersionOrder_0, s_law07_VersionOrder_0, c_law07_VersionOrder_l0, wb_law07_VersionOrder_0, c_law07_VersionOrder_k1, go_sem, eA, scal1, wt, wr, hz, List.length_map]
      refine call1 300 trivial trivial cm (fun A eA => ?_)
      simp (disch := first | omega | (simp only [avs_len, zz1, zz2, zz3, zz4, zz5, zz6]; omega) | (simp only [cells, scal1, allSz, zz1, zz3, zz2, zz6, zz7, zz8, avs_len, zz9, zz10, zz11, zz12, zz13, reduceCtorEq, *]; done) | fail) only [c_law07_VersionOrder, wl_law07_VersionOrder_2, s_law07_VersionOrder_2, c_law07_VersionOrder_l2, wb_law07_VersionOrder_2, wb_law07_VersionOrder_1, c_law07_VersionOrder_k0, wl_law07_VersionOrder_0, s_law07_VersionOrder_0, c_law07_VersionOrder_l0, wb_law07_VersionOrder_0, c_law07_VersionOrder_k1, go_sem, eA, scal1, List.length_map, zz16, lX, lY, allSz, List.all_cons, List.all_nil, ↓optI_of hka, ↓appK, catCells, hTl, hX, hY, qX, qlX, qY, h1, q1, h2, q2, hT, hCk, ↓frz_qcat]
      refine call1 300 trivial trivial cb (fun A eA => ?_)
      simp (disch := first | omega | (simp only [avs_len, zz1, zz2, zz3, zz4, zz5, zz6]; omega) | (simp only [cells, scal1, allSz, zz1, zz3, zz2, zz6, zz7, zz8, avs_len, zz9, zz10, zz11, zz12, zz13, reduceCtorEq, *]; done) | fail) only [c_law07_VersionOrder, wl_law07_VersionOrder_2, s_law07_VersionOrder_2, c_law07_VersionOrder_l2, wb_law07_VersionOrder_2, wb_law07_VersionOrder_1, c_law07_VersionOrder_k0, wl_law07_VersionOrder_0, s_law07_VersionOrder_0, c_law07_VersionOrder_l0, wb_law07_VersionOrder_0, c_law07_VersionOrder_k1, go_sem, eA, scal1, List.length_map, hlM, allSz, ↓appK, catCells, qL, qlL, qM, qlM, h3, q3, hT3, hC3, ↓frz_qcat]
      refine call1 300 trivial trivial cc (fun A eA => ?_)
      simp (disch := first | omega | (simp only [avs_len, zz1, zz2, zz3, zz4, zz5, zz6]; omega) | (simp only [cells, scal1, allSz, zz1, zz3, zz2, zz6, zz7, zz8, avs_len, zz9, zz10, zz11, zz12, zz13, reduceCtorEq, *]; done) | fail) only [c_law07_VersionOrder, wl_law07_VersionOrder_2, s_law07_VersionOrder_2, c_law07_VersionOrder_l2, wb_law07_VersionOrder_2, wb_law07_VersionOrder_1, c_law07_VersionOrder_k0, wl_law07_VersionOrder_0, s_law07_VersionOrder_0, c_law07_VersionOrder_l0, wb_law07_VersionOrder_0, c_law07_VersionOrder_k1, go_sem, eA, scal1]
      refine call0 300 trivial trivial cs (.inl rfl) (fun A eA => ?_)
      simp (disch := first | omega | (simp only [avs_len, zz1, zz2, zz3, zz4, zz5, zz6]; omega) | (simp only [cells, scal1, allSz, zz1, zz3, zz2, zz6, zz7, zz8, avs_len, zz9, zz10, zz11, zz12, zz13, reduceCtorEq, *]; done) | fail) only [c_law07_VersionOrder, wl_law07_VersionOrder_2, s_law07_VersionOrder_2, c_law07_VersionOrder_l2, wb_law07_VersionOrder_2, wb_law07_VersionOrder_1, c_law07_VersionOrder_k0, wl_law07_VersionOrder_0, s_law07_VersionOrder_0, c_law07_VersionOrder_l0, wb_law07_VersionOrder_0, c_law07_VersionOrder_k1, go_sem, eA, scal1]
      refine call0 300 trivial trivial cs (.inl rfl) (fun A eA => ?_)
      simp (disch := first | omega | (simp only [avs_len, zz1, zz2, zz3, zz4, zz5, zz6]; omega) | (simp only [cells, scal1, allSz, zz1, zz3, zz2, zz6, zz7, zz8, avs_len, zz9, zz10, zz11, zz12, zz13, reduceCtorEq, *]; done) | fail) only [c_law07_VersionOrder, wl_law07_VersionOrder_2, s_law07_VersionOrder_2, c_law07_VersionOrder_l2, wb_law07_VersionOrder_2, wb_law07_VersionOrder_1, c_law07_VersionOrder_k0, wl_law07_VersionOrder_0, s_law07_VersionOrder_0, c_law07_VersionOrder_l0, wb_law07_VersionOrder_0, c_law07_VersionOrder_k1, go_sem, eA, scal1]
      exact doneG rfl
theorem versionOrder_calls (l : List Ver) (hl : l.length ≤ maxLen) (turn : Nat) (ht : turn < 256) : PCalls Try.prog F_law07_VersionOrder [qv l, .int .u8 (turn : Nat)] (.bool true) := by
  have ca := vawake_calls
  have cf := vFew_calls l none (Nat.lt_of_le_of_lt hl (by decide))
  cases hf : fewL 0 l with
  | false =>
    rw [hf] at cf
    refine calls_law07_VersionOrder (walk0 300 trivial (fun A eA => ?_))
    simp (disch := first | omega | (simp only [avs_len, zz1, zz2, zz3, zz4, zz5, zz6]; omega) | (simp only [cells, scal1, allSz, zz1, zz3, zz2, zz6, zz7, zz8, avs_len, zz9, zz10, zz11, zz12, zz13, reduceCtorEq, *]; done) | fail) only [c_law07_VersionOrder, wl_law07_VersionOrder_2, s_law07_VersionOrder_2, c_law07_VersionOrder_l2, wb_law07_VersionOrder_2, wb_law07_VersionOrder_1, c_law07_VersionOrder_k0, wl_law07_VersionOrder_0, s_law07_VersionOrder_0, c_law07_VersionOrder_l0, wb_law07_VersionOrder_0, c_law07_VersionOrder_k1, go_sem, eA, scal1]
    repeat (refine call0 300 trivial trivial (by first | exact ca | exact cf) (.inl rfl) (fun A eA => ?_); simp (disch := first | omega | (simp only [avs_len, zz1, zz2, zz3, zz4, zz5, zz6]; omega) | (simp only [cells, scal1, allSz, zz1, zz3, zz2, zz6, zz7, zz8, avs_len, zz9, zz10, zz11, zz12, zz13, reduceCtorEq, *]; done) | fail) only [c_law07_VersionOrder, wl_law07_VersionOrder_2, s_law07_VersionOrder_2, c_law07_VersionOrder_l2, wb_law07_VersionOrder_2, wb_law07_VersionOrder_1, c_law07_VersionOrder_k0, wl_law07_VersionOrder_0, s_law07_VersionOrder_0, c_law07_VersionOrder_l0, wb_law07_VersionOrder_0, c_law07_VersionOrder_k1, go_sem, eA, scal1])
    exact doneG rfl
  | true =>
    rw [hf] at cf
    have hm := (fewL_mem hf).1
    by_cases h0 : l.length = 0
    · have hl0 : l = [] := List.eq_nil_of_length_eq_zero h0
      subst hl0
      refine calls_law07_VersionOrder (walk0 300 trivial (fun A eA => ?_))
      simp (disch := first | omega | (simp only [avs_len, zz1, zz2, zz3, zz4, zz5, zz6]; omega) | (simp only [cells, scal1, allSz, zz1, zz3, zz2, zz6, zz7, zz8, avs_len, zz9, zz10, zz11, zz12, zz13, reduceCtorEq, *]; done) | fail) only [c_law07_VersionOrder, wl_law07_VersionOrder_2, s_law07_VersionOrder_2, c_law07_VersionOrder_l2, wb_law07_VersionOrder_2, wb_law07_VersionOrder_1, c_law07_VersionOrder_k0, wl_law07_VersionOrder_0, s_law07_VersionOrder_0, c_law07_VersionOrder_l0, wb_law07_VersionOrder_0, c_law07_VersionOrder_k1, go_sem, eA, scal1, List.map_nil]
      repeat (refine call0 300 trivial trivial (by first | exact ca | exact cf) (.inl rfl) (fun A eA => ?_); simp (disch := first | omega | (simp only [avs_len, zz1, zz2, zz3, zz4, zz5, zz6]; omega) | (simp only [cells, scal1, allSz, zz1, zz3, zz2, zz6, zz7, zz8, avs_len, zz9, zz10, zz11, zz12, zz13, reduceCtorEq, *]; done) | fail) only [c_law07_VersionOrder, wl_law07_VersionOrder_2, s_law07_VersionOrder_2, c_law07_VersionOrder_l2, wb_law07_VersionOrder_2, wb_law07_VersionOrder_1, c_law07_VersionOrder_k0, wl_law07_VersionOrder_0, s_law07_VersionOrder_0, c_law07_VersionOrder_l0, wb_law07_VersionOrder_0, c_law07_VersionOrder_k1, go_sem, eA, scal1, List.map_nil])
      exact doneG rfl
    · have hz : ¬ ((l.length : Nat) : Int) = 0 := by omega
      refine calls_law07_VersionOrder (walk0 300 trivial (fun A eA => ?_))
      simp (disch := first | omega | (simp only [avs_len, zz1, zz2, zz3, zz4, zz5, zz6]; omega) | (simp only [cells, scal1, allSz, zz1, zz3, zz2, zz6, zz7, zz8, avs_len, zz9, zz10, zz11, zz12, zz13, reduceCtorEq, *]; done) | fail) only [c_law07_VersionOrder, wl_law07_VersionOrder_2, s_law07_VersionOrder_2, c_law07_VersionOrder_l2, wb_law07_VersionOrder_2, wb_law07_VersionOrder_1, c_law07_VersionOrder_k0, wl_law07_VersionOrder_0, s_law07_VersionOrder_0, c_law07_VersionOrder_l0, wb_law07_VersionOrder_0, c_law07_VersionOrder_k1, go_sem, eA, scal1, List.length_map]
      refine call0 300 trivial trivial ca (.inl rfl) (fun A eA => ?_)
      simp (disch := first | omega | (simp only [avs_len, zz1, zz2, zz3, zz4, zz5, zz6]; omega) | (simp only [cells, scal1, allSz, zz1, zz3, zz2, zz6, zz7, zz8, avs_len, zz9, zz10, zz11, zz12, zz13, reduceCtorEq, *]; done) | fail) only [c_law07_VersionOrder, wl_law07_VersionOrder_2, s_law07_VersionOrder_2, c_law07_VersionOrder_l2, wb_law07_VersionOrder_2, wb_law07_VersionOrder_1, c_law07_VersionOrder_k0, wl_law07_VersionOrder_0, s_law07_VersionOrder_0, c_law07_VersionOrder_l0, wb_law07_VersionOrder_0, c_law07_VersionOrder_k1, go_sem, eA, scal1, List.length_map]
      refine call0 300 trivial trivial cf (.inl rfl) (fun A eA => ?_)
      simp (disch := first | omega | (simp only [avs_len, zz1, zz2, zz3, zz4, zz5, zz6]; omega) | (simp only [cells, scal1, allSz, zz1, zz3, zz2, zz6, zz7, zz8, avs_len, zz9, zz10, zz11, zz12, zz13, reduceCtorEq, *]; done) | fail) only [c_law07_VersionOrder, wl_law07_VersionOrder_2, s_law07_VersionOrder_2, c_law07_VersionOrder_l2, wb_law07_VersionOrder_2, wb_law07_VersionOrder_1, c_law07_VersionOrder_k0, wl_law07_VersionOrder_0, s_law07_VersionOrder_0, c_law07_VersionOrder_l0, wb_law07_VersionOrder_0, c_law07_VersionOrder_k1, go_sem, eA, scal1, List.length_map, hz]
      exact ord_outer l (by omega) _ l [] rfl .nil _ (fun hd nx => order_end l (by omega) (by omega) turn ht hd nx)
end Go.Proofs.Ytmokhopjnjecbac
/- Rows of bytes out of a row's reading of the arguments. -/
namespace Go.Proofs.Ytmokhopjnjecbac.Sized
open Go.ChangeShapes Go.WideShapes Go.RowKit
open Go.Ev (PCalls Rep Reps none4 zeroC avs avs_get avs_len add_mk)
set_option linter.unusedVariables false
set_option linter.unusedSimpArgs false
/-- A slice of whole numbers, opened. -/
def IsRow (k : IntKind) (w : World) (a : Option Addr) (len cap : Nat) (zs : List Int) : Prop :=
  (a = none ∧ len = 0 ∧ cap = 0 ∧ zs = []) ∨
  ∃ x, a = some x ∧ len ≤ cap ∧ cap ≤ maxLen ∧ zs.length = cap ∧ (∀ i, i < zs.length → w.cell? (x.add i) = some (.int k (zs.getD i 0))) ∧ ∀ n ∈ zs, (Lit.int k n).wf = true
theorem rep_bytes {w : World} {a : Option Addr} {len cap : Nat} {zs : List Int} (h : IsRow .u8 w a len cap zs) :
    ∃ bs : List Nat, (∀ b ∈ bs, b < 256) ∧ bs.length = len ∧ Rep none4 (fun _ => False) zeroC w true (.fz 1 (avs bs) none) (.slice a len cap) := by
  rcases h with ⟨rfl, rfl, rfl, rfl⟩ | ⟨x, rfl, hl, hm, hz, hcell, hwf⟩
  · exact ⟨[], by simp, rfl, .fz0 (by simp) (fun _ => ⟨rfl, rfl⟩)⟩
  · have hrange : ∀ n ∈ zs, 0 ≤ n ∧ n < 256 := by
      intro n hn
      have := hwf n hn
      simp [Lit.wf, IntKind.min, IntKind.max, IntKind.signed, IntKind.bits] at this
      omega
    have hlen : ((zs.take len).map Int.toNat).length = len := by simp; omega
    refine ⟨(zs.take len).map Int.toNat, ?_, hlen, ?_⟩
    · intro b hb
      obtain ⟨n, hn, rfl⟩ := List.mem_map.1 hb
      have := hrange n (List.mem_of_mem_take hn)
      omega
    · by_cases h0 : len = 0
      · subst h0
        simp only [List.take_zero, List.map_nil, avs]
        exact .fz0 (by simp) (fun e => by cases e)
      · have hal : (avs ((zs.take len).map Int.toNat)).length = len := by rw [avs_len]; exact hlen
        have hsl : (Value.slice (some x) len cap) = .slice (some x) (avs ((zs.take len).map Int.toNat)).length cap := by rw [hal]
        rw [hsl]
        have hget : ∀ (i : Nat) e, (avs ((zs.take len).map Int.toNat))[i]? = some e → i < zs.length ∧ e = .int .u8 (zs.getD i 0) := by
          intro i e hi
          have hlt : i < len := by have := (List.getElem?_eq_some_iff.1 hi).1; omega
          rw [avs_get, List.getElem?_map, List.getElem?_take_of_lt hlt, List.getElem?_eq_getElem (by omega)] at hi
          simp at hi
          subst hi
          refine ⟨by omega, ?_⟩
          have := hrange zs[i] (List.getElem_mem (by omega))
          have e2 : zs.getD i 0 = zs[i] := by simp [List.getD, show i < zs.length by omega]
          rw [e2]
          congr 1
          omega
        refine .fz (fun i _ => .int .u8 (zs.getD i 0)) (fun e => by rw [e] at hal; simp at hal; omega) (by omega) (by simp) (fun i e hi => ?_) (fun i e j y hi hj => ?_) (fun i e j y hi hj => ?_) (fun i e j y hi hj => rfl) ⟨fun _ _ _ h => h, fun h => h, ?_⟩
        · obtain ⟨_, rfl⟩ := hget i e hi; rfl
        · obtain ⟨hlt, rfl⟩ := hget i e hi
          cases j with
          | succ j => simp [Ev.cells] at hj
          | zero => rw [Nat.mul_one, Nat.add_zero]; exact hcell i hlt
        · obtain ⟨hlt, rfl⟩ := hget i e hi
          cases j with
          | succ j => simp [Ev.cells] at hj
          | zero => simp [Ev.cells] at hj; subst hj; exact .int
        · have := hcell 0 (by omega)
          have := World.block_lt_of_cell? w _ this
          rwa [Ev.add_block] at this
/-- A slice of rows of bytes, opened. -/
theorem rep_rows {H : Type} {enc : TypeId × Value → H} {P : Program} {w : World} {base : Nat} {held : Bool} {fuel : Nat} {t e b : TypeId} {a : Option Addr} {len cap : Nat} {x : DataW H × List MemPlace}
    (ht : P.underlying t = some (.slice e)) (he : P.underlying e = some (.slice b)) (hb : P.underlying b = some (.int .u8)) (hc1 : P.cellsOf e = 1) (hc2 : P.cellsOf b = 1)
    (h : DataW.trod enc P w base (fun _ => true) held fuel t [.slice a len cap] = some x) :
    ∃ ls : List (List Nat), ls.length = len ∧ (∀ l ∈ ls, ∀ b ∈ l, b < 256) ∧ Rep none4 (fun _ => False) zeroC w true (.fz 1 (ls.map fun l => .fz 1 (avs l) none) none) (.slice a len cap) := by
  rcases DataW.trod_slice ht h with ⟨hcs, _⟩ | ⟨a', len', cap', elems, rest, n, _, hcs, rfl, hbb, hl, hm, hlen, hel, _, _⟩
  · simp only [List.cons.injEq, Value.slice.injEq, and_true] at hcs
    obtain ⟨rfl, rfl, rfl⟩ := hcs
    exact ⟨[], rfl, by simp, .fz0 (by simp) (fun _ => ⟨rfl, rfl⟩)⟩
  · simp only [List.cons.injEq, Value.slice.injEq, and_true] at hcs
    obtain ⟨rfl, rfl, rfl⟩ := hcs
    have each : ∀ i, i < len → ∃ (bs : List Nat) (v : Value), (∀ b ∈ bs, b < 256) ∧ w.cell? (a'.add i) = some v ∧ Rep none4 (fun _ => False) zeroC w true (.fz 1 (avs bs) none) v ∧ v.oneCell' = true := by
      intro i hi
      have h1 := hel i hi
      rw [List.getElem?_eq_getElem (by omega), hc1, Nat.mul_one, Option.bind_eq_some_iff] at h1
      obtain ⟨cs', h2, h3⟩ := h1
      have row : ∃ a1 l1 c1 zs, cs' = [.slice a1 l1 c1] ∧ IsRow .u8 w a1 l1 c1 zs := by
        rcases open_ints he hb hc2 h3 with ⟨rfl, _⟩ | ⟨x1, l1, c1, zs, rfl, _, hl1, hm1, hz, _, hcell, hwz⟩
        · exact ⟨none, 0, 0, [], rfl, .inl ⟨rfl, rfl, rfl, rfl⟩⟩
        · exact ⟨some x1, l1, c1, zs, rfl, .inr ⟨x1, rfl, hl1, hm1, by simpa using hz, hcell, hwz⟩⟩
      obtain ⟨a1, l1, c1, zs, rfl, hrow⟩ := row
      obtain ⟨bs, hbs, _, hrep⟩ := rep_bytes hrow
      exact ⟨bs, _, hbs, cell_of_cells?_one h2, hrep, rfl⟩
    obtain ⟨f, hf⟩ : ∃ f : Nat → List Nat × Value, ∀ i, i < len → (∀ b ∈ (f i).1, b < 256) ∧ w.cell? (a'.add i) = some (f i).2 ∧ Rep none4 (fun _ => False) zeroC w true (.fz 1 (avs (f i).1) none) (f i).2 ∧ (f i).2.oneCell' = true :=
      ⟨fun i => if hi : i < len then (Classical.choose (each i hi), Classical.choose (Classical.choose_spec (each i hi))) else ([], undef), fun i hi => by
        simp only [dif_pos hi]
        exact Classical.choose_spec (Classical.choose_spec (each i hi))⟩
    clear each
    refine ⟨(List.range len).map fun i => (f i).1, by simp, ?_, ?_⟩
    · intro l hl'
      obtain ⟨i, hi, rfl⟩ := List.mem_map.1 hl'
      exact (hf i (List.mem_range.1 hi)).1
    · by_cases h0 : len = 0
      · subst h0
        exact .fz0 (by simp) (fun e => by cases e)
      · have hget : ∀ (i : Nat) y, (((List.range len).map fun i => (f i).1).map fun l => Ev.AV.fz 1 (avs l) none)[i]? = some y → i < len ∧ y = .fz 1 (avs (f i).1) none := by
          intro i y hy
          have hi : i < len := by have := (List.getElem?_eq_some_iff.1 hy).1; simpa using this
          simp [List.getElem?_map, hi] at hy
          exact ⟨hi, hy.symm⟩
        have hsl : (Value.slice (some a') len cap) = .slice (some a') (((List.range len).map fun i => (f i).1).map fun l => Ev.AV.fz 1 (avs l) none).length cap := by simp
        rw [hsl]
        refine .fz (fun i _ => (f i).2) (fun e => by have := congrArg List.length e; simp at this; omega) (by simpa using hl) (by simp) (fun i y hy => ?_) (fun i y j z hy hj => ?_) (fun i y j z hy hj => ?_) (fun i y j z hy hj => ?_) ⟨fun _ _ _ h => h, fun h => h, ?_⟩
        · obtain ⟨hi, rfl⟩ := hget i y hy; rfl
        · obtain ⟨hi, rfl⟩ := hget i y hy
          cases j with
          | succ j => simp [Ev.cells] at hj
          | zero => rw [Nat.mul_one, Nat.add_zero]; exact (hf i hi).2.1
        · obtain ⟨hi, rfl⟩ := hget i y hy
          cases j with
          | succ j => simp [Ev.cells] at hj
          | zero =>
            simp [Ev.cells] at hj; subst hj
            exact (hf i hi).2.2.1
        · obtain ⟨hi, rfl⟩ := hget i y hy
          exact (hf i hi).2.2.2
        · have := World.block_lt_of_cell? w _ (hf 0 (by omega)).2.1
          rwa [Ev.add_block] at this
/-- A row's slice of whole numbers is no longer than its weight allows. -/
theorem sized_ints {H : Type} {enc : TypeId × Value → H} {P : Program} {W : World} {base : Nat} {spare : Nat → Bool} {held : Bool} {t e : TypeId} {k : IntKind} {a : Option Addr} {len cap : Nat} {d : DataW H} {ps : List MemPlace} {ts : List TypeId} {ds : List (DataW H)} {j : Nat}
    (hsz : (DataW.weightsEach P ts ds).all (· ≤ reachBytes) = true) (ht : ts[j]? = some t) (hd : ds[j]? = some d) (hu : P.underlying t = some (.slice e)) (he : P.underlying e = some (.int k)) (hc : P.cellsOf e = 1) {B : Nat} (hB : P.bytesOf e = B)
    (h : DataW.Trod enc P W base spare held t (.slice a len cap) d ps) : len * B ≤ 140737488351232 := by
  obtain ⟨fuel, hf⟩ := h
  rcases open_ints hu he hc hf with ⟨hcs, _⟩ | ⟨x, l, c, zs, hcs, _, hl, _, hz, hx, _, _⟩
  · simp [Value.cells] at hcs
    obtain ⟨rfl, rfl, rfl⟩ := hcs
    simp
  · simp [Value.cells] at hcs
    obtain ⟨rfl, rfl, rfl⟩ := hcs
    obtain ⟨hx, _⟩ := Prod.mk.inj hx
    subst hx
    have z := sized_slice hsz ht hd hu
    rw [hB] at z
    have hl2 : len ≤ zs.length := by
      rw [hz]
      split
      · exact hl
      · exact Nat.le_refl _
    have h1 : (lits (H := H) k (zs.take len)).length + (lits (H := H) k (zs.drop len)).length = zs.length := by
      simp [lits]
      omega
    rw [h1] at z
    exact Nat.le_trans (Nat.mul_le_mul_right _ hl2) z
end Go.Proofs.Ytmokhopjnjecbac.Sized
/- Whatever data a row reads as an argument: its cells by their types, as abstract values. -/
namespace Go.Ev
open Go.ChangeShapes Go.WideShapes Go.RowKit
set_option linter.unusedVariables false
set_option linter.unusedSimpArgs false
/-- The types of cells. -/
inductive Sh where
  | int (k : IntKind) | bool | str | sl (e : TypeId)
def shFields (P : Program) (f : TypeId → Option (List Sh)) : Nat → List Field → Option (List Sh)
  | _, [] => some []
  | o, fd :: l => if fd.offset = o then (match f fd.type with
    | some a => if P.cellsOf fd.type = a.length then (match shFields P f (o + a.length) l with
      | some b => some (a ++ b)
      | none => none) else none
    | none => none) else none
def shapes (P : Program) : Nat → TypeId → Option (List Sh)
  | 0, _ => none
  | n + 1, t => match P.underlying t with
    | some (.int k) => some [.int k]
    | some .bool => some [.bool]
    | some .string => some [.str]
    | some (.slice e) => some [.sl e]
    | some (.struct fs) => (match shFields P (shapes P n) 0 fs.toList with
      | some ss => if P.cellsOf t = ss.length then some ss else none
      | none => none)
    | _ => none
/-- Structs are told as their cells. -/
def mkE (P : Program) (e : TypeId) (xs : List AV) : AV := match P.underlying e with
  | some (.struct _) => .agg xs
  | _ => xs.headD .any
inductive CellOk (P : Program) : Sh → AV → Prop
  | int {k n} (h : (Lit.int k n).wf = true) : CellOk P (.int k) (.int k n)
  | bool {b} : CellOk P .bool (.bool b)
  | str {s : ByteArray} (h : s.size ≤ maxLen) : CellOk P .str (.str s)
  | sl {e ss es} (hs : shapes P 9 e = some ss) (hlen : es.length ≤ maxLen) (hl : ∀ y ∈ es, (cells y).length = ss.length) (hf : ∀ y ∈ es, y = mkE P e (cells y))
      (h : ∀ y ∈ es, ∀ (j : Nat) s c, ss[j]? = some s → (cells y)[j]? = some c → CellOk P s c) : CellOk P (.sl e) (.fz ss.length es none)
/-- Cell by cell: typed, and standing for that value. -/
inductive All3 (P : Program) (w : World) : List Sh → List AV → List Value → Prop
  | nil : All3 P w [] [] []
  | cons {s c v ss xs vs} (hc : CellOk P s c) (hr : Rep none4 (fun _ => False) zeroC w true c v) (h1 : v.oneCell' = true) (t : All3 P w ss xs vs) : All3 P w (s :: ss) (c :: xs) (v :: vs)
section
variable {P : Program} {w : World}
theorem All3.append {ss xs vs ss' xs' vs'} (h : All3 P w ss xs vs) (h' : All3 P w ss' xs' vs') : All3 P w (ss ++ ss') (xs ++ xs') (vs ++ vs') := by
  induction h with
  | nil => exact h'
  | cons a b c t ih => exact .cons a b c ih
theorem All3.len {ss xs vs} (h : All3 P w ss xs vs) : xs.length = ss.length ∧ vs.length = ss.length := by
  induction h with
  | nil => exact ⟨rfl, rfl⟩
  | cons a b c t ih => simp only [List.length_cons]; omega
theorem All3.get {ss xs vs} (h : All3 P w ss xs vs) : ∀ (j : Nat) x, xs[j]? = some x → ∃ s v, ss[j]? = some s ∧ vs[j]? = some v ∧ CellOk P s x ∧ Rep none4 (fun _ => False) zeroC w true x v ∧ v.oneCell' = true := by
  induction h with
  | nil => intro j x hx; simp at hx
  | cons a b c t ih =>
    intro j x hx
    cases j with
    | zero => simp at hx; subst hx; exact ⟨_, _, rfl, rfl, a, b, c⟩
    | succ j => simp at hx; simpa using ih j x hx
theorem CellOk.one {s : Sh} {c : AV} (h : CellOk P s c) : cells c = [c] := by cases h <;> rfl
theorem shapes_scalar {n : Nat} {t : TypeId} {ss : List Sh} (h : shapes P (n + 1) t = some ss) (hn : ∀ fs, P.underlying t ≠ some (.struct fs)) : ss.length = 1 := by
  simp only [shapes] at h
  split at h
  · simp at h; subst h; rfl
  · simp at h; subst h; rfl
  · simp at h; subst h; rfl
  · simp at h; subst h; rfl
  · rename_i fs hf; exact absurd hf (hn fs)
  · cases h
theorem cells_mkE {e : TypeId} {ss : List Sh} (hs : shapes P 9 e = some ss) {xs : List AV} {vs : List Value} (h : All3 P w ss xs vs) : cells (mkE P e xs) = xs := by
  unfold mkE
  split
  · rfl
  · rename_i hn
    have h1 := shapes_scalar hs (fun fs hf => hn fs hf)
    have hl := h.len.1
    match xs, hl with
    | [c], _ =>
      obtain ⟨s, v, _, _, hc, _⟩ := h.get 0 c rfl
      exact hc.one
    | [], hl => simp at hl; omega
    | _ :: _ :: _, hl => simp at hl; omega
/-- The types of elements, all with shapes, closed. -/
def okEs (P : Program) (Es : List TypeId) : Bool := Es.all fun e => match shapes P 9 e with
  | some ss => P.cellsOf e == ss.length && (ss.length != 0 && ss.all (fun s => match s with | .sl e' => Es.contains e' | _ => true))
  | none => false
def inEs (Es : List TypeId) (ss : List Sh) : Prop := ∀ e, Sh.sl e ∈ ss → e ∈ Es
theorem okEs_get {Es : List TypeId} (h : okEs P Es = true) {e : TypeId} (he : e ∈ Es) : ∃ ss, shapes P 9 e = some ss ∧ P.cellsOf e = ss.length ∧ 0 < ss.length ∧ inEs Es ss := by
  have := List.all_eq_true.1 h e he
  split at this
  · rename_i ss hs
    simp only [Bool.and_eq_true, beq_iff_eq, bne_iff_ne, ne_eq, List.all_eq_true] at this
    refine ⟨ss, hs, this.1, by omega, fun e' he' => ?_⟩
    simpa using this.2.2 _ he'
  · cases this
theorem fields_cells {H : Type} {enc : TypeId × Value → H} {base : Nat} {held : Bool} {Es : List TypeId} {n m : Nat} {cs : List Value}
    (ih : ∀ (t : TypeId) (ss : List Sh) (cs : List Value) (x : DataW H × List MemPlace), shapes P n t = some ss → inEs Es ss → DataW.trod enc P w base (fun _ => true) held m t cs = some x → ∃ xs, All3 P w ss xs cs) :
    ∀ (l : List Field) (o : Nat) (ss : List Sh), shFields P (shapes P n) o l = some ss → inEs Es ss → o + ss.length ≤ cs.length →
      (∀ f ∈ l, ∃ x, DataW.trod enc P w base (fun _ => true) held m f.type ((cs.drop f.offset).take (P.cellsOf f.type)) = some x) → ∃ xs, All3 P w ss xs ((cs.drop o).take ss.length)
  | [], o, ss, h, _, _, _ => by simp [shFields] at h; subst h; exact ⟨[], by simpa using All3.nil⟩
  | f :: l, o, ss, h, hE, hlen, hf => by
    simp only [shFields] at h
    split at h
    case isFalse => cases h
    rename_i ho
    split at h
    case h_2 => cases h
    rename_i a ha
    split at h
    case isFalse => cases h
    rename_i hc
    split at h
    case h_2 => cases h
    rename_i b hb
    simp only [Option.some.injEq] at h
    subst h
    rw [List.length_append] at hlen ⊢
    obtain ⟨x, hx⟩ := hf f List.mem_cons_self
    rw [ho, hc] at hx
    obtain ⟨ys, hys⟩ := ih _ _ _ _ ha (fun e he => hE e (List.mem_append_left _ he)) hx
    obtain ⟨zs, hzs⟩ := fields_cells ih l (o + a.length) b hb (fun e he => hE e (List.mem_append_right _ he)) (by omega) (fun g hg => hf g (List.mem_cons_of_mem _ hg))
    refine ⟨ys ++ zs, ?_⟩
    have := hys.append hzs
    rwa [← List.drop_drop, ← List.take_add] at this
theorem rep_cells {H : Type} {enc : TypeId × Value → H} {base : Nat} {held : Bool} {Es : List TypeId} (hEs : okEs P Es = true) :
    ∀ (fuel n : Nat) (t : TypeId) (ss : List Sh) (cs : List Value) (x : DataW H × List MemPlace), shapes P n t = some ss → inEs Es ss → DataW.trod enc P w base (fun _ => true) held fuel t cs = some x → ∃ xs, All3 P w ss xs cs := by
  intro fuel
  induction fuel using Nat.strongRecOn with
  | ind fuel ih =>
    intro n t ss cs x hs hE h
    cases n with
    | zero => simp [shapes] at hs
    | succ n =>
      simp only [shapes] at hs
      split at hs
      · rename_i k hu
        simp only [Option.some.injEq] at hs; subst hs
        obtain ⟨z, rfl, _, hw⟩ := DataW.trod_int hu h
        exact ⟨[.int k z], .cons (.int hw) .int rfl .nil⟩
      · rename_i hu
        simp only [Option.some.injEq] at hs; subst hs
        obtain ⟨b, rfl, _⟩ := DataW.trod_bool hu h
        exact ⟨[.bool b], .cons .bool .bool rfl .nil⟩
      · rename_i hu
        simp only [Option.some.injEq] at hs; subst hs
        obtain ⟨b, rfl, _, hb⟩ := DataW.trod_string hu h
        exact ⟨[.str b], .cons (.str hb) .str rfl .nil⟩
      · rename_i e hu
        simp only [Option.some.injEq] at hs; subst hs
        obtain ⟨se, hse, hce, hpos, hEe⟩ := okEs_get hEs (hE e List.mem_cons_self)
        rcases DataW.trod_slice hu h with ⟨hcs, _⟩ | ⟨a', len, cap, elems, rest, m, hm, hcs, _, hbb, hl, hmx, hle, hel, _, _⟩
        · subst hcs
          exact ⟨[.fz se.length [] none], .cons (.sl hse (by simp) (by simp) (by simp) (by simp)) (.fz0 (by simp) (fun _ => ⟨rfl, rfl⟩)) rfl .nil⟩
        · subst hcs
          have each : ∀ i, i < len → ∃ q : List AV × List Value, All3 P w se q.1 q.2 ∧ ∀ (j : Nat) v, q.2[j]? = some v → w.cell? (a'.add (i * se.length + j)) = some v := by
            intro i hi
            have h1 := hel i hi
            rw [List.getElem?_eq_getElem (by omega), hce, Option.bind_eq_some_iff] at h1
            obtain ⟨cs', h3, h4⟩ := h1
            obtain ⟨xs, hx⟩ := ih m (by omega) 9 e se cs' _ hse hEe h4
            refine ⟨(xs, cs'), hx, fun j v hv => ?_⟩
            have hc := (World.cells?_some h3).2.2
            have hv' : cs'[j]? = some v := hv
            have hj : j < se.length := by have := (List.getElem?_eq_some_iff.1 hv').1; have := hx.len.2; omega
            have g := hc j hj
            rw [Ev.add_add] at g
            rw [g]; exact hv
          obtain ⟨f, hf⟩ : ∃ f : Nat → List AV × List Value, ∀ i, i < len → All3 P w se (f i).1 (f i).2 ∧ ∀ (j : Nat) v, (f i).2[j]? = some v → w.cell? (a'.add (i * se.length + j)) = some v :=
            ⟨fun i => if hi : i < len then Classical.choose (each i hi) else ([], []), fun i hi => by
              simp only [dif_pos hi]
              exact Classical.choose_spec (each i hi)⟩
          have hcE : ∀ i, i < len → cells (mkE P e (f i).1) = (f i).1 := fun i hi => cells_mkE hse (hf i hi).1
          obtain ⟨es, hes⟩ : ∃ es, es = (List.range len).map fun i => mkE P e (f i).1 := ⟨_, rfl⟩
          have hlen2 : es.length = len := by rw [hes]; simp
          have hget : ∀ (i : Nat) y, es[i]? = some y → i < len ∧ y = mkE P e (f i).1 := by
            intro i y hy
            have hi : i < len := by have := (List.getElem?_eq_some_iff.1 hy).1; omega
            rw [hes, List.getElem?_map, List.getElem?_range hi] at hy
            simp only [Option.map_some, Option.some.injEq] at hy
            exact ⟨hi, hy.symm⟩
          have hmem : ∀ y ∈ es, ∃ i, i < len ∧ y = mkE P e (f i).1 := by
            intro y hy
            obtain ⟨i, hi⟩ := List.mem_iff_getElem?.1 hy
            exact ⟨i, hget i y hi⟩
          refine ⟨[.fz se.length es none], .cons (.sl hse (by omega) (fun y hy => ?_) (fun y hy => ?_) (fun y hy j s c h1 h2 => ?_)) ?_ rfl .nil⟩
          · obtain ⟨i, hi, rfl⟩ := hmem y hy
            rw [hcE i hi]; exact (hf i hi).1.len.1
          · obtain ⟨i, hi, rfl⟩ := hmem y hy
            rw [hcE i hi]
          · obtain ⟨i, hi, rfl⟩ := hmem y hy
            rw [hcE i hi] at h2
            obtain ⟨s', v, h3, _, h4, _⟩ := (hf i hi).1.get j c h2
            rw [h1] at h3; cases h3
            exact h4
          · by_cases h0 : len = 0
            · subst h0
              have : es = [] := List.eq_nil_of_length_eq_zero hlen2
              subst this
              exact .fz0 (by simp) (fun e => by cases e)
            · have hsl : (Value.slice (some a') len cap) = .slice (some a') es.length cap := by rw [hlen2]
              rw [hsl]
              have one : ∀ (i : Nat) y (j : Nat) z, es[i]? = some y → (cells y)[j]? = some z → ∃ v, (f i).2[j]? = some v ∧ w.cell? (a'.add (i * se.length + j)) = some v ∧ Rep none4 (fun _ => False) zeroC w true z v ∧ v.oneCell' = true := by
                intro i y j z hy hj
                obtain ⟨hi, rfl⟩ := hget i y hy
                rw [hcE i hi] at hj
                obtain ⟨s', v, _, h3, _, h5, h6⟩ := (hf i hi).1.get j z hj
                exact ⟨v, h3, (hf i hi).2 j v h3, h5, h6⟩
              refine .fz (fun i j => ((f i).2[j]?).getD undef) (fun e => by rw [e] at hlen2; simp at hlen2; omega) (by omega) (by simp) (fun i y hy => ?_) (fun i y j z hy hj => ?_) (fun i y j z hy hj => ?_) (fun i y j z hy hj => ?_) ⟨fun _ _ _ h => h, fun h => h, ?_⟩
              · obtain ⟨hi, rfl⟩ := hget i y hy
                rw [hcE i hi]; exact (hf i hi).1.len.1
              · obtain ⟨v, h1, h2, _⟩ := one i y j z hy hj
                rw [h1]; exact h2
              · obtain ⟨v, h1, _, h2, _⟩ := one i y j z hy hj
                rw [h1]; exact h2
              · obtain ⟨v, h1, _, _, h2⟩ := one i y j z hy hj
                rw [h1]; exact h2
              · have hl2 := (hf 0 (by omega)).1.len.2
                have := World.block_lt_of_cell? w _ ((hf 0 (by omega)).2 0 _ (List.getElem?_eq_getElem (by omega)))
                rwa [Ev.add_block] at this
      · rename_i fs hu
        split at hs
        case h_2 => cases hs
        rename_i ss' hsf
        split at hs
        case isFalse => cases hs
        rename_i hct
        simp only [Option.some.injEq] at hs; subst hs
        obtain ⟨xs, m, hm, rfl, hl, hlen, hf⟩ := DataW.trod_struct hu h
        have hl' : cs.length = ss'.length := by omega
        obtain ⟨ys, hys⟩ := fields_cells (Es := Es) (n := n) (m := m) (cs := cs) (fun t ss cs x h1 h2 h3 => ih m (by omega) n t ss cs x h1 h2 h3) fs.toList 0 ss' hsf hE (by omega) (fun f hmemf => by
          obtain ⟨i, hi⟩ := List.mem_iff_getElem?.1 hmemf
          have hi' : fs[i]? = some f := by simpa using hi
          have h1 := hf i f hi'
          have hlt : i < xs.length := by have := (List.getElem?_eq_some_iff.1 hi).1; simp at this; omega
          rw [List.getElem?_eq_getElem hlt] at h1
          exact ⟨_, h1⟩)
        refine ⟨ys, ?_⟩
        rw [List.drop_zero, List.take_of_length_le (by omega)] at hys
        exact hys
      · cases hs
/-- An argument of a struct type. -/
theorem rep_struct {H : Type} {enc : TypeId × Value → H} {base : Nat} {held : Bool} (Es : List TypeId) {t : TypeId} {ss : List Sh} {vs : Array Value} {d : DataW H} {ps : List MemPlace}
    (hEs : okEs P Es = true) (hs : shapes P 9 t = some ss) (hE : inEs Es ss) (h : DataW.Trod enc P w base (fun _ => true) held t (.agg vs) d ps) :
    ∃ xs, xs.length = ss.length ∧ (∀ (j : Nat) s x, ss[j]? = some s → xs[j]? = some x → CellOk P s x) ∧ Rep none4 (fun _ => False) zeroC w true (.agg xs) (.agg vs) := by
  obtain ⟨fuel, hf⟩ := h
  obtain ⟨xs, hx⟩ := rep_cells hEs fuel 9 t ss _ _ hs hE hf
  have hcs : (Value.agg vs).cells.toList = vs.toList := rfl
  rw [hcs] at hx
  have hl := hx.len
  refine ⟨xs, hl.1, fun j s x h1 h2 => ?_, .agg (by rw [← Array.length_toList]; omega) (fun j x hj => ?_)⟩
  · obtain ⟨s', v, h3, _, h4, _⟩ := hx.get j x h2
    rw [h1] at h3; cases h3
    exact h4
  · obtain ⟨s', v, _, h3, _, h4, _⟩ := hx.get j x hj
    have : vs.getD j undef = v := by
      rw [Array.getElem?_toList] at h3
      rw [Array.getD_eq_getD_getElem?, h3]; rfl
    rw [this]; exact h4
/-- An argument of a slice's type. -/
theorem rep_slice {H : Type} {enc : TypeId × Value → H} {base : Nat} {held : Bool} (Es : List TypeId) {t e : TypeId} {a : Option Addr} {len cap : Nat} {d : DataW H} {ps : List MemPlace}
    (hEs : okEs P Es = true) (hs : P.underlying t = some (.slice e)) (hE : e ∈ Es) (h : DataW.Trod enc P w base (fun _ => true) held t (.slice a len cap) d ps) :
    ∃ x, CellOk P (.sl e) x ∧ Rep none4 (fun _ => False) zeroC w true x (.slice a len cap) := by
  obtain ⟨fuel, hf⟩ := h
  have hsh : shapes P 9 t = some [.sl e] := by simp only [shapes, hs]
  obtain ⟨xs, hx⟩ := rep_cells hEs fuel 9 t _ _ _ hsh (fun e' he' => by simp at he'; subst he'; exact hE) hf
  have hcs : (Value.slice a len cap).cells.toList = [.slice a len cap] := rfl
  rw [hcs] at hx
  have hl := hx.len
  match xs, hl with
  | [x], _ =>
    obtain ⟨s', v, h1, h3, h2, h4, _⟩ := hx.get 0 x rfl
    simp at h1 h3; subst h1 h3
    exact ⟨x, h2, h4⟩
  | [], hl => simp at hl
  | _ :: _ :: _, hl => simp at hl
end
end Go.Ev
/- Cells of known types, told as plain things: events, rows of bytes. -/
namespace Go.Ev
set_option linter.unusedVariables false
theorem CellOk.int_inv {P : Program} {k : IntKind} {x : AV} (h : CellOk P (.int k) x) : ∃ n, x = .int k n ∧ (Lit.int k n).wf = true := by
  cases h with | int h => exact ⟨_, rfl, h⟩
theorem CellOk.bool_inv {P : Program} {x : AV} (h : CellOk P .bool x) : ∃ b, x = .bool b := by
  cases h; exact ⟨_, rfl⟩
theorem CellOk.str_inv {P : Program} {x : AV} (h : CellOk P .str x) : ∃ s, x = .str s ∧ s.size ≤ maxLen := by
  cases h with | str h => exact ⟨_, rfl, h⟩
/-- Each element of a row of structs, by its cells. -/
theorem CellOk.sl_inv {P : Program} {e : TypeId} {ss : List Sh} {x : AV} (h : CellOk P (.sl e) x) (hs : shapes P 9 e = some ss) : ∃ es : List AV, x = .fz ss.length es none ∧ es.length ≤ maxLen ∧ ∀ y ∈ es, y = mkE P e (cells y) ∧ (cells y).length = ss.length ∧ ∀ (j : Nat) s c, ss[j]? = some s → (cells y)[j]? = some c → CellOk P s c := by
  cases h with
  | @sl _ ss' es hs' hlen hl hf h =>
    rw [hs] at hs'; cases hs'
    exact ⟨es, rfl, hlen, fun y hy => ⟨hf y hy, hl y hy, h y hy⟩⟩
theorem mkE_struct {P : Program} {e : TypeId} {fs : Array Field} (hu : P.underlying e = some (.struct fs)) (xs : List AV) : mkE P e xs = .agg xs := by simp [mkE, hu]
/-- A row whose elements are each told so. -/
theorem list_of {α : Type} (f : α → AV) : ∀ (es : List AV), (∀ y ∈ es, ∃ a, y = f a) → ∃ l : List α, es = l.map f
  | [], _ => ⟨[], rfl⟩
  | y :: es, h => by
    obtain ⟨a, rfl⟩ := h y List.mem_cons_self
    obtain ⟨l, rfl⟩ := list_of f es (fun z hz => h z (List.mem_cons_of_mem _ hz))
    exact ⟨a :: l, rfl⟩
theorem xtavs_map : ∀ ps : List ET, xtavs ps = ps.map xtv
  | [] => by simp [xtavs]
  | p :: ps => by simp only [xtavs, xtav_tv, List.map_cons, xtavs_map ps]
theorem dec_ets {P : Program} {tE : TypeId} {fs : Array Field} (hu : P.underlying tE = some (.struct fs)) (hs : shapes P 9 tE = some [.int .i64, .sl tE]) : ∀ {s : Sh} {x : AV}, CellOk P s x → s = .sl tE → ∃ ps : List ET, x = .fz 2 (xtavs ps) none := by
  intro s x h
  induction h with
  | int => intro e; cases e
  | bool => intro e; cases e
  | str => intro e; cases e
  | @sl e ss es hs' hlen hl hf h ih =>
    intro e0
    cases e0
    rw [hs] at hs'; cases hs'
    obtain ⟨l, hl2⟩ := list_of xtv es (fun y hy => by
      have h1 := hl y hy
      have h2 := hf y hy
      rw [mkE_struct hu] at h2
      match hc : cells y, h1 with
      | [c0, c1], _ =>
        obtain ⟨n, rfl, _⟩ := (h y hy 0 _ c0 rfl (by rw [hc]; rfl)).int_inv
        obtain ⟨ps, rfl⟩ := ih y hy 1 _ c1 rfl (by rw [hc]; rfl) rfl
        rw [hc] at h2
        exact ⟨.mk n ps, h2⟩
      | [], h1 => simp at h1
      | [_], h1 => simp at h1
      | _ :: _ :: _ :: _, h1 => simp at h1)
    exact ⟨l, by rw [xtavs_map, ← hl2]; rfl⟩
theorem dec_ecells {P : Program} {tE : TypeId} {fs : Array Field} (hu : P.underlying tE = some (.struct fs)) (hs : shapes P 9 tE = some [.int .i64, .sl tE]) {xs : List AV} (hl : xs.length = 2)
    (h : ∀ (j : Nat) s x, ([.int .i64, .sl tE] : List Sh)[j]? = some s → xs[j]? = some x → CellOk P s x) : ∃ e : ET, xs = [.int .i64 e.n, .fz 2 (xtavs e.ps) none] := by
  match xs, hl with
  | [x0, x1], _ =>
    obtain ⟨n0, rfl, _⟩ := (h 0 _ x0 rfl rfl).int_inv
    obtain ⟨ps, rfl⟩ := dec_ets hu hs (h 1 _ x1 rfl rfl) rfl
    exact ⟨.mk n0 ps, rfl⟩
theorem dec_bytes {P : Program} {tB : TypeId} (hu : P.underlying tB = some (.int .u8)) {x : AV} (h : CellOk P (.sl tB) x) : ∃ bs : List Nat, x = .fz 1 (avs bs) none ∧ ∀ b ∈ bs, b < 256 := by
  have hs : shapes P 9 tB = some [.int .u8] := by simp only [shapes, hu]
  obtain ⟨es, rfl, _, he⟩ := h.sl_inv hs
  have key : ∀ y ∈ es, ∃ b : Nat, y = .int .u8 (b : Nat) ∧ b < 256 := by
    intro y hy
    obtain ⟨h1, h2, h3⟩ := he y hy
    match hc : cells y, h2 with
    | [c0], _ =>
      obtain ⟨n, rfl, hw⟩ := (h3 0 _ c0 rfl (by rw [hc]; rfl)).int_inv
      rw [hc] at h1
      simp [Lit.wf, IntKind.min, IntKind.max, IntKind.signed, IntKind.bits] at hw
      refine ⟨n.toNat, ?_, by omega⟩
      rw [h1]; simp only [mkE, hu, List.headD]; congr 1; omega
    | [], h2 => simp at h2
    | _ :: _ :: _, h2 => simp at h2
  obtain ⟨l, rfl⟩ := list_of (fun b : {b : Nat // b < 256} => AV.int .u8 ((b.1 : Nat) : Int)) es (fun y hy => by
    obtain ⟨b, h1, h2⟩ := key y hy
    exact ⟨⟨b, h2⟩, h1⟩)
  refine ⟨l.map (·.1), by simp [avs], ?_⟩
  intro b hb
  obtain ⟨a, _, rfl⟩ := List.mem_map.1 hb
  exact a.2
end Go.Ev
/- Versions out of a row's reading of the arguments. -/
namespace Go.Proofs.Ytmokhopjnjecbac
open Go.Ev
set_option linter.unusedVariables false
/-- The cells of a version. -/
theorem dec_vcells {P : Program} {tE : TypeId} {fs : Array Field} (hu : P.underlying tE = some (.struct fs)) (hs : shapes P 9 tE = some [.int .i64, .sl tE]) {xs : List AV} (hl : xs.length = 7)
    (h : ∀ (j : Nat) s x, ([.int .i64, .int .i64, .str, .str, .bool, .int .i64, .sl tE] : List Sh)[j]? = some s → xs[j]? = some x → CellOk P s x) : ∃ v : Ver, xs = vcs v := by
  match xs, hl with
  | [x0, x1, x2, x3, x4, x5, x6], _ =>
    obtain ⟨n0, rfl, _⟩ := (h 0 _ x0 rfl rfl).int_inv
    obtain ⟨n1, rfl, _⟩ := (h 1 _ x1 rfl rfl).int_inv
    obtain ⟨s2, rfl, _⟩ := (h 2 _ x2 rfl rfl).str_inv
    obtain ⟨s3, rfl, _⟩ := (h 3 _ x3 rfl rfl).str_inv
    obtain ⟨b4, rfl⟩ := (h 4 _ x4 rfl rfl).bool_inv
    obtain ⟨n5, rfl, _⟩ := (h 5 _ x5 rfl rfl).int_inv
    obtain ⟨ps, rfl⟩ := dec_ets hu hs (h 6 _ x6 rfl rfl) rfl
    exact ⟨⟨n0, n1, s2, s3, b4, .mk n5 ps⟩, rfl⟩
theorem dec_vers {P : Program} {tE tV : TypeId} {fs fs2 : Array Field} (hu : P.underlying tE = some (.struct fs)) (hs : shapes P 9 tE = some [.int .i64, .sl tE]) (hu2 : P.underlying tV = some (.struct fs2))
    (hs2 : shapes P 9 tV = some [.int .i64, .int .i64, .str, .str, .bool, .int .i64, .sl tE]) {x : AV} (h : CellOk P (.sl tV) x) : ∃ l : List Ver, x = .fz 7 (l.map vv) none ∧ l.length ≤ maxLen := by
  obtain ⟨es, rfl, hlen, he⟩ := h.sl_inv hs2
  obtain ⟨l, rfl⟩ := list_of vv es (fun y hy => by
    obtain ⟨h1, h2, h3⟩ := he y hy
    rw [mkE_struct hu2] at h1
    obtain ⟨v, hv⟩ := dec_vcells hu hs (xs := cells y) h2 h3
    exact ⟨v, by rw [h1, hv]⟩)
  exact ⟨l, rfl, by simpa using hlen⟩
end Go.Proofs.Ytmokhopjnjecbac
/- THE LAW VersionOrder: in whatever order versions come, and however often, the same stay: the row's function answers true and leaves memory as it was.
   The walks step through the compiled bodies; here the row's reading of the arguments is opened and the answer shut. -/
namespace Go.Proofs.Ytmokhopjnjecbac.versionOrder
open Go.ChangeShapes Go.WideShapes Go.ChangeAt Go.RowKit
open Go.Ev (PCalls Rep Reps none4 avs)
set_option linter.unusedVariables false
set_option maxRecDepth 100000
theorem own : ownKnob Try.prog.godebug = none := by kernel_rfl
theorem laidOut : laidOutB Try.prog = true := by kernel_rfl
theorem lifted (os : Os) (started : os.Started) (H : Type) (enc : TypeId × Value → H) :
    ReturnsInHanded {} Try.checked os 9 .any (Rows.versionOrderSpec.pre6 enc Try.prog Try.f9 Rows.versionOrderRow.domain false) (Rows.versionOrderSpec.post enc Try.prog Try.f9 false true false false) := by
  refine returnsInHanded_of_change_sized (C := Try.checked) own started (by kernel_rfl) Try.func9
    (ChangeSpec.witness6 (enc := enc) (C := Try.checked) false ⟨#[], #[.slice none 0 0, .int .u8 0], []⟩ 8 (by kernel_rfl) (by kernel_rfl) (by kernel_rfl) (by kernel_rfl)) ?_
  intro W base args ds gs before hval0 hW hcnd hsz0 _
  have hval : ∀ (j : Nat) t v, Try.f9.params[j]? = some t → args[j]? = some v → Value.okWide Try.prog W .any base t v := hval0
  have hW' := hW
  obtain ⟨p, q, hA0, hV, rfl, hfz, hnd⟩ := hW
  have hA : DataW.TrodAll enc Try.prog W 0 (fun _ => true) true Try.f9.params.toList args.toList ds p := hA0
  rw [Try.params9] at hA hval
  obtain ⟨v0, vs0, d0, ds0, p0, q0, hargs, rfl, rfl, h0, r0⟩ := trodAll_cons hA
  obtain ⟨v1, vs1, d1, ds1, p1, q1, rfl, rfl, rfl, h1, r1⟩ := trodAll_cons r0
  obtain ⟨rfl, rfl, rfl⟩ := trodAll_nil r1
  obtain rfl : args = #[v0, v1] := by cases args; simp_all
  obtain ⟨rfl, rfl⟩ := trodVars_none hV
  have k0 := h0
  have lt0 : ∀ x ∈ p0, x.block < W.heap.size := by obtain ⟨m, hm⟩ := k0; exact DataW.trod_lt m _ _ _ hm
  obtain ⟨a0, len0, cap0, rfl⟩ := okWide_slice Try.underlying78 (hval 0 78 v0 rfl rfl)
  obtain ⟨x0, hxc0, hrep0⟩ := Go.Ev.rep_slice [95,29] (by kernel_rfl) Try.underlying78 (by decide) h0
  obtain ⟨z0, hz0⟩ := dec_vers Try.underlying29 (by kernel_rfl) Try.underlying95 (by kernel_rfl) hxc0
  obtain ⟨hz0, hy0⟩ := hz0
  rw [hz0] at hrep0
  have k1 := h1
  have lt1 : ∀ x ∈ p1, x.block < W.heap.size := by obtain ⟨m, hm⟩ := k1; exact DataW.trod_lt m _ _ _ hm
  obtain ⟨n1, rfl, _, _, hwf1⟩ := open_int Try.underlying5 (hval 1 5 v1 rfl rfl) h1
  obtain ⟨m1, rfl, hm1⟩ : ∃ m : Nat, n1 = (m : Int) ∧ m < 256 := by
    simp [Lit.wf, IntKind.min, IntKind.max, IntKind.signed, IntKind.bits] at hwf1
    exact ⟨n1.toNat, by omega, by omega⟩
  refine ((versionOrder_calls z0 hy0 m1 hm1).calls (fun _ => False) W [.slice a0 len0 cap0, .int .u8 (m1 : Int)] (fun _ h => h.elim) (.cons hrep0 (.cons .int .nil))).mono fun e W' he => ?_
  obtain ⟨v, rfl, bel, hv⟩ := he
  cases hv
  exact ⟨_, rfl, _, _, _, [], _, [], hW', trodAll_mk1 (shut_bool Try.underlying4 _), (trodAll_cons_mk (Below.trod laidOut (by kernel_rfl) (of_decide_eq_true (by kernel_rfl)) k0 bel lt0) (trodAll_cons_mk (Below.trod laidOut (by kernel_rfl) (of_decide_eq_true (by kernel_rfl)) k1 bel lt1) trodAll_mk0)), rfl, bel.frame _, fun h => by cases h⟩
theorem over : Rows.versionOrderRow.holds Try.pinned (OpenSpec.ofChange Rows.versionOrderSpec) :=
  OpenClaim.holds_of_wide 9 Try.f9 rfl rfl rfl rfl rfl rfl rfl ⟨rfl, rfl, rfl, rfl, rfl⟩ rfl rfl rfl rfl rfl (by kernel_rfl) Try.func9 (by kernel_rfl)
    (of_decide_eq_true (by kernel_rfl)) (by unfold Func.isWrapper; first | (rw [if_pos (by decide +kernel)]; kernel_rfl) | (rw [if_neg (by decide +kernel)]; exact ⟨rfl, rfl⟩))
    (fun os started H enc _ => lifted os started H enc)
theorem proved : Rows.VersionOrderSaid := over
#print axioms proved
end Go.Proofs.Ytmokhopjnjecbac.versionOrder
namespace Go.Proofs.Ytmokhopjnjecbac
/-- The row, under a short name, for the claim. -/
theorem versionOrder_holds : Rows.VersionOrderSaid := versionOrder.proved
end Go.Proofs.Ytmokhopjnjecbac
