/- The walk through the events' functions, on. -/
import Derived.Test.YtmokhopjnjecbabM4
import Derived.Test.YtmokhopjnjecbabRows
import Derived.Eval
import Derived.KernelRfl
-- short
namespace Go.Proofs.Ytmokhopjnjecbab
open Go.Ev
set_option linter.unusedVariables false
set_option linter.unusedSimpArgs false
set_option maxRecDepth 100000
variable {R : List AV → Heap → Ctr → Prop} {k : List It} {H : Heap} {nx : Ctr} {φ : Nat}

abbrev xcloneH (o : Int) (e : Option Nat) (pre : List ET) : Heap := (0, 2, 0, some [.int .i64 0, .nils]) :: (0, 3, 0, some [.int .i64 o, accV 0 21 2 e pre.length]) :: accE 0 21 e (catCells (xtavs pre))
theorem xclone_loop (a : ET) (hs : a.size < 2 ^ 32) (ihd : ∀ p ∈ a.ps, PCalls Try.prog F_event_clone [xtv p] (xtv p)) : ∀ (post pre : List ET), a.ps = pre ++ post → ∀ (e : Option Nat) (nx : Ctr), (e = none → pre = []) →
    RunsX Try.prog 0 (Gives [.cn 2 2] (xtv a)) (i_event_clone_0 ++ [.c c_event_clone_k0]) (s_event_clone_0 (.ptr 0 2 0 0) (.ptr 0 3 0 0) (.fz 2 (xtavs a.ps) none) (.int .i64 (a.ps.length : Nat)) (.int .i64 (pre.length : Nat))) (xcloneH a.n e pre) nx := by
  have hls := xlen_size a
  intro post
  induction post with
  | nil =>
    intro pre h1 e nx he
    rw [List.append_nil] at h1
    have h5 : a.ps.length = pre.length := by rw [h1]
    refine round (its := [.blk 0 wb_event_clone_0]) (k0 := [.c c_event_clone_k0]) 100 trivial trivial (fun A eA => ?_)
    cases e with
    | none =>
      have hp := he rfl
      simp (disch := first | omega | (simp only [avs_len, List.length_cons, List.length_append, List.length_nil, List.length_take, List.length_drop, List.length_map]; omega) | (simp only [cells, scal1, allSz, List.length_cons, List.length_nil, List.length_append, List.length_map, List.all_cons, List.all_nil, avs_len, beq_self_eq_true, Bool.and_self, and_self, or_true, true_or, reduceCtorEq, *]; done) | fail) only [c_event_clone, wl_event_clone_0, s_event_clone_0, c_event_clone_l0, wb_event_clone_0, c_event_clone_k0, go_sem, Nat.reduceAdd, Nat.reduceSub, Nat.reduceMul, Nat.reduceLT, Nat.reduceLeDiff, Int.reduceToNat, Nat.reduceEqDiff, Nat.reduceBEq, ↓reduceIte, reduceCtorEq, eA, xcloneH, accV, accE]
      refine walk0 (its := [.c c_event_clone_k0]) 100 trivial (fun A eA => ?_)
      simp (disch := first | omega | (simp only [avs_len, List.length_cons, List.length_append, List.length_nil, List.length_take, List.length_drop, List.length_map]; omega) | (simp only [cells, scal1, allSz, List.length_cons, List.length_nil, List.length_append, List.length_map, List.all_cons, List.all_nil, avs_len, beq_self_eq_true, Bool.and_self, and_self, or_true, true_or, reduceCtorEq, *]; done) | fail) only [c_event_clone, wl_event_clone_0, s_event_clone_0, c_event_clone_l0, wb_event_clone_0, c_event_clone_k0, go_sem, Nat.reduceAdd, Nat.reduceSub, Nat.reduceMul, Nat.reduceLT, Nat.reduceLeDiff, Int.reduceToNat, Nat.reduceEqDiff, Nat.reduceBEq, ↓reduceIte, reduceCtorEq, eA, scal1, List.all_cons, List.all_nil, Bool.and_self]
      refine doneW rfl ?_
      have := xwk_leaf a.n
      show Wk1 _ (.agg [.int .i64 a.n, .fz 2 (xtavs a.ps) none])
      rw [h1, hp]; exact this
    | some g =>
      simp (disch := first | omega | (simp only [avs_len, List.length_cons, List.length_append, List.length_nil, List.length_take, List.length_drop, List.length_map]; omega) | (simp only [cells, scal1, allSz, List.length_cons, List.length_nil, List.length_append, List.length_map, List.all_cons, List.all_nil, avs_len, beq_self_eq_true, Bool.and_self, and_self, or_true, true_or, reduceCtorEq, *]; done) | fail) only [c_event_clone, wl_event_clone_0, s_event_clone_0, c_event_clone_l0, wb_event_clone_0, c_event_clone_k0, go_sem, Nat.reduceAdd, Nat.reduceSub, Nat.reduceMul, Nat.reduceLT, Nat.reduceLeDiff, Int.reduceToNat, Nat.reduceEqDiff, Nat.reduceBEq, ↓reduceIte, reduceCtorEq, eA, xcloneH, accV, accE]
      refine walk0 (its := [.c c_event_clone_k0]) 100 trivial (fun A eA => ?_)
      simp (disch := first | omega | (simp only [avs_len, List.length_cons, List.length_append, List.length_nil, List.length_take, List.length_drop, List.length_map]; omega) | (simp only [cells, scal1, allSz, List.length_cons, List.length_nil, List.length_append, List.length_map, List.all_cons, List.all_nil, avs_len, beq_self_eq_true, Bool.and_self, and_self, or_true, true_or, reduceCtorEq, *]; done) | fail) only [c_event_clone, wl_event_clone_0, s_event_clone_0, c_event_clone_l0, wb_event_clone_0, c_event_clone_k0, go_sem, Nat.reduceAdd, Nat.reduceSub, Nat.reduceMul, Nat.reduceLT, Nat.reduceLeDiff, Int.reduceToNat, Nat.reduceEqDiff, Nat.reduceBEq, ↓reduceIte, reduceCtorEq, eA, scal1, List.all_cons, List.all_nil, Bool.and_self]
      refine doneG ?_
      simp (disch := first | omega | (simp only [avs_len, List.length_cons, List.length_append, List.length_nil, List.length_take, List.length_drop, List.length_map]; omega) | (simp only [cells, scal1, allSz, List.length_cons, List.length_nil, List.length_append, List.length_map, List.all_cons, List.all_nil, avs_len, beq_self_eq_true, Bool.and_self, and_self, or_true, true_or, reduceCtorEq, *]; done) | fail) only [go_sem, Nat.reduceAdd, Nat.reduceSub, Nat.reduceMul, Nat.reduceLT, Nat.reduceLeDiff, Int.reduceToNat, Nat.reduceEqDiff, Nat.reduceBEq, ↓reduceIte, reduceCtorEq, xcat_len, xcat_take, ↓xfrz_cat, xchunk_cat]
      show _ = some (AV.agg [.int .i64 a.n, .fz 2 (xtavs a.ps) none])
      rw [h1]
  | cons p post ih =>
    intro pre h1 e nx he
    have hlt : pre.length < a.ps.length := by rw [h1]; simp
    have hpm : p ∈ a.ps := by rw [h1]; simp
    have hpz := xsize_lt hpm
    have g0 : (xtavs a.ps)[pre.length]? = some (xtv p) := by rw [xtavs_get, h1]; simp
    have w1 : IntKind.i64.wrap ((pre.length : Int) + 1) = ((pre.length + 1 : Nat) : Int) := by rw [IntKind.wrap_i64]; omega
    refine round (its := [.blk 0 wb_event_clone_0]) (k0 := [.c c_event_clone_k0]) 100 trivial trivial (fun A eA => ?_)
    cases e with
    | none =>
      have hp := he rfl
      simp (disch := first | omega | (simp only [avs_len, List.length_cons, List.length_append, List.length_nil, List.length_take, List.length_drop, List.length_map]; omega) | (simp only [cells, scal1, allSz, List.length_cons, List.length_nil, List.length_append, List.length_map, List.all_cons, List.all_nil, avs_len, beq_self_eq_true, Bool.and_self, and_self, or_true, true_or, reduceCtorEq, *]; done) | fail) only [c_event_clone, wl_event_clone_0, s_event_clone_0, c_event_clone_l0, wb_event_clone_0, c_event_clone_k0, go_sem, Nat.reduceAdd, Nat.reduceSub, Nat.reduceMul, Nat.reduceLT, Nat.reduceLeDiff, Int.reduceToNat, Nat.reduceEqDiff, Nat.reduceBEq, ↓reduceIte, reduceCtorEq, eA, Int.toNat_natCast, g0, scal1, List.all_cons, List.all_nil, Bool.and_self, xcloneH, accV, accE]
      refine call0 100 trivial trivial (ihd p hpm) (.inl rfl) (fun A eA => ?_)
      simp (disch := first | omega | (simp only [avs_len, List.length_cons, List.length_append, List.length_nil, List.length_take, List.length_drop, List.length_map]; omega) | (simp only [cells, scal1, allSz, List.length_cons, List.length_nil, List.length_append, List.length_map, List.all_cons, List.all_nil, avs_len, beq_self_eq_true, Bool.and_self, and_self, or_true, true_or, reduceCtorEq, *]; done) | fail) only [c_event_clone, wl_event_clone_0, s_event_clone_0, c_event_clone_l0, wb_event_clone_0, c_event_clone_k0, go_sem, Nat.reduceAdd, Nat.reduceSub, Nat.reduceMul, Nat.reduceLT, Nat.reduceLeDiff, Int.reduceToNat, Nat.reduceEqDiff, Nat.reduceBEq, ↓reduceIte, reduceCtorEq, eA, w1, ↓appK, allSz, catCells, cells, scal1, List.all_cons, List.all_nil, Bool.and_self, beq_self_eq_true]
      have hih := ih (pre ++ [p]) (by rw [h1]; simp) (some (nx 21)) (bump (bump nx 5) 21) (by simp)
      simp only [xcloneH, List.length_append, List.length_cons, List.length_nil, Nat.zero_add, xcat_snoc] at hih
      subst hp
      exact hih
    | some g =>
      simp (disch := first | omega | (simp only [avs_len, List.length_cons, List.length_append, List.length_nil, List.length_take, List.length_drop, List.length_map]; omega) | (simp only [cells, scal1, allSz, List.length_cons, List.length_nil, List.length_append, List.length_map, List.all_cons, List.all_nil, avs_len, beq_self_eq_true, Bool.and_self, and_self, or_true, true_or, reduceCtorEq, *]; done) | fail) only [c_event_clone, wl_event_clone_0, s_event_clone_0, c_event_clone_l0, wb_event_clone_0, c_event_clone_k0, go_sem, Nat.reduceAdd, Nat.reduceSub, Nat.reduceMul, Nat.reduceLT, Nat.reduceLeDiff, Int.reduceToNat, Nat.reduceEqDiff, Nat.reduceBEq, ↓reduceIte, reduceCtorEq, eA, Int.toNat_natCast, g0, scal1, List.all_cons, List.all_nil, Bool.and_self, xcloneH, accV, accE]
      refine call0 100 trivial trivial (ihd p hpm) (.inl rfl) (fun A eA => ?_)
      simp (disch := first | omega | (simp only [avs_len, List.length_cons, List.length_append, List.length_nil, List.length_take, List.length_drop, List.length_map]; omega) | (simp only [cells, scal1, allSz, List.length_cons, List.length_nil, List.length_append, List.length_map, List.all_cons, List.all_nil, avs_len, beq_self_eq_true, Bool.and_self, and_self, or_true, true_or, reduceCtorEq, *]; done) | fail) only [c_event_clone, wl_event_clone_0, s_event_clone_0, c_event_clone_l0, wb_event_clone_0, c_event_clone_k0, go_sem, Nat.reduceAdd, Nat.reduceSub, Nat.reduceMul, Nat.reduceLT, Nat.reduceLeDiff, Int.reduceToNat, Nat.reduceEqDiff, Nat.reduceBEq, ↓reduceIte, reduceCtorEq, eA, w1, ↓appK, allSz, catCells, cells, xcat_len, scal1, List.all_cons, List.all_nil, Bool.and_self, beq_self_eq_true]
      have hih := ih (pre ++ [p]) (by rw [h1]; simp) (some (nx 21)) (bump (bump nx 5) 21) (by simp)
      simp only [xcloneH, List.length_append, List.length_cons, List.length_nil, Nat.zero_add, xcat_snoc] at hih
      exact hih
theorem xclone_calls : ∀ (t : ET), t.size < 2 ^ 32 → PCalls Try.prog F_event_clone [xtv t] (xtv t) := by
  intro t
  induction t using ET.ind with
  | h t ih =>
    intro hs
    refine calls_event_clone (walk0 100 trivial (fun A eA => ?_))
    simp (disch := first | omega | (simp only [avs_len, List.length_cons, List.length_append, List.length_nil, List.length_take, List.length_drop, List.length_map]; omega) | (simp only [cells, scal1, allSz, List.length_cons, List.length_nil, List.length_append, List.length_map, List.all_cons, List.all_nil, avs_len, beq_self_eq_true, Bool.and_self, and_self, or_true, true_or, reduceCtorEq, *]; done) | fail) only [c_event_clone, wl_event_clone_0, s_event_clone_0, c_event_clone_l0, wb_event_clone_0, c_event_clone_k0, go_sem, Nat.reduceAdd, Nat.reduceSub, Nat.reduceMul, Nat.reduceLT, Nat.reduceLeDiff, Int.reduceToNat, Nat.reduceEqDiff, Nat.reduceBEq, ↓reduceIte, reduceCtorEq, eA, scal1, xtavs_len, List.all_cons, List.all_nil, Bool.and_self]
    exact xclone_loop t hs (fun p hp => ih p hp (by have := xsize_lt hp; omega)) t.ps [] rfl none _ (fun _ => rfl)
noncomputable def xcloneT (t : ET) : ET := if xflatb 8 t then t else .mk 0 []
theorem xClone_calls (t : ET) (hs : t.size < 2 ^ 32) : PCalls Try.prog F_event_Clone [xtv t] (xtv (xcloneT t)) := by
  refine calls_event_Clone (walk0 100 trivial (fun A eA => ?_))
  simp (disch := first | omega | (simp only [avs_len, List.length_cons, List.length_append, List.length_nil, List.length_take, List.length_drop, List.length_map]; omega) | (simp only [cells, scal1, allSz, List.length_cons, List.length_nil, List.length_append, List.length_map, List.all_cons, List.all_nil, avs_len, beq_self_eq_true, Bool.and_self, and_self, or_true, true_or, reduceCtorEq, *]; done) | fail) only [c_event_Clone, go_sem, Nat.reduceAdd, Nat.reduceSub, Nat.reduceMul, Nat.reduceLT, Nat.reduceLeDiff, Int.reduceToNat, Nat.reduceEqDiff, Nat.reduceBEq, ↓reduceIte, reduceCtorEq, eA, scal1, xtavs_len]
  refine call0 100 trivial trivial (xshallow_calls 8 t (by omega) (by omega)) (.inl rfl) (fun A eA => ?_)
  cases hq : xflatb 8 t with
  | false =>
    simp (disch := first | omega | (simp only [avs_len, List.length_cons, List.length_append, List.length_nil, List.length_take, List.length_drop, List.length_map]; omega) | (simp only [cells, scal1, allSz, List.length_cons, List.length_nil, List.length_append, List.length_map, List.all_cons, List.all_nil, avs_len, beq_self_eq_true, Bool.and_self, and_self, or_true, true_or, reduceCtorEq, *]; done) | fail) only [c_event_Clone, go_sem, Nat.reduceAdd, Nat.reduceSub, Nat.reduceMul, Nat.reduceLT, Nat.reduceLeDiff, Int.reduceToNat, Nat.reduceEqDiff, Nat.reduceBEq, ↓reduceIte, reduceCtorEq, eA, scal1, List.all_cons, List.all_nil, Bool.and_self]
    rw [show xcloneT t = .mk 0 [] by simp [xcloneT, hq]]
    exact doneW rfl (xwk_leaf 0)
  | true =>
    simp (disch := first | omega | (simp only [avs_len, List.length_cons, List.length_append, List.length_nil, List.length_take, List.length_drop, List.length_map]; omega) | (simp only [cells, scal1, allSz, List.length_cons, List.length_nil, List.length_append, List.length_map, List.all_cons, List.all_nil, avs_len, beq_self_eq_true, Bool.and_self, and_self, or_true, true_or, reduceCtorEq, *]; done) | fail) only [c_event_Clone, go_sem, Nat.reduceAdd, Nat.reduceSub, Nat.reduceMul, Nat.reduceLT, Nat.reduceLeDiff, Int.reduceToNat, Nat.reduceEqDiff, Nat.reduceBEq, ↓reduceIte, reduceCtorEq, eA, scal1, List.all_cons, List.all_nil, Bool.and_self]
    refine call0 100 trivial trivial (xclone_calls t hs) (.inl rfl) (fun A eA => ?_)
    simp (disch := first | omega | (simp only [avs_len, List.length_cons, List.length_append, List.length_nil, List.length_take, List.length_drop, List.length_map]; omega) | (simp only [cells, scal1, allSz, List.length_cons, List.length_nil, List.length_append, List.length_map, List.all_cons, List.all_nil, avs_len, beq_self_eq_true, Bool.and_self, and_self, or_true, true_or, reduceCtorEq, *]; done) | fail) only [c_event_Clone, go_sem, Nat.reduceAdd, Nat.reduceSub, Nat.reduceMul, Nat.reduceLT, Nat.reduceLeDiff, Int.reduceToNat, Nat.reduceEqDiff, Nat.reduceBEq, ↓reduceIte, reduceCtorEq, eA, scal1, List.all_cons, List.all_nil, Bool.and_self]
    rw [show xcloneT t = t by simp [xcloneT, hq]]
    exact doneG rfl
theorem xdeep_loop (d : Nat) (hd : d < 1000) (ihd : ∀ t : ET, t.size < 2 ^ 60 → PCalls Try.prog F_ref04_EDeep [xtv t, .int .i64 (d : Nat)] (.int .i64 (xdeep d t : Nat))) (a : ET) (hs : a.size < 2 ^ 60) : ∀ (post pre : List ET), a.ps = pre ++ post → ∀ (n : Nat) (nx : Ctr), n ≤ 2000 →
    RunsX Try.prog 0 (Gives [.t 4] (.int .i64 ((xdeepL (xdeep d) n post + 1 : Nat) : Int))) (i_ref04_EDeep_0 ++ [.c c_ref04_EDeep_k0]) (s_ref04_EDeep_0 (.int .i64 ((d + 1 : Nat) : Int)) (.ro [.int .i64 a.n, .fz 2 (xtavs a.ps) none]) (.int .i64 (n : Nat)) (.int .i64 (a.ps.length : Nat)) (.int .i64 (pre.length : Nat))) [] nx := by
  have hls := xlen_size a
  intro post
  induction post with
  | nil =>
    intro pre h1 n nx hn
    have h5 : a.ps.length = pre.length := by rw [h1]; simp
    have w1 : IntKind.i64.wrap ((n : Int) + 1) = ((n + 1 : Nat) : Int) := by rw [IntKind.wrap_i64]; omega
    refine round (its := [.blk 0 wb_ref04_EDeep_0]) (k0 := [.c c_ref04_EDeep_k0]) 100 trivial trivial (fun A eA => ?_)
    simp (disch := first | omega | (simp only [avs_len, List.length_cons, List.length_append, List.length_nil, List.length_take, List.length_drop, List.length_map]; omega) | (simp only [cells, scal1, allSz, List.length_cons, List.length_nil, List.length_append, List.length_map, List.all_cons, List.all_nil, avs_len, beq_self_eq_true, Bool.and_self, and_self, or_true, true_or, reduceCtorEq, *]; done) | fail) only [c_ref04_EDeep, wl_ref04_EDeep_0, s_ref04_EDeep_0, c_ref04_EDeep_l0, wb_ref04_EDeep_0, c_ref04_EDeep_k0, go_sem, Nat.reduceAdd, Nat.reduceSub, Nat.reduceMul, Nat.reduceLT, Nat.reduceLeDiff, Int.reduceToNat, Nat.reduceEqDiff, Nat.reduceBEq, ↓reduceIte, reduceCtorEq, eA]
    refine walk0 (its := [.c c_ref04_EDeep_k0]) 100 trivial (fun A eA => ?_)
    simp (disch := first | omega | (simp only [avs_len, List.length_cons, List.length_append, List.length_nil, List.length_take, List.length_drop, List.length_map]; omega) | (simp only [cells, scal1, allSz, List.length_cons, List.length_nil, List.length_append, List.length_map, List.all_cons, List.all_nil, avs_len, beq_self_eq_true, Bool.and_self, and_self, or_true, true_or, reduceCtorEq, *]; done) | fail) only [c_ref04_EDeep, wl_ref04_EDeep_0, s_ref04_EDeep_0, c_ref04_EDeep_l0, wb_ref04_EDeep_0, c_ref04_EDeep_k0, go_sem, Nat.reduceAdd, Nat.reduceSub, Nat.reduceMul, Nat.reduceLT, Nat.reduceLeDiff, Int.reduceToNat, Nat.reduceEqDiff, Nat.reduceBEq, ↓reduceIte, reduceCtorEq, eA, w1]
    exact doneG rfl
  | cons p post ih =>
    intro pre h1 n nx hn
    have hlt : pre.length < a.ps.length := by rw [h1]; simp
    have hpm : p ∈ a.ps := by rw [h1]; simp
    have hpz := xsize_lt hpm
    have g0 : (xtavs a.ps)[pre.length]? = some (xtv p) := by rw [xtavs_get, h1]; simp
    have w1 : IntKind.i64.wrap ((pre.length : Int) + 1) = ((pre.length + 1 : Nat) : Int) := by rw [IntKind.wrap_i64]; omega
    have w2 : IntKind.i64.wrap (((d + 1 : Nat) : Int) - 1) = ((d : Nat) : Int) := by rw [IntKind.wrap_i64]; omega
    have hm := xdeep_max d p
    have w3 : (if ((xdeep d p : Nat) : Int) > (n : Int) then ((xdeep d p : Nat) : Int) else (n : Int)) = ((max n (xdeep d p) : Nat) : Int) := by split <;> omega
    refine round (its := [.blk 0 wb_ref04_EDeep_0]) (k0 := [.c c_ref04_EDeep_k0]) 100 trivial trivial (fun A eA => ?_)
    simp (disch := first | omega | (simp only [avs_len, List.length_cons, List.length_append, List.length_nil, List.length_take, List.length_drop, List.length_map]; omega) | (simp only [cells, scal1, allSz, List.length_cons, List.length_nil, List.length_append, List.length_map, List.all_cons, List.all_nil, avs_len, beq_self_eq_true, Bool.and_self, and_self, or_true, true_or, reduceCtorEq, *]; done) | fail) only [c_ref04_EDeep, wl_ref04_EDeep_0, s_ref04_EDeep_0, c_ref04_EDeep_l0, wb_ref04_EDeep_0, c_ref04_EDeep_k0, go_sem, Nat.reduceAdd, Nat.reduceSub, Nat.reduceMul, Nat.reduceLT, Nat.reduceLeDiff, Int.reduceToNat, Nat.reduceEqDiff, Nat.reduceBEq, ↓reduceIte, reduceCtorEq, eA, Int.toNat_natCast, g0, w2, scal1, List.all_cons, List.all_nil, Bool.and_self]
    refine call0 100 trivial trivial (ihd p (by omega)) (.inl rfl) (fun A eA => ?_)
    simp (disch := first | omega | (simp only [avs_len, List.length_cons, List.length_append, List.length_nil, List.length_take, List.length_drop, List.length_map]; omega) | (simp only [cells, scal1, allSz, List.length_cons, List.length_nil, List.length_append, List.length_map, List.all_cons, List.all_nil, avs_len, beq_self_eq_true, Bool.and_self, and_self, or_true, true_or, reduceCtorEq, *]; done) | fail) only [c_ref04_EDeep, wl_ref04_EDeep_0, s_ref04_EDeep_0, c_ref04_EDeep_l0, wb_ref04_EDeep_0, c_ref04_EDeep_k0, go_sem, Nat.reduceAdd, Nat.reduceSub, Nat.reduceMul, Nat.reduceLT, Nat.reduceLeDiff, Int.reduceToNat, Nat.reduceEqDiff, Nat.reduceBEq, ↓reduceIte, reduceCtorEq, eA, w1, w3]
    simp only [xdeepL]
    have hih := ih (pre ++ [p]) (by rw [h1]; simp) (max n (xdeep d p)) nx (by omega)
    rw [show (pre ++ [p]).length = pre.length + 1 by simp] at hih
    exact hih
theorem xdeep_calls : ∀ (d : Nat) (t : ET), d < 1000 → t.size < 2 ^ 60 → PCalls Try.prog F_ref04_EDeep [xtv t, .int .i64 (d : Nat)] (.int .i64 (xdeep d t : Nat)) := by
  intro d
  induction d with
  | zero =>
    intro t _ _
    refine calls_ref04_EDeep (walk0 100 trivial (fun A eA => ?_))
    simp (disch := first | omega | (simp only [avs_len, List.length_cons, List.length_append, List.length_nil, List.length_take, List.length_drop, List.length_map]; omega) | (simp only [cells, scal1, allSz, List.length_cons, List.length_nil, List.length_append, List.length_map, List.all_cons, List.all_nil, avs_len, beq_self_eq_true, Bool.and_self, and_self, or_true, true_or, reduceCtorEq, *]; done) | fail) only [c_ref04_EDeep, wl_ref04_EDeep_0, s_ref04_EDeep_0, c_ref04_EDeep_l0, wb_ref04_EDeep_0, c_ref04_EDeep_k0, go_sem, Nat.reduceAdd, Nat.reduceSub, Nat.reduceMul, Nat.reduceLT, Nat.reduceLeDiff, Int.reduceToNat, Nat.reduceEqDiff, Nat.reduceBEq, ↓reduceIte, reduceCtorEq, eA, scal1, xtavs_len]
    exact doneG rfl
  | succ d ih =>
    intro t hd hs
    refine calls_ref04_EDeep (walk0 100 trivial (fun A eA => ?_))
    simp (disch := first | omega | (simp only [avs_len, List.length_cons, List.length_append, List.length_nil, List.length_take, List.length_drop, List.length_map]; omega) | (simp only [cells, scal1, allSz, List.length_cons, List.length_nil, List.length_append, List.length_map, List.all_cons, List.all_nil, avs_len, beq_self_eq_true, Bool.and_self, and_self, or_true, true_or, reduceCtorEq, *]; done) | fail) only [c_ref04_EDeep, wl_ref04_EDeep_0, s_ref04_EDeep_0, c_ref04_EDeep_l0, wb_ref04_EDeep_0, c_ref04_EDeep_k0, go_sem, Nat.reduceAdd, Nat.reduceSub, Nat.reduceMul, Nat.reduceLT, Nat.reduceLeDiff, Int.reduceToNat, Nat.reduceEqDiff, Nat.reduceBEq, ↓reduceIte, reduceCtorEq, eA, scal1, xtavs_len]
    exact xdeep_loop d (by omega) (fun t h => ih t (by omega) h) t hs t.ps [] rfl 0 zeroC (by omega)
theorem xlcount_loop (d : Nat) (hd : d < 1000) (ihd : ∀ t : ET, PCalls Try.prog F_law05_count [xtv t, .int .i64 (d : Nat)] (.int .i64 (xlcnt d t : Nat))) (a : ET) : ∀ (post pre : List ET), a.ps = pre ++ post → ∀ (n : Nat) (nx : Ctr), n ≤ 1000 → pre.length ≤ n →
    RunsX Try.prog 0 (Gives [.t 4] (.int .i64 (xlcntL (xlcnt d) n post : Nat))) (i_law05_count_0 ++ [.c c_law05_count_k0]) (s_law05_count_0 (.int .i64 ((d + 1 : Nat) : Int)) (.ro [.int .i64 a.n, .fz 2 (xtavs a.ps) none]) (.int .i64 (n : Nat)) (.int .i64 (a.ps.length : Nat)) (.int .i64 (pre.length : Nat))) [] nx := by
  intro post
  induction post with
  | nil =>
    intro pre h1 n nx hn hpn
    have h5 : a.ps.length = pre.length := by rw [h1]; simp
    refine round (its := [.blk 0 wb_law05_count_0]) (k0 := [.c c_law05_count_k0]) 100 trivial trivial (fun A eA => ?_)
    simp (disch := first | omega | (simp only [avs_len, List.length_cons, List.length_append, List.length_nil, List.length_take, List.length_drop, List.length_map]; omega) | (simp only [cells, scal1, allSz, List.length_cons, List.length_nil, List.length_append, List.length_map, List.all_cons, List.all_nil, avs_len, beq_self_eq_true, Bool.and_self, and_self, or_true, true_or, reduceCtorEq, *]; done) | fail) only [c_law05_count, wl_law05_count_0, s_law05_count_0, c_law05_count_l0, wb_law05_count_0, c_law05_count_k0, go_sem, Nat.reduceAdd, Nat.reduceSub, Nat.reduceMul, Nat.reduceLT, Nat.reduceLeDiff, Int.reduceToNat, Nat.reduceEqDiff, Nat.reduceBEq, ↓reduceIte, reduceCtorEq, eA]
    refine walk0 (its := [.c c_law05_count_k0]) 100 trivial (fun A eA => ?_)
    simp (disch := first | omega | (simp only [avs_len, List.length_cons, List.length_append, List.length_nil, List.length_take, List.length_drop, List.length_map]; omega) | (simp only [cells, scal1, allSz, List.length_cons, List.length_nil, List.length_append, List.length_map, List.all_cons, List.all_nil, avs_len, beq_self_eq_true, Bool.and_self, and_self, or_true, true_or, reduceCtorEq, *]; done) | fail) only [c_law05_count, wl_law05_count_0, s_law05_count_0, c_law05_count_l0, wb_law05_count_0, c_law05_count_k0, go_sem, Nat.reduceAdd, Nat.reduceSub, Nat.reduceMul, Nat.reduceLT, Nat.reduceLeDiff, Int.reduceToNat, Nat.reduceEqDiff, Nat.reduceBEq, ↓reduceIte, reduceCtorEq, eA]
    exact doneG rfl
  | cons p post ih =>
    intro pre h1 n nx hn hpn
    have hlt : pre.length < a.ps.length := by rw [h1]; simp
    have hpm : p ∈ a.ps := by rw [h1]; simp
    have g0 : (xtavs a.ps)[pre.length]? = some (xtv p) := by rw [xtavs_get, h1]; simp
    have w1 : IntKind.i64.wrap ((pre.length : Int) + 1) = ((pre.length + 1 : Nat) : Int) := by rw [IntKind.wrap_i64]; omega
    have w2 : IntKind.i64.wrap (((d + 1 : Nat) : Int) - 1) = ((d : Nat) : Int) := by rw [IntKind.wrap_i64]; omega
    have hm := xlcnt_le d p
    have hm1 := xlcnt_pos d p
    have w3 : IntKind.i64.wrap ((n : Int) + (xlcnt d p : Nat)) = ((n + xlcnt d p : Nat) : Int) := by rw [IntKind.wrap_i64]; omega
    refine round (its := [.blk 0 wb_law05_count_0]) (k0 := [.c c_law05_count_k0]) 100 trivial trivial (fun A eA => ?_)
    simp (disch := first | omega | (simp only [avs_len, List.length_cons, List.length_append, List.length_nil, List.length_take, List.length_drop, List.length_map]; omega) | (simp only [cells, scal1, allSz, List.length_cons, List.length_nil, List.length_append, List.length_map, List.all_cons, List.all_nil, avs_len, beq_self_eq_true, Bool.and_self, and_self, or_true, true_or, reduceCtorEq, *]; done) | fail) only [c_law05_count, wl_law05_count_0, s_law05_count_0, c_law05_count_l0, wb_law05_count_0, c_law05_count_k0, go_sem, Nat.reduceAdd, Nat.reduceSub, Nat.reduceMul, Nat.reduceLT, Nat.reduceLeDiff, Int.reduceToNat, Nat.reduceEqDiff, Nat.reduceBEq, ↓reduceIte, reduceCtorEq, eA, Int.toNat_natCast, g0, w2, scal1, List.all_cons, List.all_nil, Bool.and_self]
    refine call0 100 trivial trivial (ihd p) (.inl rfl) (fun A eA => ?_)
    by_cases hq : 1000 < n + xlcnt d p
    · simp only [xlcntL, if_pos hq]
      simp (disch := first | omega | (simp only [avs_len, List.length_cons, List.length_append, List.length_nil, List.length_take, List.length_drop, List.length_map]; omega) | (simp only [cells, scal1, allSz, List.length_cons, List.length_nil, List.length_append, List.length_map, List.all_cons, List.all_nil, avs_len, beq_self_eq_true, Bool.and_self, and_self, or_true, true_or, reduceCtorEq, *]; done) | fail) only [c_law05_count, wl_law05_count_0, s_law05_count_0, c_law05_count_l0, wb_law05_count_0, c_law05_count_k0, go_sem, Nat.reduceAdd, Nat.reduceSub, Nat.reduceMul, Nat.reduceLT, Nat.reduceLeDiff, Int.reduceToNat, Nat.reduceEqDiff, Nat.reduceBEq, ↓reduceIte, reduceCtorEq, eA, w3]
      exact doneG rfl
    · simp only [xlcntL, if_neg hq]
      simp (disch := first | omega | (simp only [avs_len, List.length_cons, List.length_append, List.length_nil, List.length_take, List.length_drop, List.length_map]; omega) | (simp only [cells, scal1, allSz, List.length_cons, List.length_nil, List.length_append, List.length_map, List.all_cons, List.all_nil, avs_len, beq_self_eq_true, Bool.and_self, and_self, or_true, true_or, reduceCtorEq, *]; done) | fail) only [c_law05_count, wl_law05_count_0, s_law05_count_0, c_law05_count_l0, wb_law05_count_0, c_law05_count_k0, go_sem, Nat.reduceAdd, Nat.reduceSub, Nat.reduceMul, Nat.reduceLT, Nat.reduceLeDiff, Int.reduceToNat, Nat.reduceEqDiff, Nat.reduceBEq, ↓reduceIte, reduceCtorEq, eA, w1, w3]
      have hih := ih (pre ++ [p]) (by rw [h1]; simp) (n + xlcnt d p) nx (by omega) (by simp; omega)
      rw [show (pre ++ [p]).length = pre.length + 1 by simp] at hih
      exact hih
theorem xlcount_calls : ∀ (d : Nat) (t : ET), d < 1000 → PCalls Try.prog F_law05_count [xtv t, .int .i64 (d : Nat)] (.int .i64 (xlcnt d t : Nat)) := by
  intro d
  induction d with
  | zero =>
    intro t _
    refine calls_law05_count (walk0 100 trivial (fun A eA => ?_))
    simp (disch := first | omega | (simp only [avs_len, List.length_cons, List.length_append, List.length_nil, List.length_take, List.length_drop, List.length_map]; omega) | (simp only [cells, scal1, allSz, List.length_cons, List.length_nil, List.length_append, List.length_map, List.all_cons, List.all_nil, avs_len, beq_self_eq_true, Bool.and_self, and_self, or_true, true_or, reduceCtorEq, *]; done) | fail) only [c_law05_count, wl_law05_count_0, s_law05_count_0, c_law05_count_l0, wb_law05_count_0, c_law05_count_k0, go_sem, Nat.reduceAdd, Nat.reduceSub, Nat.reduceMul, Nat.reduceLT, Nat.reduceLeDiff, Int.reduceToNat, Nat.reduceEqDiff, Nat.reduceBEq, ↓reduceIte, reduceCtorEq, eA, scal1, xtavs_len]
    exact doneG rfl
  | succ d ih =>
    intro t hd
    refine calls_law05_count (walk0 100 trivial (fun A eA => ?_))
    simp (disch := first | omega | (simp only [avs_len, List.length_cons, List.length_append, List.length_nil, List.length_take, List.length_drop, List.length_map]; omega) | (simp only [cells, scal1, allSz, List.length_cons, List.length_nil, List.length_append, List.length_map, List.all_cons, List.all_nil, avs_len, beq_self_eq_true, Bool.and_self, and_self, or_true, true_or, reduceCtorEq, *]; done) | fail) only [c_law05_count, wl_law05_count_0, s_law05_count_0, c_law05_count_l0, wb_law05_count_0, c_law05_count_k0, go_sem, Nat.reduceAdd, Nat.reduceSub, Nat.reduceMul, Nat.reduceLT, Nat.reduceLeDiff, Int.reduceToNat, Nat.reduceEqDiff, Nat.reduceBEq, ↓reduceIte, reduceCtorEq, eA, scal1, xtavs_len]
    exact xlcount_loop d (by omega) (fun t => ih t (by omega)) t t.ps [] rfl 1 zeroC (by omega) (by simp)
theorem xFew_calls (t : ET) : PCalls Try.prog F_law05_Few [xtv t, .int .i64 30] (.bool (decide (xlcnt 30 t ≤ 1000))) := by
  refine calls_law05_Few (walk0 100 trivial (fun A eA => ?_))
  simp (disch := first | omega | (simp only [avs_len, List.length_cons, List.length_append, List.length_nil, List.length_take, List.length_drop, List.length_map]; omega) | (simp only [cells, scal1, allSz, List.length_cons, List.length_nil, List.length_append, List.length_map, List.all_cons, List.all_nil, avs_len, beq_self_eq_true, Bool.and_self, and_self, or_true, true_or, reduceCtorEq, *]; done) | fail) only [c_law05_Few, go_sem, Nat.reduceAdd, Nat.reduceSub, Nat.reduceMul, Nat.reduceLT, Nat.reduceLeDiff, Int.reduceToNat, Nat.reduceEqDiff, Nat.reduceBEq, ↓reduceIte, reduceCtorEq, eA, scal1, xtavs_len]
  refine call0 100 trivial trivial (xlcount_calls 30 t (by omega)) (.inl rfl) (fun A eA => ?_)
  simp (disch := first | omega | (simp only [avs_len, List.length_cons, List.length_append, List.length_nil, List.length_take, List.length_drop, List.length_map]; omega) | (simp only [cells, scal1, allSz, List.length_cons, List.length_nil, List.length_append, List.length_map, List.all_cons, List.all_nil, avs_len, beq_self_eq_true, Bool.and_self, and_self, or_true, true_or, reduceCtorEq, *]; done) | fail) only [c_law05_Few, go_sem, Nat.reduceAdd, Nat.reduceSub, Nat.reduceMul, Nat.reduceLT, Nat.reduceLeDiff, Int.reduceToNat, Nat.reduceEqDiff, Nat.reduceBEq, ↓reduceIte, reduceCtorEq, eA]
  by_cases h : xlcnt 30 t ≤ 1000
  · simp (disch := first | omega | (simp only [avs_len, List.length_cons, List.length_append, List.length_nil, List.length_take, List.length_drop, List.length_map]; omega) | (simp only [cells, scal1, allSz, List.length_cons, List.length_nil, List.length_append, List.length_map, List.all_cons, List.all_nil, avs_len, beq_self_eq_true, Bool.and_self, and_self, or_true, true_or, reduceCtorEq, *]; done) | fail) only [go_sem, Nat.reduceAdd, Nat.reduceSub, Nat.reduceMul, Nat.reduceLT, Nat.reduceLeDiff, Int.reduceToNat, Nat.reduceEqDiff, Nat.reduceBEq, ↓reduceIte, reduceCtorEq]
    exact doneG rfl
  · simp (disch := first | omega | (simp only [avs_len, List.length_cons, List.length_append, List.length_nil, List.length_take, List.length_drop, List.length_map]; omega) | (simp only [cells, scal1, allSz, List.length_cons, List.length_nil, List.length_append, List.length_map, List.all_cons, List.all_nil, avs_len, beq_self_eq_true, Bool.and_self, and_self, or_true, true_or, reduceCtorEq, *]; done) | fail) only [go_sem, Nat.reduceAdd, Nat.reduceSub, Nat.reduceMul, Nat.reduceLT, Nat.reduceLeDiff, Int.reduceToNat, Nat.reduceEqDiff, Nat.reduceBEq, ↓reduceIte, reduceCtorEq]
    exact doneG rfl
end Go.Proofs.Ytmokhopjnjecbab
/- The walk through the reference's functions on events. -/
-- short
namespace Go.Proofs.Ytmokhopjnjecbab
open Go.Ev
set_option linter.unusedVariables false
set_option linter.unusedSimpArgs false
set_option maxRecDepth 100000
variable {R : List AV → Heap → Ctr → Prop} {k : List It} {H : Heap} {nx : Ctr} {φ : Nat}

def xlf (l r : ET) : Bool := decide (l.ps.length = 0) && decide (r.ps.length = 0) && decide (l.n = r.n)
def xz (l r : ET) : Bool := decide (l.n = 0) || decide (r.n = 0)
set_option maxHeartbeats 4000000 in
theorem refEcount_nd {t l r : ET} {n1 n2 : Nat} {x y : Bool} (hlr : t.ps = [l, r]) (hn : 0 ≤ t.n ∧ t.n ≤ 1099511627776) (c1 : PCalls Try.prog F_ref04_ecount [xtv l] (.tup [.int .i64 (n1 : Nat), .bool x])) (c2 : PCalls Try.prog F_ref04_ecount [xtv r] (.tup [.int .i64 (n2 : Nat), .bool y])) (b1 : n1 ≤ 1000) (b2 : n2 ≤ 1000) : PCalls Try.prog F_ref04_ecount [xtv t] (.tup [.int .i64 ((min (n1 + n2 + 1) 1000 : Nat) : Int), .bool (x && y && !xlf l r && xz l r)]) := by
  have g0 : (xtavs [l, r])[0]? = some (xtv l) := by rw [xtavs_get]; rfl
  have g1 : (xtavs [l, r])[1]? = some (xtv r) := by rw [xtavs_get]; rfl
  have w1 : IntKind.i64.wrap ((n1 : Int) + (n2 : Nat)) = ((n1 + n2 : Nat) : Int) := by rw [IntKind.wrap_i64]; omega
  have w2 : IntKind.i64.wrap (((n1 + n2 : Nat) : Int) + 1) = ((n1 + n2 + 1 : Nat) : Int) := by rw [IntKind.wrap_i64]; omega
  have w3 : (if (1000 : Int) < ((n1 + n2 + 1 : Nat) : Int) then (1000 : Int) else ((n1 + n2 + 1 : Nat) : Int)) = ((min (n1 + n2 + 1) 1000 : Nat) : Int) := by split <;> omega
  refine calls_ref04_ecount (walk0 100 trivial (fun A eA => ?_))
  simp (disch := first | omega | (simp only [avs_len, List.length_cons, List.length_append, List.length_nil, List.length_take, List.length_drop, List.length_map]; omega) | (simp only [cells, scal1, allSz, List.length_cons, List.length_nil, List.length_append, List.length_map, List.all_cons, List.all_nil, avs_len, beq_self_eq_true, Bool.and_self, and_self, or_true, true_or, reduceCtorEq, *]; done) | fail) only [c_ref04_ecount, go_sem, Nat.reduceAdd, Nat.reduceSub, Nat.reduceMul, Nat.reduceLT, Nat.reduceLeDiff, Int.reduceToNat, Nat.reduceEqDiff, Nat.reduceBEq, ↓reduceIte, reduceCtorEq, eA, scal1, xtavs_len, hlr, g0, g1, List.all_cons, List.all_nil, Bool.and_self]
  refine call0 100 trivial trivial c1 (.inl rfl) (fun A eA => ?_)
  simp (disch := first | omega | (simp only [avs_len, List.length_cons, List.length_append, List.length_nil, List.length_take, List.length_drop, List.length_map]; omega) | (simp only [cells, scal1, allSz, List.length_cons, List.length_nil, List.length_append, List.length_map, List.all_cons, List.all_nil, avs_len, beq_self_eq_true, Bool.and_self, and_self, or_true, true_or, reduceCtorEq, *]; done) | fail) only [c_ref04_ecount, go_sem, Nat.reduceAdd, Nat.reduceSub, Nat.reduceMul, Nat.reduceLT, Nat.reduceLeDiff, Int.reduceToNat, Nat.reduceEqDiff, Nat.reduceBEq, ↓reduceIte, reduceCtorEq, eA, hlr, g0, g1, List.all_cons, List.all_nil, Bool.and_self, scal1]
  refine call0 100 trivial trivial c2 (.inl rfl) (fun A eA => ?_)
  have kk : (l.ps.length = 0 ∧ r.ps.length = 0 ∧ l.n = r.n) ∨ (l.ps.length = 0 ∧ r.ps.length = 0 ∧ ¬ l.n = r.n) ∨ (l.ps.length = 0 ∧ ¬ r.ps.length = 0) ∨ ¬ l.ps.length = 0 := by omega
  have zz : l.n = 0 ∨ (¬ l.n = 0 ∧ r.n = 0) ∨ (¬ l.n = 0 ∧ ¬ r.n = 0) := by omega
  cases x <;> cases y
  case true.true =>
    rcases kk with ⟨a1, a2, a3⟩ | ⟨a1, a2, a3⟩ | ⟨a1, a2⟩ | a1
    · have e : xlf l r = true := by simp only [xlf, a1, a2, a3, decide_true, Bool.and_self]
      rw [e]
      simp (disch := first | omega | (simp only [avs_len, List.length_cons, List.length_append, List.length_nil, List.length_take, List.length_drop, List.length_map]; omega) | (simp only [cells, scal1, allSz, List.length_cons, List.length_nil, List.length_append, List.length_map, List.all_cons, List.all_nil, avs_len, beq_self_eq_true, Bool.and_self, and_self, or_true, true_or, reduceCtorEq, *]; done) | fail) only [c_ref04_ecount, go_sem, Nat.reduceAdd, Nat.reduceSub, Nat.reduceMul, Nat.reduceLT, Nat.reduceLeDiff, Int.reduceToNat, Nat.reduceEqDiff, Nat.reduceBEq, ↓reduceIte, reduceCtorEq, eA, hlr, g0, g1, List.all_cons, List.all_nil, Bool.and_self, scal1, xtavs_len, w1, w2, w3, Bool.and_false, Bool.false_and, Bool.true_or]
      refine doneG ?_
      simp (disch := first | omega | (simp only [avs_len, List.length_cons, List.length_append, List.length_nil, List.length_take, List.length_drop, List.length_map]; omega) | (simp only [cells, scal1, allSz, List.length_cons, List.length_nil, List.length_append, List.length_map, List.all_cons, List.all_nil, avs_len, beq_self_eq_true, Bool.and_self, and_self, or_true, true_or, reduceCtorEq, *]; done) | fail) only [go_sem, Nat.reduceAdd, Nat.reduceSub, Nat.reduceMul, Nat.reduceLT, Nat.reduceLeDiff, Int.reduceToNat, Nat.reduceEqDiff, Nat.reduceBEq, ↓reduceIte, reduceCtorEq, w3, Bool.and_self, Bool.and_false, Bool.false_and]
    all_goals
      have e : xlf l r = false := by simp only [xlf, a1, decide_true, decide_false, Bool.false_and, Bool.true_and, Bool.and_eq_false_iff, decide_eq_false_iff_not]; first | done | exact .inl a2 | exact .inr a3
      rw [e]
      rcases zz with z1 | ⟨z1, z2⟩ | ⟨z1, z2⟩
      · have e2 : xz l r = true := by simp only [xz, z1, decide_true, Bool.true_or]
        rw [e2]
        simp (disch := first | omega | (simp only [avs_len, List.length_cons, List.length_append, List.length_nil, List.length_take, List.length_drop, List.length_map]; omega) | (simp only [cells, scal1, allSz, List.length_cons, List.length_nil, List.length_append, List.length_map, List.all_cons, List.all_nil, avs_len, beq_self_eq_true, Bool.and_self, and_self, or_true, true_or, reduceCtorEq, *]; done) | fail) only [c_ref04_ecount, go_sem, Nat.reduceAdd, Nat.reduceSub, Nat.reduceMul, Nat.reduceLT, Nat.reduceLeDiff, Int.reduceToNat, Nat.reduceEqDiff, Nat.reduceBEq, ↓reduceIte, reduceCtorEq, eA, hlr, g0, g1, List.all_cons, List.all_nil, Bool.and_self, scal1, xtavs_len, w1, w2, w3, Bool.and_false, Bool.false_and, Bool.true_or]
        refine doneG ?_
        simp (disch := first | omega | (simp only [avs_len, List.length_cons, List.length_append, List.length_nil, List.length_take, List.length_drop, List.length_map]; omega) | (simp only [cells, scal1, allSz, List.length_cons, List.length_nil, List.length_append, List.length_map, List.all_cons, List.all_nil, avs_len, beq_self_eq_true, Bool.and_self, and_self, or_true, true_or, reduceCtorEq, *]; done) | fail) only [go_sem, Nat.reduceAdd, Nat.reduceSub, Nat.reduceMul, Nat.reduceLT, Nat.reduceLeDiff, Int.reduceToNat, Nat.reduceEqDiff, Nat.reduceBEq, ↓reduceIte, reduceCtorEq, w3, Bool.and_self]
      · have e2 : xz l r = true := by simp only [xz, z2, decide_true, Bool.or_true]
        rw [e2]
        simp (disch := first | omega | (simp only [avs_len, List.length_cons, List.length_append, List.length_nil, List.length_take, List.length_drop, List.length_map]; omega) | (simp only [cells, scal1, allSz, List.length_cons, List.length_nil, List.length_append, List.length_map, List.all_cons, List.all_nil, avs_len, beq_self_eq_true, Bool.and_self, and_self, or_true, true_or, reduceCtorEq, *]; done) | fail) only [c_ref04_ecount, go_sem, Nat.reduceAdd, Nat.reduceSub, Nat.reduceMul, Nat.reduceLT, Nat.reduceLeDiff, Int.reduceToNat, Nat.reduceEqDiff, Nat.reduceBEq, ↓reduceIte, reduceCtorEq, eA, hlr, g0, g1, List.all_cons, List.all_nil, Bool.and_self, scal1, xtavs_len, w1, w2, w3, Bool.and_false, Bool.false_and, Bool.true_or]
        refine doneG ?_
        simp (disch := first | omega | (simp only [avs_len, List.length_cons, List.length_append, List.length_nil, List.length_take, List.length_drop, List.length_map]; omega) | (simp only [cells, scal1, allSz, List.length_cons, List.length_nil, List.length_append, List.length_map, List.all_cons, List.all_nil, avs_len, beq_self_eq_true, Bool.and_self, and_self, or_true, true_or, reduceCtorEq, *]; done) | fail) only [go_sem, Nat.reduceAdd, Nat.reduceSub, Nat.reduceMul, Nat.reduceLT, Nat.reduceLeDiff, Int.reduceToNat, Nat.reduceEqDiff, Nat.reduceBEq, ↓reduceIte, reduceCtorEq, w3, Bool.and_self]
      · have e2 : xz l r = false := by simp only [xz, z1, z2, decide_false, Bool.or_false]
        rw [e2]
        simp (disch := first | omega | (simp only [avs_len, List.length_cons, List.length_append, List.length_nil, List.length_take, List.length_drop, List.length_map]; omega) | (simp only [cells, scal1, allSz, List.length_cons, List.length_nil, List.length_append, List.length_map, List.all_cons, List.all_nil, avs_len, beq_self_eq_true, Bool.and_self, and_self, or_true, true_or, reduceCtorEq, *]; done) | fail) only [c_ref04_ecount, go_sem, Nat.reduceAdd, Nat.reduceSub, Nat.reduceMul, Nat.reduceLT, Nat.reduceLeDiff, Int.reduceToNat, Nat.reduceEqDiff, Nat.reduceBEq, ↓reduceIte, reduceCtorEq, eA, hlr, g0, g1, List.all_cons, List.all_nil, Bool.and_self, scal1, xtavs_len, w1, w2, w3, Bool.and_false, Bool.false_and, Bool.true_or]
        refine doneG ?_
        simp (disch := first | omega | (simp only [avs_len, List.length_cons, List.length_append, List.length_nil, List.length_take, List.length_drop, List.length_map]; omega) | (simp only [cells, scal1, allSz, List.length_cons, List.length_nil, List.length_append, List.length_map, List.all_cons, List.all_nil, avs_len, beq_self_eq_true, Bool.and_self, and_self, or_true, true_or, reduceCtorEq, *]; done) | fail) only [go_sem, Nat.reduceAdd, Nat.reduceSub, Nat.reduceMul, Nat.reduceLT, Nat.reduceLeDiff, Int.reduceToNat, Nat.reduceEqDiff, Nat.reduceBEq, ↓reduceIte, reduceCtorEq, w3, Bool.and_self]
  all_goals
    simp only [Bool.and_false, Bool.false_and, Bool.and_true, Bool.true_and]
    rcases kk with ⟨a1, a2, a3⟩ | ⟨a1, a2, a3⟩ | ⟨a1, a2⟩ | a1
    all_goals
      simp (disch := first | omega | (simp only [avs_len, List.length_cons, List.length_append, List.length_nil, List.length_take, List.length_drop, List.length_map]; omega) | (simp only [cells, scal1, allSz, List.length_cons, List.length_nil, List.length_append, List.length_map, List.all_cons, List.all_nil, avs_len, beq_self_eq_true, Bool.and_self, and_self, or_true, true_or, reduceCtorEq, *]; done) | fail) only [c_ref04_ecount, go_sem, Nat.reduceAdd, Nat.reduceSub, Nat.reduceMul, Nat.reduceLT, Nat.reduceLeDiff, Int.reduceToNat, Nat.reduceEqDiff, Nat.reduceBEq, ↓reduceIte, reduceCtorEq, eA, hlr, g0, g1, List.all_cons, List.all_nil, Bool.and_self, scal1, xtavs_len, w1, w2, w3, Bool.and_false, Bool.false_and, Bool.true_or]
      refine doneG ?_
      simp (disch := first | omega | (simp only [avs_len, List.length_cons, List.length_append, List.length_nil, List.length_take, List.length_drop, List.length_map]; omega) | (simp only [cells, scal1, allSz, List.length_cons, List.length_nil, List.length_append, List.length_map, List.all_cons, List.all_nil, avs_len, beq_self_eq_true, Bool.and_self, and_self, or_true, true_or, reduceCtorEq, *]; done) | fail) only [go_sem, Nat.reduceAdd, Nat.reduceSub, Nat.reduceMul, Nat.reduceLT, Nat.reduceLeDiff, Int.reduceToNat, Nat.reduceEqDiff, Nat.reduceBEq, ↓reduceIte, reduceCtorEq, w3, Bool.and_self]
theorem refEcount_calls : ∀ t : ET, ∃ (n : Nat) (ok : Bool), PCalls Try.prog F_ref04_ecount [xtv t] (.tup [.int .i64 (n : Nat), .bool ok]) ∧ n ≤ 1000 ∧ (ok = true ↔ ∃ b : E, t = b.t ∧ b.short = true ∧ b.small = true) ∧ (ok = true → ∀ b : E, t = b.t → n = min b.nodes 1000) := by
  intro t
  induction t using ET.ind with
  | h t ih =>
    have he := t.eta
    by_cases hn : 0 ≤ t.n ∧ t.n ≤ 1099511627776
    case neg =>
      refine ⟨0, false, ?_, by omega, ?_, fun h => by cases h⟩
      · by_cases h1 : t.n < 0
        · refine calls_ref04_ecount (walk0 100 trivial (fun A eA => ?_))
          simp (disch := first | omega | (simp only [avs_len, List.length_cons, List.length_append, List.length_nil, List.length_take, List.length_drop, List.length_map]; omega) | (simp only [cells, scal1, allSz, List.length_cons, List.length_nil, List.length_append, List.length_map, List.all_cons, List.all_nil, avs_len, beq_self_eq_true, Bool.and_self, and_self, or_true, true_or, reduceCtorEq, *]; done) | fail) only [c_ref04_ecount, go_sem, Nat.reduceAdd, Nat.reduceSub, Nat.reduceMul, Nat.reduceLT, Nat.reduceLeDiff, Int.reduceToNat, Nat.reduceEqDiff, Nat.reduceBEq, ↓reduceIte, reduceCtorEq, eA, scal1, xtavs_len]
          exact doneG rfl
        · refine calls_ref04_ecount (walk0 100 trivial (fun A eA => ?_))
          simp (disch := first | omega | (simp only [avs_len, List.length_cons, List.length_append, List.length_nil, List.length_take, List.length_drop, List.length_map]; omega) | (simp only [cells, scal1, allSz, List.length_cons, List.length_nil, List.length_append, List.length_map, List.all_cons, List.all_nil, avs_len, beq_self_eq_true, Bool.and_self, and_self, or_true, true_or, reduceCtorEq, *]; done) | fail) only [c_ref04_ecount, go_sem, Nat.reduceAdd, Nat.reduceSub, Nat.reduceMul, Nat.reduceLT, Nat.reduceLeDiff, Int.reduceToNat, Nat.reduceEqDiff, Nat.reduceBEq, ↓reduceIte, reduceCtorEq, eA, scal1, xtavs_len]
          exact doneG rfl
      · simp only [Bool.false_eq_true, false_iff]
        rintro ⟨b, rfl, -, hs⟩
        have := b.t_n
        have := E.small_n hs
        omega
    obtain ⟨m, hm⟩ : ∃ m : Nat, t.n = (m : Int) := ⟨t.n.toNat, by omega⟩
    by_cases h0 : t.ps.length = 0
    · have h00 : t.ps = [] := List.eq_nil_of_length_eq_zero h0
      refine ⟨1, true, ?_, by omega, ?_, ?_⟩
      · refine calls_ref04_ecount (walk0 100 trivial (fun A eA => ?_))
        simp (disch := first | omega | (simp only [avs_len, List.length_cons, List.length_append, List.length_nil, List.length_take, List.length_drop, List.length_map]; omega) | (simp only [cells, scal1, allSz, List.length_cons, List.length_nil, List.length_append, List.length_map, List.all_cons, List.all_nil, avs_len, beq_self_eq_true, Bool.and_self, and_self, or_true, true_or, reduceCtorEq, *]; done) | fail) only [c_ref04_ecount, go_sem, Nat.reduceAdd, Nat.reduceSub, Nat.reduceMul, Nat.reduceLT, Nat.reduceLeDiff, Int.reduceToNat, Nat.reduceEqDiff, Nat.reduceBEq, ↓reduceIte, reduceCtorEq, eA, scal1, xtavs_len]
        exact doneG rfl
      · simp only [true_iff]
        exact ⟨.lf m, by rw [← he, hm, h00]; rfl, rfl, by simp only [E.small, decide_eq_true_eq]; omega⟩
      · rintro - b rfl
        cases b with
        | lf o => rfl
        | nd n l r => simp [E.t, ET.ps] at h00
    by_cases h2 : t.ps.length = 2
    · obtain ⟨l, r, hlr⟩ : ∃ l r, t.ps = [l, r] := by
        match t.ps, h2 with
        | [l, r], _ => exact ⟨l, r, rfl⟩
      obtain ⟨n1, x, c1, b1, e1, f1⟩ := ih l (by rw [hlr]; simp)
      obtain ⟨n2, y, c2, b2, e2, f2⟩ := ih r (by rw [hlr]; simp)
      have key : ∀ b : E, t = b.t → ∃ n bl br, b = .nd n bl br ∧ l = bl.t ∧ r = br.t := by
        rintro b rfl
        cases b with
        | lf o => simp [E.t, ET.ps] at h0
        | nd n bl br => simp [E.t, ET.ps] at hlr; exact ⟨n, bl, br, rfl, hlr.1.symm, hlr.2.symm⟩
      have hlf : ∀ bl br : E, xlf bl.t br.t = (bl.leaf && br.leaf && decide (bl.n = br.n)) := by
        intro bl br
        simp only [xlf, E.t_leaf, E.t_n]
        congr 1
        rw [decide_eq_decide]; omega
      have hz : ∀ bl br : E, xz bl.t br.t = (decide (bl.n = 0) || decide (br.n = 0)) := by
        intro bl br
        simp only [xz, E.t_n]
        congr 1 <;> (rw [decide_eq_decide]; omega)
      refine ⟨min (n1 + n2 + 1) 1000, x && y && !xlf l r && xz l r, ?_, by omega, ?_, ?_⟩
      · exact refEcount_nd hlr hn c1 c2 b1 b2
      · simp only [Bool.and_eq_true, e1, e2]
        constructor
        · rintro ⟨⟨⟨⟨bl, rfl, s1, m1⟩, ⟨br, rfl, s2, m2⟩⟩, s3⟩, s4⟩
          rw [hlf] at s3
          rw [hz] at s4
          exact ⟨.nd m bl br, by rw [← he, hm, hlr]; rfl, by simp only [E.short, s1, s2, s3, s4, Bool.and_self], by simp only [E.small, m1, m2, Bool.and_true, decide_eq_true_eq]; omega⟩
        · rintro ⟨b, hb, hsh, hsm⟩
          obtain ⟨n, bl, br, rfl, rfl, rfl⟩ := key b hb
          simp only [E.short, Bool.and_eq_true] at hsh
          simp only [E.small, Bool.and_eq_true] at hsm
          rw [hlf, hz]
          exact ⟨⟨⟨⟨bl, rfl, hsh.1.1.1, hsm.1.2⟩, ⟨br, rfl, hsh.1.1.2, hsm.2⟩⟩, hsh.2⟩, hsh.1.2⟩
      · intro hok b hb
        obtain ⟨n, bl, br, rfl, hl, hr⟩ := key b hb
        simp only [Bool.and_eq_true] at hok
        have := f1 hok.1.1.1 bl hl
        have := f2 hok.1.1.2 br hr
        simp only [E.nodes]
        omega
    · refine ⟨0, false, ?_, by omega, ?_, fun h => by cases h⟩
      · refine calls_ref04_ecount (walk0 100 trivial (fun A eA => ?_))
        simp (disch := first | omega | (simp only [avs_len, List.length_cons, List.length_append, List.length_nil, List.length_take, List.length_drop, List.length_map]; omega) | (simp only [cells, scal1, allSz, List.length_cons, List.length_nil, List.length_append, List.length_map, List.all_cons, List.all_nil, avs_len, beq_self_eq_true, Bool.and_self, and_self, or_true, true_or, reduceCtorEq, *]; done) | fail) only [c_ref04_ecount, go_sem, Nat.reduceAdd, Nat.reduceSub, Nat.reduceMul, Nat.reduceLT, Nat.reduceLeDiff, Int.reduceToNat, Nat.reduceEqDiff, Nat.reduceBEq, ↓reduceIte, reduceCtorEq, eA, scal1, xtavs_len]
        exact doneG rfl
      · simp only [Bool.false_eq_true, false_iff]
        rintro ⟨b, rfl, -⟩
        cases b with
        | lf o => simp [E.t, ET.ps] at h0
        | nd n l r => simp [E.t, ET.ps] at h2
theorem refERight_calls (t : ET) (hs : t.size < 2 ^ 60) : PCalls Try.prog F_ref04_ERight [xtv t] (.bool (xrtb t)) := by
  refine calls_ref04_ERight (walk0 100 trivial (fun A eA => ?_))
  simp (disch := first | omega | (simp only [avs_len, List.length_cons, List.length_append, List.length_nil, List.length_take, List.length_drop, List.length_map]; omega) | (simp only [cells, scal1, allSz, List.length_cons, List.length_nil, List.length_append, List.length_map, List.all_cons, List.all_nil, avs_len, beq_self_eq_true, Bool.and_self, and_self, or_true, true_or, reduceCtorEq, *]; done) | fail) only [c_ref04_ERight, go_sem, Nat.reduceAdd, Nat.reduceSub, Nat.reduceMul, Nat.reduceLT, Nat.reduceLeDiff, Int.reduceToNat, Nat.reduceEqDiff, Nat.reduceBEq, ↓reduceIte, reduceCtorEq, eA, scal1, xtavs_len]
  refine call0 100 trivial trivial (xdeep_calls 8 t (by omega) hs) (.inl rfl) (fun A eA => ?_)
  have hno : ¬ XRt t → xrtb t = false := fun h => by rw [Bool.eq_false_iff, ne_eq, xrtb_true]; exact h
  by_cases h : xdeep 8 t ≤ 8
  · simp (disch := first | omega | (simp only [avs_len, List.length_cons, List.length_append, List.length_nil, List.length_take, List.length_drop, List.length_map]; omega) | (simp only [cells, scal1, allSz, List.length_cons, List.length_nil, List.length_append, List.length_map, List.all_cons, List.all_nil, avs_len, beq_self_eq_true, Bool.and_self, and_self, or_true, true_or, reduceCtorEq, *]; done) | fail) only [c_ref04_ERight, go_sem, Nat.reduceAdd, Nat.reduceSub, Nat.reduceMul, Nat.reduceLT, Nat.reduceLeDiff, Int.reduceToNat, Nat.reduceEqDiff, Nat.reduceBEq, ↓reduceIte, reduceCtorEq, eA]
    obtain ⟨n, ok, c, hn, h1, h2⟩ := refEcount_calls t
    refine call0 100 trivial trivial c (.inl rfl) (fun A eA => ?_)
    cases ok with
    | false =>
      simp (disch := first | omega | (simp only [avs_len, List.length_cons, List.length_append, List.length_nil, List.length_take, List.length_drop, List.length_map]; omega) | (simp only [cells, scal1, allSz, List.length_cons, List.length_nil, List.length_append, List.length_map, List.all_cons, List.all_nil, avs_len, beq_self_eq_true, Bool.and_self, and_self, or_true, true_or, reduceCtorEq, *]; done) | fail) only [c_ref04_ERight, go_sem, Nat.reduceAdd, Nat.reduceSub, Nat.reduceMul, Nat.reduceLT, Nat.reduceLeDiff, Int.reduceToNat, Nat.reduceEqDiff, Nat.reduceBEq, ↓reduceIte, reduceCtorEq, eA]
      rw [hno (by rintro ⟨b, hb, -, -, hsh, hsm⟩; have := h1.2 ⟨b, hb, hsh, hsm⟩; cases this)]
      exact doneG rfl
    | true =>
      obtain ⟨b, rfl, hsh, hsm⟩ := h1.1 rfl
      have hn2 := h2 rfl b rfl
      have hdp := (xflat_dep 8 b).1 ((xdeep_le 8 _).1 h)
      by_cases h6 : n ≤ 60
      · simp (disch := first | omega | (simp only [avs_len, List.length_cons, List.length_append, List.length_nil, List.length_take, List.length_drop, List.length_map]; omega) | (simp only [cells, scal1, allSz, List.length_cons, List.length_nil, List.length_append, List.length_map, List.all_cons, List.all_nil, avs_len, beq_self_eq_true, Bool.and_self, and_self, or_true, true_or, reduceCtorEq, *]; done) | fail) only [c_ref04_ERight, go_sem, Nat.reduceAdd, Nat.reduceSub, Nat.reduceMul, Nat.reduceLT, Nat.reduceLeDiff, Int.reduceToNat, Nat.reduceEqDiff, Nat.reduceBEq, ↓reduceIte, reduceCtorEq, eA]
        rw [xrtb_true.2 ⟨b, rfl, hdp, by omega, hsh, hsm⟩]
        exact doneG rfl
      · simp (disch := first | omega | (simp only [avs_len, List.length_cons, List.length_append, List.length_nil, List.length_take, List.length_drop, List.length_map]; omega) | (simp only [cells, scal1, allSz, List.length_cons, List.length_nil, List.length_append, List.length_map, List.all_cons, List.all_nil, avs_len, beq_self_eq_true, Bool.and_self, and_self, or_true, true_or, reduceCtorEq, *]; done) | fail) only [c_ref04_ERight, go_sem, Nat.reduceAdd, Nat.reduceSub, Nat.reduceMul, Nat.reduceLT, Nat.reduceLeDiff, Int.reduceToNat, Nat.reduceEqDiff, Nat.reduceBEq, ↓reduceIte, reduceCtorEq, eA]
        rw [hno (by rintro ⟨b', hb, -, h7, -⟩; obtain rfl := E.inj hb; omega)]
        exact doneG rfl
  · simp (disch := first | omega | (simp only [avs_len, List.length_cons, List.length_append, List.length_nil, List.length_take, List.length_drop, List.length_map]; omega) | (simp only [cells, scal1, allSz, List.length_cons, List.length_nil, List.length_append, List.length_map, List.all_cons, List.all_nil, avs_len, beq_self_eq_true, Bool.and_self, and_self, or_true, true_or, reduceCtorEq, *]; done) | fail) only [c_ref04_ERight, go_sem, Nat.reduceAdd, Nat.reduceSub, Nat.reduceMul, Nat.reduceLT, Nat.reduceLeDiff, Int.reduceToNat, Nat.reduceEqDiff, Nat.reduceBEq, ↓reduceIte, reduceCtorEq, eA]
    rw [hno (by rintro ⟨b, rfl, h7, -, -⟩; exact h ((xdeep_le 8 _).2 ((xflat_dep 8 b).2 h7)))]
    exact doneG rfl
end Go.Proofs.Ytmokhopjnjecbab
/- Rows of counts, and the shortest event tree of a row: plain. -/
namespace Go.Ev
set_option linter.unusedVariables false
set_option linter.unnecessarySimpa false
set_option linter.unusedSimpArgs false

def rowE : Nat → E → List Nat
  | d, .lf n => List.replicate (2 ^ d) n
  | 0, .nd n _ _ => [n]
  | d + 1, .nd n l r => (rowE d l ++ rowE d r).map (n + ·)
theorem rowE_lf (d n : Nat) : rowE d (.lf n) = List.replicate (2 ^ d) n := by cases d <;> rfl
theorem rowE_len : ∀ (d : Nat) (e : E), (rowE d e).length = 2 ^ d
  | d, .lf n => by rw [rowE_lf]; simp
  | 0, .nd n l r => by simp [rowE]
  | d + 1, .nd n l r => by simp only [rowE, List.length_map, List.length_append, rowE_len, Nat.pow_succ]; omega
def E.lift (m : Nat) : E → E
  | .lf n => .lf (n + m)
  | .nd n l r => .nd (n + m) l r
def E.sub (m : Nat) : E → E
  | .lf n => .lf (n - m)
  | .nd n l r => .nd (n - m) l r
def E.half (k : Bool) : E → E
  | .lf n => .lf n
  | .nd n l r => if k then r.lift n else l.lift n
theorem E.lift_n (e : E) (m : Nat) : (e.lift m).n = e.n + m := by cases e <;> rfl
theorem E.sub_n (e : E) (m : Nat) : (e.sub m).n = e.n - m := by cases e <;> rfl
theorem E.lift_leaf (e : E) (m : Nat) : (e.lift m).leaf = e.leaf := by cases e <;> rfl
theorem E.sub_leaf (e : E) (m : Nat) : (e.sub m).leaf = e.leaf := by cases e <;> rfl
theorem E.lift_dep (e : E) (m : Nat) : (e.lift m).dep = e.dep := by cases e <;> rfl
theorem E.sub_dep (e : E) (m : Nat) : (e.sub m).dep = e.dep := by cases e <;> rfl
theorem E.lift_nodes (e : E) (m : Nat) : (e.lift m).nodes = e.nodes := by cases e <;> rfl
theorem E.sub_nodes (e : E) (m : Nat) : (e.sub m).nodes = e.nodes := by cases e <;> rfl
theorem E.lift_short (e : E) (m : Nat) : (e.lift m).short = e.short := by cases e <;> rfl
theorem E.sub_short (e : E) (m : Nat) : (e.sub m).short = e.short := by cases e <;> rfl
theorem E.sub_lift (e : E) (m : Nat) (h : m ≤ e.n) : (e.sub m).lift m = e := by
  cases e with
  | lf n => simp only [E.sub, E.lift]; congr 1; exact Nat.sub_add_cancel h
  | nd n l r => simp only [E.sub, E.lift]; congr 1; exact Nat.sub_add_cancel h
theorem E.lift_zero (e : E) : e.lift 0 = e := by cases e <;> rfl
theorem rowE_lift (d : Nat) (e : E) (m : Nat) : rowE d (e.lift m) = (rowE d e).map (m + ·) := by
  cases e with
  | lf n => simp only [E.lift, rowE_lf, List.map_replicate]; congr 1; omega
  | nd n l r =>
    cases d with
    | zero => simp only [E.lift, rowE, List.map_cons, List.map_nil]; congr 1; omega
    | succ d =>
      simp only [E.lift, rowE, List.map_map]
      congr 1; funext x; simp only [Function.comp]; omega
theorem rowE_split (d : Nat) (e : E) : rowE (d + 1) e = rowE d (e.half false) ++ rowE d (e.half true) := by
  cases e with
  | lf n =>
    simp only [E.half, rowE_lf]
    rw [List.replicate_append_replicate]
    congr 1
    rw [Nat.pow_succ]; omega
  | nd n l r => simp [E.half, rowE, rowE_lift]
theorem E.half_dep (e : E) (k : Bool) : (e.half k).dep ≤ max (e.dep - 1) 1 := by
  cases e with
  | lf n => simp [E.half, E.dep]
  | nd n l r =>
    have := l.dep_pos
    have := r.dep_pos
    cases k <;> simp [E.half, E.lift_dep, E.dep] <;> omega
theorem E.half_short (e : E) (k : Bool) (h : e.short = true) : (e.half k).short = true := by
  cases e with
  | lf n => simpa [E.half] using h
  | nd n l r =>
    simp only [E.short, Bool.and_eq_true] at h
    cases k <;> simp [E.half, E.lift_short, h.1.1.1, h.1.1.2]
/-- The greatest count. -/
def E.top : E → Nat
  | .lf n => n
  | .nd n l r => n + max l.top r.top
theorem E.top_n (e : E) : e.n ≤ e.top := by cases e <;> simp [E.n, E.top]
theorem E.lift_top (e : E) (m : Nat) : (e.lift m).top = e.top + m := by cases e <;> simp [E.lift, E.top]; omega
theorem E.half_top (e : E) (k : Bool) : (e.half k).top ≤ e.top := by
  cases e with
  | lf n => simp [E.half]
  | nd n l r => cases k <;> simp [E.half, E.lift_top, E.top] <;> omega
theorem E.top_small : ∀ {e : E}, e.small = true → e.top ≤ e.dep * 1099511627776
  | .lf n, h => by simp only [E.small, decide_eq_true_eq] at h; simp [E.top, E.dep]; omega
  | .nd n l r, h => by
    simp only [E.small, Bool.and_eq_true, decide_eq_true_eq] at h
    have a := E.top_small h.1.2
    have b := E.top_small h.2
    simp only [E.top, E.dep]
    have h1 : l.dep * 1099511627776 ≤ max l.dep r.dep * 1099511627776 := Nat.mul_le_mul_right _ (by omega)
    have h2 : r.dep * 1099511627776 ≤ max l.dep r.dep * 1099511627776 := Nat.mul_le_mul_right _ (by omega)
    rw [Nat.add_mul]
    omega
theorem rowE_top : ∀ (d : Nat) (e : E), ∀ x ∈ rowE d e, x ≤ e.top
  | d, .lf n, x, h => by rw [rowE_lf] at h; rw [List.eq_of_mem_replicate h]; simp [E.top]
  | 0, .nd n l r, x, h => by simp [rowE] at h; subst h; simp [E.top]
  | d + 1, .nd n l r, x, h => by
    simp only [rowE, List.mem_map, List.mem_append] at h
    obtain ⟨y, hy, rfl⟩ := h
    rcases hy with hy | hy
    · have := rowE_top d l y hy; simp only [E.top]; omega
    · have := rowE_top d r y hy; simp only [E.top]; omega

/-! ### comparing -/
def leqR : List Nat → List Nat → Bool
  | x :: xs, y :: ys => decide (x ≤ y) && leqR xs ys
  | _, _ => true
def eqR : List Nat → List Nat → Bool
  | x :: xs, y :: ys => decide (x = y) && eqR xs ys
  | _, _ => true
theorem leqR_append : ∀ (a b c d : List Nat), a.length = b.length → leqR (a ++ c) (b ++ d) = (leqR a b && leqR c d)
  | [], [], c, d, _ => by simp [leqR]
  | [], _ :: _, _, _, h => by simp at h
  | _ :: _, [], _, _, h => by simp at h
  | x :: a, y :: b, c, d, h => by simp only [List.cons_append, leqR, leqR_append a b c d (by simpa using h), Bool.and_assoc]
theorem leqR_replicate (m n : Nat) : ∀ k, 0 < k → leqR (List.replicate k m) (List.replicate k n) = decide (m ≤ n)
  | 1, _ => by simp [leqR]
  | k + 2, _ => by
    show leqR (m :: List.replicate (k + 1) m) (n :: List.replicate (k + 1) n) = _
    simp only [leqR]
    rw [leqR_replicate m n (k + 1) (by omega), Bool.and_self]
theorem eqR_true : ∀ {a b : List Nat}, a.length = b.length → (eqR a b = true ↔ a = b)
  | [], [], _ => by simp [eqR]
  | [], _ :: _, h => by simp at h
  | _ :: _, [], h => by simp at h
  | x :: a, y :: b, h => by simp only [eqR, Bool.and_eq_true, decide_eq_true_eq, eqR_true (show a.length = b.length by simpa using h), List.cons.injEq]

/-! ### joining -/
def nodeE (n : Nat) (l r : E) : E :=
  if l.leaf = true ∧ r.leaf = true ∧ l.n = r.n then .lf (n + min l.n r.n) else .nd (n + min l.n r.n) (l.sub (min l.n r.n)) (r.sub (min l.n r.n))
theorem E.leaf_lf {e : E} (h : e.leaf = true) : e = .lf e.n := by cases e <;> simp [E.leaf, E.n] at h ⊢
theorem rows_nodeE (d n : Nat) (l r : E) : rowE (d + 1) (nodeE n l r) = (rowE d l ++ rowE d r).map (n + ·) := by
  unfold nodeE
  split
  · rename_i h
    obtain ⟨h1, h2, h3⟩ := h
    rw [E.leaf_lf h1, E.leaf_lf h2, ← h3]
    simp only [rowE_lf, E.n, Nat.min_self, List.map_append, List.map_replicate, List.replicate_append_replicate]
    congr 1
    rw [Nat.pow_succ]; omega
  · have h1 : rowE d l = (rowE d (l.sub (min l.n r.n))).map (min l.n r.n + ·) := by rw [← rowE_lift, E.sub_lift _ _ (Nat.min_le_left _ _)]
    have h2 : rowE d r = (rowE d (r.sub (min l.n r.n))).map (min l.n r.n + ·) := by rw [← rowE_lift, E.sub_lift _ _ (Nat.min_le_right _ _)]
    rw [h1, h2, ← List.map_append, List.map_map]
    simp only [rowE]
    congr 1; funext x; simp only [Function.comp]; omega
theorem nodeE_short {n : Nat} {l r : E} (hl : l.short = true) (hr : r.short = true) : (nodeE n l r).short = true := by
  unfold nodeE
  split
  · rfl
  · rename_i h
    simp only [E.short, E.sub_short, hl, hr, E.sub_n, E.sub_leaf, Bool.true_and, Bool.and_eq_true, Bool.or_eq_true, decide_eq_true_eq, Bool.not_eq_true', Bool.and_eq_false_iff, decide_eq_false_iff_not]
    refine ⟨by omega, ?_⟩
    by_cases h1 : l.leaf = true
    · by_cases h2 : r.leaf = true
      · right
        intro h3
        exact h ⟨h1, h2, by omega⟩
      · left; right; simpa using h2
    · left; left; simpa using h1
theorem nodeE_dep (n : Nat) (l r : E) : (nodeE n l r).dep ≤ max l.dep r.dep + 1 := by
  unfold nodeE
  split
  · simp [E.dep]
  · simp [E.dep, E.sub_dep]
theorem nodeE_nodes (n : Nat) (l r : E) : (nodeE n l r).nodes ≤ 1 + l.nodes + r.nodes := by
  unfold nodeE
  split
  · simp [E.nodes]; omega
  · simp [E.nodes, E.sub_nodes]
def joinE : Nat → E → E → E
  | 0, a, b => .lf (max a.n b.n)
  | d + 1, a, b => if a.leaf = true ∧ b.leaf = true then .lf (max a.n b.n) else nodeE 0 (joinE d (a.half false) (b.half false)) (joinE d (a.half true) (b.half true))
theorem zip_replicate (m n : Nat) : ∀ k, List.zipWith max (List.replicate k m) (List.replicate k n) = List.replicate k (max m n)
  | 0 => rfl
  | k + 1 => by simp only [List.replicate_succ, List.zipWith_cons_cons, zip_replicate m n k]
theorem E.dep_one {e : E} (h : e.dep ≤ 1) : e.leaf = true := by
  cases e with
  | lf n => rfl
  | nd n l r => have := l.dep_pos; simp only [E.dep] at h; omega
theorem rows_joinE : ∀ (d : Nat) (a b : E), a.dep ≤ d + 1 → b.dep ≤ d + 1 → rowE d (joinE d a b) = List.zipWith max (rowE d a) (rowE d b)
  | 0, a, b, ha, hb => by
    rw [E.leaf_lf (E.dep_one ha), E.leaf_lf (E.dep_one hb)]
    simp only [joinE, rowE_lf, zip_replicate, E.n]
  | d + 1, a, b, ha, hb => by
    simp only [joinE]
    split
    · rename_i h
      rw [E.leaf_lf h.1, E.leaf_lf h.2]
      simp only [rowE_lf, zip_replicate, E.n]
    · have h1 := a.half_dep false
      have h2 := a.half_dep true
      have h3 := b.half_dep false
      have h4 := b.half_dep true
      rw [rows_nodeE, rows_joinE d _ _ (by omega) (by omega), rows_joinE d _ _ (by omega) (by omega), rowE_split d a, rowE_split d b, List.zipWith_append (by rw [rowE_len, rowE_len])]
      simp
theorem joinE_short : ∀ (d : Nat) {a b : E}, a.short = true → b.short = true → (joinE d a b).short = true
  | 0, _, _, _, _ => rfl
  | d + 1, a, b, ha, hb => by
    simp only [joinE]
    split
    · rfl
    · exact nodeE_short (joinE_short d (a.half_short _ ha) (b.half_short _ hb)) (joinE_short d (a.half_short _ ha) (b.half_short _ hb))
theorem joinE_dep : ∀ (d : Nat) (a b : E), (joinE d a b).dep ≤ d + 1
  | 0, _, _ => by simp [joinE, E.dep]
  | d + 1, a, b => by
    simp only [joinE]
    split
    · simp [E.dep]
    · have := nodeE_dep 0 (joinE d (a.half false) (b.half false)) (joinE d (a.half true) (b.half true))
      have := joinE_dep d (a.half false) (b.half false)
      have := joinE_dep d (a.half true) (b.half true)
      omega
theorem joinE_nodes : ∀ (d : Nat) (a b : E), (joinE d a b).nodes < 2 ^ (d + 1)
  | 0, _, _ => by simp [joinE, E.nodes]
  | d + 1, a, b => by
    simp only [joinE]
    split
    · have : 0 < 2 ^ (d + 1) := Nat.pow_pos (by omega)
      simp only [E.nodes]; rw [Nat.pow_succ]; omega
    · have := nodeE_nodes 0 (joinE d (a.half false) (b.half false)) (joinE d (a.half true) (b.half true))
      have := joinE_nodes d (a.half false) (b.half false)
      have := joinE_nodes d (a.half true) (b.half true)
      rw [Nat.pow_succ]; omega

/-! ### the shortest tree of a row -/
def leastR (row : List Nat) : Nat := row.foldl min (row.headD 0)
def mostR (row : List Nat) : Nat := row.foldl max (row.headD 0)
theorem foldl_min (l : List Nat) : ∀ a, (l.foldl min a ≤ a ∧ ∀ x ∈ l, l.foldl min a ≤ x) ∧ (l.foldl min a = a ∨ l.foldl min a ∈ l) := by
  induction l with
  | nil => intro a; simp
  | cons y l ih =>
    intro a
    obtain ⟨⟨h1, h2⟩, h3⟩ := ih (min a y)
    simp only [List.foldl_cons, List.mem_cons, forall_eq_or_imp]
    refine ⟨⟨by omega, by omega, h2⟩, ?_⟩
    rcases h3 with h3 | h3
    · rw [h3]
      rcases Nat.le_total a y with h | h
      · left; omega
      · right; left; omega
    · right; right; exact h3
theorem foldl_max (l : List Nat) : ∀ a, (a ≤ l.foldl max a ∧ ∀ x ∈ l, x ≤ l.foldl max a) ∧ (l.foldl max a = a ∨ l.foldl max a ∈ l) := by
  induction l with
  | nil => intro a; simp
  | cons y l ih =>
    intro a
    obtain ⟨⟨h1, h2⟩, h3⟩ := ih (max a y)
    simp only [List.foldl_cons, List.mem_cons, forall_eq_or_imp]
    refine ⟨⟨by omega, by omega, h2⟩, ?_⟩
    rcases h3 with h3 | h3
    · rw [h3]
      rcases Nat.le_total a y with h | h
      · right; left; omega
      · left; omega
    · right; right; exact h3
theorem leastR_le {row : List Nat} : ∀ x ∈ row, leastR row ≤ x := (foldl_min row _).1.2
theorem leastR_mem {row : List Nat} (h : row ≠ []) : leastR row ∈ row := by
  obtain ⟨y, l, rfl⟩ := List.exists_cons_of_ne_nil h
  rcases (foldl_min (y :: l) ((y :: l).headD 0)).2 with h1 | h1
  · show List.foldl min _ _ ∈ _
    rw [h1]; simp
  · exact h1
theorem mostR_ge {row : List Nat} : ∀ x ∈ row, x ≤ mostR row := (foldl_max row _).1.2
theorem mostR_mem {row : List Nat} (h : row ≠ []) : mostR row ∈ row := by
  obtain ⟨y, l, rfl⟩ := List.exists_cons_of_ne_nil h
  rcases (foldl_max (y :: l) ((y :: l).headD 0)).2 with h1 | h1
  · show List.foldl max _ _ ∈ _
    rw [h1]; simp
  · exact h1
theorem leastR_eq {row : List Nat} {n : Nat} (h1 : n ∈ row) (h2 : ∀ x ∈ row, n ≤ x) : leastR row = n := by
  have a := leastR_le n h1
  have b := h2 _ (leastR_mem (by intro h; rw [h] at h1; simp at h1))
  omega
theorem mostR_eq {row : List Nat} {n : Nat} (h1 : n ∈ row) (h2 : ∀ x ∈ row, x ≤ n) : mostR row = n := by
  have a := mostR_ge n h1
  have b := h2 _ (mostR_mem (by intro h; rw [h] at h1; simp at h1))
  omega
theorem rowE_ne (d : Nat) (e : E) : rowE d e ≠ [] := by
  intro h
  have := rowE_len d e
  rw [h] at this
  have : 0 < 2 ^ d := Nat.pow_pos (by omega)
  simp at *; omega
/-- A short tree's own number is its row's least. -/
theorem rowE_least : ∀ (d : Nat) (e : E), e.short = true → e.dep ≤ d + 1 → e.n ∈ rowE d e ∧ ∀ x ∈ rowE d e, e.n ≤ x
  | d, .lf n, _, _ => by
    rw [rowE_lf]
    have : 0 < 2 ^ d := Nat.pow_pos (by omega)
    exact ⟨List.mem_replicate.2 ⟨by omega, rfl⟩, fun x hx => by rw [List.eq_of_mem_replicate hx]; exact Nat.le_refl _⟩
  | 0, .nd n l r, _, hd => by have := l.dep_pos; simp only [E.dep] at hd; omega
  | d + 1, .nd n l r, hs, hd => by
    simp only [E.short, Bool.and_eq_true, Bool.or_eq_true, decide_eq_true_eq] at hs
    simp only [E.dep] at hd
    obtain ⟨a1, a2⟩ := rowE_least d l hs.1.1.1 (by omega)
    obtain ⟨b1, b2⟩ := rowE_least d r hs.1.1.2 (by omega)
    simp only [rowE, E.n, List.mem_map, List.mem_append]
    constructor
    · rcases hs.1.2 with h | h
      · exact ⟨0, .inl (h ▸ a1), by omega⟩
      · exact ⟨0, .inr (h ▸ b1), by omega⟩
    · rintro x ⟨y, _, rfl⟩; omega
theorem rowE_const : ∀ (d : Nat) (e : E), e.short = true → e.dep ≤ d + 1 → ∀ c, (∀ x ∈ rowE d e, x = c) → e = .lf c
  | d, .lf n, _, _, c, h => by
    rw [rowE_lf] at h
    have : 0 < 2 ^ d := Nat.pow_pos (by omega)
    rw [h n (List.mem_replicate.2 ⟨by omega, rfl⟩)]
  | 0, .nd n l r, _, hd, _, _ => by have := l.dep_pos; simp only [E.dep] at hd; omega
  | d + 1, .nd n l r, hs, hd, c, h => by
    have hs' := hs
    simp only [E.short, Bool.and_eq_true, Bool.or_eq_true, decide_eq_true_eq] at hs'
    simp only [E.dep] at hd
    simp only [rowE, List.mem_map, List.mem_append] at h
    have hl := rowE_const d l hs'.1.1.1 (by omega) (c - n) (fun x hx => by have := h (n + x) ⟨x, .inl hx, rfl⟩; omega)
    have hr := rowE_const d r hs'.1.1.2 (by omega) (c - n) (fun x hx => by have := h (n + x) ⟨x, .inr hx, rfl⟩; omega)
    subst hl hr
    simp [E.leaf, E.n] at hs'
def treeE : Nat → List Nat → Nat → E
  | 0, row, below => .lf (leastR row - below)
  | d + 1, row, below => if leastR row = mostR row then .lf (leastR row - below) else .nd (leastR row - below) (treeE d (row.take (2 ^ d)) (leastR row)) (treeE d (row.drop (2 ^ d)) (leastR row))
theorem treeE_lift : ∀ (d : Nat) (e : E) (b : Nat), e.short = true → e.dep ≤ d + 1 → treeE d (rowE d (e.lift b)) b = e
  | 0, e, b, hs, hd => by
    have hl := E.leaf_lf (E.dep_one hd)
    have := rowE_least 0 (e.lift b) (by rw [E.lift_short]; exact hs) (by rw [E.lift_dep]; exact hd)
    simp only [treeE]
    rw [leastR_eq this.1 this.2, E.lift_n, Nat.add_sub_cancel, ← hl]
  | d + 1, e, b, hs, hd => by
    have hr := rowE_least (d + 1) (e.lift b) (by rw [E.lift_short]; exact hs) (by rw [E.lift_dep]; exact hd)
    have hle := leastR_eq hr.1 hr.2
    simp only [treeE]
    rw [hle]
    split
    · rename_i hc
      have := rowE_const (d + 1) (e.lift b) (by rw [E.lift_short]; exact hs) (by rw [E.lift_dep]; exact hd) (e.lift b).n (fun x hx => by
        have h1 := hr.2 x hx
        have h2 := mostR_ge x hx
        omega)
      have h2 : e = .lf e.n := by
        cases e with
        | lf n => rfl
        | nd n l r => simp [E.lift] at this
      rw [E.lift_n, Nat.add_sub_cancel, ← h2]
    · rename_i hc
      cases e with
      | lf n =>
        exfalso; apply hc
        simp only [E.lift, E.n, rowE_lf]
        have : 0 < 2 ^ (d + 1) := Nat.pow_pos (by omega)
        rw [mostR_eq (n := n + b) (List.mem_replicate.2 ⟨by omega, rfl⟩) (fun x hx => by rw [List.eq_of_mem_replicate hx]; exact Nat.le_refl _)]
      | nd n l r =>
        simp only [E.short, Bool.and_eq_true] at hs
        simp only [E.dep] at hd
        have e1 : (rowE (d + 1) ((E.nd n l r).lift b)).take (2 ^ d) = rowE d (l.lift (n + b)) := by
          show (((rowE d l ++ rowE d r).map (n + b + ·))).take (2 ^ d) = _
          rw [List.map_append, List.take_append_of_le_length (by rw [List.length_map, rowE_len]; omega), List.take_of_length_le (by rw [List.length_map, rowE_len]; omega), rowE_lift]
        have e2 : (rowE (d + 1) ((E.nd n l r).lift b)).drop (2 ^ d) = rowE d (r.lift (n + b)) := by
          show (((rowE d l ++ rowE d r).map (n + b + ·))).drop (2 ^ d) = _
          rw [List.map_append, List.drop_append, List.length_map, rowE_len, Nat.sub_self, List.drop_zero, List.drop_of_length_le (by rw [List.length_map, rowE_len]; omega), List.nil_append, rowE_lift]
        rw [e1, e2]
        show E.nd (n + b - b) (treeE d _ (n + b)) (treeE d _ (n + b)) = _
        rw [Nat.add_sub_cancel, treeE_lift d l (n + b) hs.1.1.1 (by omega), treeE_lift d r (n + b) hs.1.1.2 (by omega)]
theorem treeE_row (d : Nat) (e : E) (hs : e.short = true) (hd : e.dep ≤ d + 1) : treeE d (rowE d e) 0 = e := by
  have := treeE_lift d e 0 hs hd
  rwa [E.lift_zero] at this
/-- The shortest tree of the greater counts is what join makes. -/
theorem tree_joinE (d : Nat) (a b : E) (ha : a.short = true) (hb : b.short = true) (da : a.dep ≤ d + 1) (db : b.dep ≤ d + 1) : treeE d (List.zipWith max (rowE d a) (rowE d b)) 0 = joinE d a b := by
  rw [← rows_joinE d a b da db]
  exact treeE_row d _ (joinE_short d ha hb) (joinE_dep d a b)

/-! ### a place's count -/
def valE : E → Nat → Nat → Nat
  | .lf n, _, _ => n
  | .nd n l r, p, b => n + (if p / b % 2 = 0 then valE l p (b / 2) else valE r p (b / 2))
theorem rowE_at : ∀ (d : Nat) (b : E) (p : Nat), b.dep ≤ d + 1 → (rowE d b)[p % 2 ^ d]? = some (valE b p (2 ^ d / 2))
  | d, .lf o, p, _ => by
    rw [rowE_lf, List.getElem?_replicate, if_pos (Nat.mod_lt _ (Nat.pow_pos (by omega)))]; rfl
  | 0, .nd n l r, p, hd => by
    have : 1 ≤ l.dep := l.dep_pos
    simp only [E.dep] at hd; omega
  | d + 1, .nd n l r, p, hd => by
    have e : 2 ^ (d + 1) / 2 = 2 ^ d := by rw [Nat.pow_succ]; omega
    simp only [E.dep] at hd
    have hl := rowE_at d l p (by omega)
    have hr := rowE_at d r p (by omega)
    have hpos : 0 < 2 ^ d := Nat.pow_pos (by omega)
    have hm : p % 2 ^ (d + 1) = p % 2 ^ d + 2 ^ d * (p / 2 ^ d % 2) := Nat.mod_pow_succ
    simp only [rowE, valE, e, List.getElem?_map]
    by_cases hz : p / 2 ^ d % 2 = 0
    · rw [if_pos hz, hm, hz, Nat.mul_zero, Nat.add_zero, List.getElem?_append_left (by rw [rowE_len]; exact Nat.mod_lt _ hpos), hl]; rfl
    · have h1 : p / 2 ^ d % 2 = 1 := by omega
      rw [if_neg hz, hm, h1, Nat.mul_one, List.getElem?_append_right (by rw [rowE_len]; omega), rowE_len, Nat.add_sub_cancel, hr]; rfl
theorem valE_top : ∀ (e : E) (p b : Nat), valE e p b ≤ e.top
  | .lf n, _, _ => by simp [valE, E.top]
  | .nd n l r, p, b => by
    simp only [valE, E.top]
    have := valE_top l p (b / 2)
    have := valE_top r p (b / 2)
    split <;> omega

/-! ### rows as values; rows that are filled -/
abbrev ivs (ns : List Nat) : List AV := ns.map fun n => .int .i64 (n : Nat)
theorem ivs_len (ns : List Nat) : (ivs ns).length = ns.length := by simp
theorem frz_ivs {α : Type} (n : Nat) (H : Heap) : ∀ (ns : List Nat) (ok : List AV → List (Nat × Nat) → α) (bd : α), mapK (frzK (n + 1) H) (ivs ns) ok bd = ok (ivs ns) []
  | [], ok, bd => by simp [mapK]
  | c :: cs, ok, bd => by
    show frzK (n + 1) H (.int .i64 (c : Nat)) (fun c' i => mapK (frzK (n + 1) H) (ivs cs) (fun cs' j => ok (c' :: cs') (i ++ j)) bd) bd = _
    rw [frzK_int, frz_ivs n H cs]; rfl
abbrev partR (L : List AV) (z : AV) (i : Nat) : List AV := L.take i ++ List.replicate (L.length - i) z
theorem partR_put (L : List AV) (z x : AV) (i : Nat) (h : L[i]? = some x) : (partR L z i).take i ++ [x] ++ (partR L z i).drop (i + 1) = partR L z (i + 1) := by
  have hi : i < L.length := (List.getElem?_eq_some_iff.1 h).1
  have h1 : (L.take i).length = i := by simp; omega
  have h2 : (partR L z i).take i = L.take i := by
    show List.take i (_ ++ _) = _
    rw [List.take_append_of_le_length (by omega), List.take_of_length_le (by omega)]
  have h3 : (partR L z i).drop (i + 1) = List.replicate (L.length - (i + 1)) z := by
    show List.drop (i + 1) (_ ++ _) = _
    rw [List.drop_append, List.drop_of_length_le (by omega), h1, show i + 1 - i = 1 by omega, List.drop_replicate, List.nil_append]
    congr 1
  rw [h2, h3]
  show _ = List.take (i + 1) L ++ _
  rw [List.take_add_one, h]; rfl
theorem partR_len (L : List AV) (z : AV) (i : Nat) (hi : i ≤ L.length) : (partR L z i).length = L.length := by simp; omega
theorem partR_all (L : List AV) (z : AV) : partR L z L.length = L := by
  show List.take _ _ ++ List.replicate _ _ = _
  rw [List.take_length, Nat.sub_self]; simp
end Go.Ev
/- The walk through comparing events, and the reference's rows. -/
-- short
namespace Go.Proofs.Ytmokhopjnjecbab
open Go.Ev
set_option linter.unusedVariables false
set_option linter.unusedSimpArgs false
set_option maxRecDepth 100000
variable {R : List AV → Heap → Ctr → Prop} {k : List It} {H : Heap} {nx : Ctr} {φ : Nat}

theorem xlift_calls (e : E) (m : Int) (n' : Nat) (hb : e.n < 2 ^ 60) (hm : (e.n : Int) + m = n') (hn : n' < 2 ^ 60) : PCalls Try.prog F_event_lift [xtv e.t, .int .i64 m] (.agg [.int .i64 n', .fz 2 (xtavs e.t.ps) none]) := by
  have w1 : IntKind.i64.wrap (e.t.n + m) = (n' : Int) := by rw [IntKind.wrap_i64, e.t_n]; omega
  refine calls_event_lift (walk0 100 trivial (fun A eA => ?_))
  simp (disch := first | omega | (simp only [avs_len, List.length_cons, List.length_append, List.length_nil, List.length_take, List.length_drop, List.length_map]; omega) | (simp only [cells, scal1, allSz, List.length_cons, List.length_nil, List.length_append, List.length_map, List.all_cons, List.all_nil, avs_len, beq_self_eq_true, Bool.and_self, and_self, or_true, true_or, reduceCtorEq, *]; done) | fail) only [c_event_lift, go_sem, Nat.reduceAdd, Nat.reduceSub, Nat.reduceMul, Nat.reduceLT, Nat.reduceLeDiff, Int.reduceToNat, Nat.reduceEqDiff, Nat.reduceBEq, ↓reduceIte, reduceCtorEq, eA, scal1, List.all_cons, List.all_nil, Bool.and_self, w1]
  exact doneG rfl
theorem xtv_lift (e : E) (m : Nat) : xtv (e.lift m).t = .agg [.int .i64 ((e.n + m : Nat) : Int), .fz 2 (xtavs e.t.ps) none] := by cases e <;> rfl
theorem xtv_sub (e : E) (m : Nat) : xtv (e.sub m).t = .agg [.int .i64 ((e.n - m : Nat) : Int), .fz 2 (xtavs e.t.ps) none] := by cases e <;> rfl
theorem xhalf_calls (e : E) (ht : e.top < 2 ^ 60) (k : Bool) : PCalls Try.prog F_event_half [xtv e.t, .int .i64 (if k then 1 else 0)] (xtv (e.half k).t) := by
  refine calls_event_half (walk0 100 trivial (fun A eA => ?_))
  simp (disch := first | omega | (simp only [avs_len, List.length_cons, List.length_append, List.length_nil, List.length_take, List.length_drop, List.length_map]; omega) | (simp only [cells, scal1, allSz, List.length_cons, List.length_nil, List.length_append, List.length_map, List.all_cons, List.all_nil, avs_len, beq_self_eq_true, Bool.and_self, and_self, or_true, true_or, reduceCtorEq, *]; done) | fail) only [c_event_half, go_sem, Nat.reduceAdd, Nat.reduceSub, Nat.reduceMul, Nat.reduceLT, Nat.reduceLeDiff, Int.reduceToNat, Nat.reduceEqDiff, Nat.reduceBEq, ↓reduceIte, reduceCtorEq, eA, scal1, List.all_cons, List.all_nil, Bool.and_self]
  refine call0 100 trivial trivial (xleaf_b e) (.inl rfl) (fun A eA => ?_)
  cases e with
  | lf n =>
    simp (disch := first | omega | (simp only [avs_len, List.length_cons, List.length_append, List.length_nil, List.length_take, List.length_drop, List.length_map]; omega) | (simp only [cells, scal1, allSz, List.length_cons, List.length_nil, List.length_append, List.length_map, List.all_cons, List.all_nil, avs_len, beq_self_eq_true, Bool.and_self, and_self, or_true, true_or, reduceCtorEq, *]; done) | fail) only [c_event_half, go_sem, Nat.reduceAdd, Nat.reduceSub, Nat.reduceMul, Nat.reduceLT, Nat.reduceLeDiff, Int.reduceToNat, Nat.reduceEqDiff, Nat.reduceBEq, ↓reduceIte, reduceCtorEq, eA, scal1, List.all_cons, List.all_nil, Bool.and_self, E.leaf, E.half]
    exact doneG rfl
  | nd n l r =>
    have h0 : (E.nd n l r).t.ps = [l.t, r.t] := rfl
    have hnn : (E.nd n l r).t.n = (n : Int) := rfl
    have g0 : (xtavs [l.t, r.t])[0]? = some (xtv l.t) := by rw [xtavs_get]; rfl
    have g1 : (xtavs [l.t, r.t])[1]? = some (xtv r.t) := by rw [xtavs_get]; rfl
    simp only [E.top] at ht
    have hl := l.top_n
    have hr := r.top_n
    cases k with
    | false =>
      have c := xlift_calls l (n : Nat) (l.n + n) (by omega) (by omega) (by omega)
      rw [← xtv_lift] at c
      simp (disch := first | omega | (simp only [avs_len, List.length_cons, List.length_append, List.length_nil, List.length_take, List.length_drop, List.length_map]; omega) | (simp only [cells, scal1, allSz, List.length_cons, List.length_nil, List.length_append, List.length_map, List.all_cons, List.all_nil, avs_len, beq_self_eq_true, Bool.and_self, and_self, or_true, true_or, reduceCtorEq, *]; done) | fail) only [c_event_half, go_sem, Nat.reduceAdd, Nat.reduceSub, Nat.reduceMul, Nat.reduceLT, Nat.reduceLeDiff, Int.reduceToNat, Nat.reduceEqDiff, Nat.reduceBEq, ↓reduceIte, reduceCtorEq, eA, scal1, List.all_cons, List.all_nil, Bool.and_self, E.leaf, E.half, h0, g0, hnn]
      refine call0 100 trivial trivial c (.inl rfl) (fun A eA => ?_)
      simp (disch := first | omega | (simp only [avs_len, List.length_cons, List.length_append, List.length_nil, List.length_take, List.length_drop, List.length_map]; omega) | (simp only [cells, scal1, allSz, List.length_cons, List.length_nil, List.length_append, List.length_map, List.all_cons, List.all_nil, avs_len, beq_self_eq_true, Bool.and_self, and_self, or_true, true_or, reduceCtorEq, *]; done) | fail) only [c_event_half, go_sem, Nat.reduceAdd, Nat.reduceSub, Nat.reduceMul, Nat.reduceLT, Nat.reduceLeDiff, Int.reduceToNat, Nat.reduceEqDiff, Nat.reduceBEq, ↓reduceIte, reduceCtorEq, eA, scal1, List.all_cons, List.all_nil, Bool.and_self, E.leaf, E.half]
      exact doneG rfl
    | true =>
      have c := xlift_calls r (n : Nat) (r.n + n) (by omega) (by omega) (by omega)
      rw [← xtv_lift] at c
      simp (disch := first | omega | (simp only [avs_len, List.length_cons, List.length_append, List.length_nil, List.length_take, List.length_drop, List.length_map]; omega) | (simp only [cells, scal1, allSz, List.length_cons, List.length_nil, List.length_append, List.length_map, List.all_cons, List.all_nil, avs_len, beq_self_eq_true, Bool.and_self, and_self, or_true, true_or, reduceCtorEq, *]; done) | fail) only [c_event_half, go_sem, Nat.reduceAdd, Nat.reduceSub, Nat.reduceMul, Nat.reduceLT, Nat.reduceLeDiff, Int.reduceToNat, Nat.reduceEqDiff, Nat.reduceBEq, ↓reduceIte, reduceCtorEq, eA, scal1, List.all_cons, List.all_nil, Bool.and_self, E.leaf, E.half, h0, g1, hnn]
      refine call0 100 trivial trivial c (.inl rfl) (fun A eA => ?_)
      simp (disch := first | omega | (simp only [avs_len, List.length_cons, List.length_append, List.length_nil, List.length_take, List.length_drop, List.length_map]; omega) | (simp only [cells, scal1, allSz, List.length_cons, List.length_nil, List.length_append, List.length_map, List.all_cons, List.all_nil, avs_len, beq_self_eq_true, Bool.and_self, and_self, or_true, true_or, reduceCtorEq, *]; done) | fail) only [c_event_half, go_sem, Nat.reduceAdd, Nat.reduceSub, Nat.reduceMul, Nat.reduceLT, Nat.reduceLeDiff, Int.reduceToNat, Nat.reduceEqDiff, Nat.reduceBEq, ↓reduceIte, reduceCtorEq, eA, scal1, List.all_cons, List.all_nil, Bool.and_self, E.leaf, E.half]
      exact doneG rfl
theorem xleq_calls : ∀ (d : Nat) (a b : E), a.dep ≤ d + 1 → b.dep ≤ d + 1 → a.top < 2 ^ 60 → b.top < 2 ^ 60 → PCalls Try.prog F_event_leq [xtv a.t, xtv b.t] (.bool (leqR (rowE d a) (rowE d b))) := by
  have leafs : ∀ (d : Nat) (a b : E), a.leaf = true → b.leaf = true → PCalls Try.prog F_event_leq [xtv a.t, xtv b.t] (.bool (leqR (rowE d a) (rowE d b))) := by
    intro d a b ha hb
    have ca := xleaf_b a
    have cb := xleaf_b b
    rw [ha] at ca
    rw [hb] at cb
    have ea := a.t_n
    have eb := b.t_n
    have e : leqR (rowE d a) (rowE d b) = decide (a.t.n ≤ b.t.n) := by
      rw [ea, eb, E.leaf_lf ha, E.leaf_lf hb, rowE_lf, rowE_lf, leqR_replicate _ _ _ (Nat.pow_pos (by omega)), decide_eq_decide]
      simp only [E.n]; omega
    rw [e]
    refine calls_event_leq (walk0 100 trivial (fun A eA => ?_))
    simp (disch := first | omega | (simp only [avs_len, List.length_cons, List.length_append, List.length_nil, List.length_take, List.length_drop, List.length_map]; omega) | (simp only [cells, scal1, allSz, List.length_cons, List.length_nil, List.length_append, List.length_map, List.all_cons, List.all_nil, avs_len, beq_self_eq_true, Bool.and_self, and_self, or_true, true_or, reduceCtorEq, *]; done) | fail) only [c_event_leq, go_sem, Nat.reduceAdd, Nat.reduceSub, Nat.reduceMul, Nat.reduceLT, Nat.reduceLeDiff, Int.reduceToNat, Nat.reduceEqDiff, Nat.reduceBEq, ↓reduceIte, reduceCtorEq, eA, scal1, List.all_cons, List.all_nil, Bool.and_self]
    repeat ((first | refine call0 100 trivial trivial (by first | exact ca | exact cb) (by first | exact .inl rfl | exact .inr rfl) (fun A eA => ?_) | refine call1 100 trivial trivial (by first | exact ca | exact cb) (fun A eA => ?_)); simp (disch := first | omega | (simp only [avs_len, List.length_cons, List.length_append, List.length_nil, List.length_take, List.length_drop, List.length_map]; omega) | (simp only [cells, scal1, allSz, List.length_cons, List.length_nil, List.length_append, List.length_map, List.all_cons, List.all_nil, avs_len, beq_self_eq_true, Bool.and_self, and_self, or_true, true_or, reduceCtorEq, *]; done) | fail) only [c_event_leq, go_sem, Nat.reduceAdd, Nat.reduceSub, Nat.reduceMul, Nat.reduceLT, Nat.reduceLeDiff, Int.reduceToNat, Nat.reduceEqDiff, Nat.reduceBEq, ↓reduceIte, reduceCtorEq, eA, scal1, List.all_cons, List.all_nil, Bool.and_self])
    exact doneG rfl
  intro d
  induction d with
  | zero => intro a b ha hb _ _; exact leafs 0 a b (E.dep_one ha) (E.dep_one hb)
  | succ d ih =>
    intro a b ha hb ta tb
    by_cases hl : a.leaf = true ∧ b.leaf = true
    · exact leafs _ a b hl.1 hl.2
    · have h1 := a.half_dep false
      have h2 := a.half_dep true
      have h3 := b.half_dep false
      have h4 := b.half_dep true
      have t1 := a.half_top false
      have t2 := a.half_top true
      have t3 := b.half_top false
      have t4 := b.half_top true
      have c1 := xhalf_calls a ta false
      have c2 := xhalf_calls a ta true
      have c3 := xhalf_calls b tb false
      have c4 := xhalf_calls b tb true
      have k1 := ih (a.half false) (b.half false) (by omega) (by omega) (by omega) (by omega)
      have k2 := ih (a.half true) (b.half true) (by omega) (by omega) (by omega) (by omega)
      rw [rowE_split d a, rowE_split d b, leqR_append _ _ _ _ (by rw [rowE_len, rowE_len])]
      generalize leqR (rowE d (a.half false)) (rowE d (b.half false)) = q1 at k1 ⊢
      generalize leqR (rowE d (a.half true)) (rowE d (b.half true)) = q2 at k2 ⊢
      have ca := xleaf_b a
      have cb := xleaf_b b
      have fin : ∀ (x y : Bool), ¬ (x = true ∧ y = true) → PCalls Try.prog F_event_leaf [xtv a.t] (.bool x) → PCalls Try.prog F_event_leaf [xtv b.t] (.bool y) → PCalls Try.prog F_event_leq [xtv a.t, xtv b.t] (.bool (q1 && q2)) := by
        intro x y hxy ca cb
        refine calls_event_leq (walk0 100 trivial (fun A eA => ?_))
        simp only [Bool.false_eq_true, if_false, if_true] at c1 c2 c3 c4
        cases x <;> cases y <;> cases q1
        all_goals first
          | (exfalso; exact hxy ⟨rfl, rfl⟩)
          | (simp (disch := first | omega | (simp only [avs_len, List.length_cons, List.length_append, List.length_nil, List.length_take, List.length_drop, List.length_map]; omega) | (simp only [cells, scal1, allSz, List.length_cons, List.length_nil, List.length_append, List.length_map, List.all_cons, List.all_nil, avs_len, beq_self_eq_true, Bool.and_self, and_self, or_true, true_or, reduceCtorEq, *]; done) | fail) only [c_event_leq, go_sem, Nat.reduceAdd, Nat.reduceSub, Nat.reduceMul, Nat.reduceLT, Nat.reduceLeDiff, Int.reduceToNat, Nat.reduceEqDiff, Nat.reduceBEq, ↓reduceIte, reduceCtorEq, eA, scal1, List.all_cons, List.all_nil, Bool.and_self]
             repeat ((first | refine call0 100 trivial trivial (by first | exact ca | exact cb | exact c1 | exact c3 | exact k1 | exact c2 | exact c4 | exact k2) (by first | exact .inl rfl | exact .inr rfl) (fun A eA => ?_) | refine call1 100 trivial trivial (by first | exact ca | exact cb | exact c1 | exact c3 | exact k1 | exact c2 | exact c4 | exact k2) (fun A eA => ?_)); simp (disch := first | omega | (simp only [avs_len, List.length_cons, List.length_append, List.length_nil, List.length_take, List.length_drop, List.length_map]; omega) | (simp only [cells, scal1, allSz, List.length_cons, List.length_nil, List.length_append, List.length_map, List.all_cons, List.all_nil, avs_len, beq_self_eq_true, Bool.and_self, and_self, or_true, true_or, reduceCtorEq, *]; done) | fail) only [c_event_leq, go_sem, Nat.reduceAdd, Nat.reduceSub, Nat.reduceMul, Nat.reduceLT, Nat.reduceLeDiff, Int.reduceToNat, Nat.reduceEqDiff, Nat.reduceBEq, ↓reduceIte, reduceCtorEq, eA, scal1, List.all_cons, List.all_nil, Bool.and_self, Bool.false_and, Bool.true_and])
             exact doneG rfl)
      exact fin _ _ hl ca cb
theorem xtop_rt {b : E} (h1 : b.dep ≤ 8) (h2 : b.small = true) : b.top < 2 ^ 60 := by
  have := E.top_small h2
  have : b.dep * 1099511627776 ≤ 8 * 1099511627776 := Nat.mul_le_mul_right _ h1
  omega
/-- Is it at most that one, at each place; both right. -/
noncomputable def xleqT (a b : ET) : Bool := @dite _ (XRt a ∧ XRt b) (Classical.propDecidable _) (fun h => leqR (rowE 7 h.1.choose) (rowE 7 h.2.choose)) (fun _ => false)
theorem xleqT_no {a b : ET} (h : ¬ (XRt a ∧ XRt b)) : xleqT a b = false := by simp only [xleqT]; rw [dif_neg h]
theorem xleqT_b {a b : E} (ha : XRt a.t) (hb : XRt b.t) : xleqT a.t b.t = leqR (rowE 7 a) (rowE 7 b) := by
  have h : XRt a.t ∧ XRt b.t := ⟨ha, hb⟩
  have e : xleqT a.t b.t = leqR (rowE 7 h.1.choose) (rowE 7 h.2.choose) := by simp only [xleqT]; rw [dif_pos h]
  have e1 := E.inj h.1.choose_spec.1
  have e2 := E.inj h.2.choose_spec.1
  rw [e, ← e1, ← e2]
theorem xLeq_calls (a b : ET) : PCalls Try.prog F_event_Leq [xtv a, xtv b] (.bool (xleqT a b)) := by
  have ca := xright_calls a
  have cb := xright_calls b
  refine calls_event_Leq (walk0 100 trivial (fun A eA => ?_))
  by_cases ha : XRt a
  · rw [xrtb_true.2 ha] at ca
    by_cases hb : XRt b
    · rw [xrtb_true.2 hb] at cb
      obtain ⟨x, rfl, x1, x2, x3, x4⟩ := id ha
      obtain ⟨y, rfl, y1, y2, y3, y4⟩ := id hb
      have c := xleq_calls 7 x y (by omega) (by omega) (xtop_rt x1 x4) (xtop_rt y1 y4)
      rw [xleqT_b ha hb]
      simp (disch := first | omega | (simp only [avs_len, List.length_cons, List.length_append, List.length_nil, List.length_take, List.length_drop, List.length_map]; omega) | (simp only [cells, scal1, allSz, List.length_cons, List.length_nil, List.length_append, List.length_map, List.all_cons, List.all_nil, avs_len, beq_self_eq_true, Bool.and_self, and_self, or_true, true_or, reduceCtorEq, *]; done) | fail) only [c_event_Leq, go_sem, Nat.reduceAdd, Nat.reduceSub, Nat.reduceMul, Nat.reduceLT, Nat.reduceLeDiff, Int.reduceToNat, Nat.reduceEqDiff, Nat.reduceBEq, ↓reduceIte, reduceCtorEq, eA, scal1, List.all_cons, List.all_nil, Bool.and_self]
      repeat ((first | refine call0 100 trivial trivial (by first | exact ca | exact cb | exact c) (by first | exact .inl rfl | exact .inr rfl) (fun A eA => ?_) | refine call1 100 trivial trivial (by first | exact ca | exact cb | exact c) (fun A eA => ?_)); simp (disch := first | omega | (simp only [avs_len, List.length_cons, List.length_append, List.length_nil, List.length_take, List.length_drop, List.length_map]; omega) | (simp only [cells, scal1, allSz, List.length_cons, List.length_nil, List.length_append, List.length_map, List.all_cons, List.all_nil, avs_len, beq_self_eq_true, Bool.and_self, and_self, or_true, true_or, reduceCtorEq, *]; done) | fail) only [c_event_Leq, go_sem, Nat.reduceAdd, Nat.reduceSub, Nat.reduceMul, Nat.reduceLT, Nat.reduceLeDiff, Int.reduceToNat, Nat.reduceEqDiff, Nat.reduceBEq, ↓reduceIte, reduceCtorEq, eA, scal1, List.all_cons, List.all_nil, Bool.and_self])
      exact doneG rfl
    · rw [show xrtb b = false by rw [Bool.eq_false_iff, ne_eq, xrtb_true]; exact hb] at cb
      rw [xleqT_no (fun h => hb h.2)]
      simp (disch := first | omega | (simp only [avs_len, List.length_cons, List.length_append, List.length_nil, List.length_take, List.length_drop, List.length_map]; omega) | (simp only [cells, scal1, allSz, List.length_cons, List.length_nil, List.length_append, List.length_map, List.all_cons, List.all_nil, avs_len, beq_self_eq_true, Bool.and_self, and_self, or_true, true_or, reduceCtorEq, *]; done) | fail) only [c_event_Leq, go_sem, Nat.reduceAdd, Nat.reduceSub, Nat.reduceMul, Nat.reduceLT, Nat.reduceLeDiff, Int.reduceToNat, Nat.reduceEqDiff, Nat.reduceBEq, ↓reduceIte, reduceCtorEq, eA, scal1, List.all_cons, List.all_nil, Bool.and_self]
      repeat ((first | refine call0 100 trivial trivial (by first | exact ca | exact cb) (by first | exact .inl rfl | exact .inr rfl) (fun A eA => ?_) | refine call1 100 trivial trivial (by first | exact ca | exact cb) (fun A eA => ?_)); simp (disch := first | omega | (simp only [avs_len, List.length_cons, List.length_append, List.length_nil, List.length_take, List.length_drop, List.length_map]; omega) | (simp only [cells, scal1, allSz, List.length_cons, List.length_nil, List.length_append, List.length_map, List.all_cons, List.all_nil, avs_len, beq_self_eq_true, Bool.and_self, and_self, or_true, true_or, reduceCtorEq, *]; done) | fail) only [c_event_Leq, go_sem, Nat.reduceAdd, Nat.reduceSub, Nat.reduceMul, Nat.reduceLT, Nat.reduceLeDiff, Int.reduceToNat, Nat.reduceEqDiff, Nat.reduceBEq, ↓reduceIte, reduceCtorEq, eA, scal1, List.all_cons, List.all_nil, Bool.and_self])
      exact doneG rfl
  · rw [show xrtb a = false by rw [Bool.eq_false_iff, ne_eq, xrtb_true]; exact ha] at ca
    rw [xleqT_no (fun h => ha h.1)]
    simp (disch := first | omega | (simp only [avs_len, List.length_cons, List.length_append, List.length_nil, List.length_take, List.length_drop, List.length_map]; omega) | (simp only [cells, scal1, allSz, List.length_cons, List.length_nil, List.length_append, List.length_map, List.all_cons, List.all_nil, avs_len, beq_self_eq_true, Bool.and_self, and_self, or_true, true_or, reduceCtorEq, *]; done) | fail) only [c_event_Leq, go_sem, Nat.reduceAdd, Nat.reduceSub, Nat.reduceMul, Nat.reduceLT, Nat.reduceLeDiff, Int.reduceToNat, Nat.reduceEqDiff, Nat.reduceBEq, ↓reduceIte, reduceCtorEq, eA, scal1, List.all_cons, List.all_nil, Bool.and_self]
    repeat ((first | refine call0 100 trivial trivial (by first | exact ca | exact cb) (by first | exact .inl rfl | exact .inr rfl) (fun A eA => ?_) | refine call1 100 trivial trivial (by first | exact ca | exact cb) (fun A eA => ?_)); simp (disch := first | omega | (simp only [avs_len, List.length_cons, List.length_append, List.length_nil, List.length_take, List.length_drop, List.length_map]; omega) | (simp only [cells, scal1, allSz, List.length_cons, List.length_nil, List.length_append, List.length_map, List.all_cons, List.all_nil, avs_len, beq_self_eq_true, Bool.and_self, and_self, or_true, true_or, reduceCtorEq, *]; done) | fail) only [c_event_Leq, go_sem, Nat.reduceAdd, Nat.reduceSub, Nat.reduceMul, Nat.reduceLT, Nat.reduceLeDiff, Int.reduceToNat, Nat.reduceEqDiff, Nat.reduceBEq, ↓reduceIte, reduceCtorEq, eA, scal1, List.all_cons, List.all_nil, Bool.and_self])
    exact doneG rfl
theorem refLeq_calls (p q : List Nat) (hl : p.length = q.length) (hs : p.length < 2 ^ 60) : PCalls Try.prog F_ref04_Leq [.fz 1 (ivs p) none, .fz 1 (ivs q) none] (.bool (leqR p q)) := by
  have key : ∀ (p2 q2 p1 q1 : List Nat), p = p1 ++ p2 → q = q1 ++ q2 → p1.length = q1.length → ∀ nx : Ctr, RunsX Try.prog 0 (Gives [.t 4] (.bool (leqR p2 q2))) (i_ref04_Leq_0 ++ [.c c_ref04_Leq_k0]) (s_ref04_Leq_0 (.fz 1 (ivs p) none) (.fz 1 (ivs q) none) (.int .i64 (p.length : Nat)) (.int .i64 (p1.length : Nat))) [] nx := by
    intro p2
    induction p2 with
    | nil =>
      intro q2 p1 q1 h1 h2 h3 nx
      have h5 : p.length = p1.length := by rw [h1]; simp
      refine round (its := [.blk 0 wb_ref04_Leq_0]) (k0 := [.c c_ref04_Leq_k0]) 100 trivial trivial (fun A eA => ?_)
      simp (disch := first | omega | (simp only [avs_len, List.length_cons, List.length_append, List.length_nil, List.length_take, List.length_drop, List.length_map]; omega) | (simp only [cells, scal1, allSz, List.length_cons, List.length_nil, List.length_append, List.length_map, List.all_cons, List.all_nil, avs_len, beq_self_eq_true, Bool.and_self, and_self, or_true, true_or, reduceCtorEq, *]; done) | fail) only [c_ref04_Leq, wl_ref04_Leq_0, s_ref04_Leq_0, c_ref04_Leq_l0, wb_ref04_Leq_0, c_ref04_Leq_k0, go_sem, Nat.reduceAdd, Nat.reduceSub, Nat.reduceMul, Nat.reduceLT, Nat.reduceLeDiff, Int.reduceToNat, Nat.reduceEqDiff, Nat.reduceBEq, ↓reduceIte, reduceCtorEq, eA]
      refine walk0 (its := [.c c_ref04_Leq_k0]) 100 trivial (fun A eA => ?_)
      simp (disch := first | omega | (simp only [avs_len, List.length_cons, List.length_append, List.length_nil, List.length_take, List.length_drop, List.length_map]; omega) | (simp only [cells, scal1, allSz, List.length_cons, List.length_nil, List.length_append, List.length_map, List.all_cons, List.all_nil, avs_len, beq_self_eq_true, Bool.and_self, and_self, or_true, true_or, reduceCtorEq, *]; done) | fail) only [c_ref04_Leq, wl_ref04_Leq_0, s_ref04_Leq_0, c_ref04_Leq_l0, wb_ref04_Leq_0, c_ref04_Leq_k0, go_sem, Nat.reduceAdd, Nat.reduceSub, Nat.reduceMul, Nat.reduceLT, Nat.reduceLeDiff, Int.reduceToNat, Nat.reduceEqDiff, Nat.reduceBEq, ↓reduceIte, reduceCtorEq, eA, leqR]
      exact doneG rfl
    | cons x p2 ih =>
      intro q2 p1 q1 h1 h2 h3 nx
      cases q2 with
      | nil => have := congrArg List.length h1; have := congrArg List.length h2; simp at *; omega
      | cons y q2 =>
        have hlt : p1.length < p.length := by rw [h1]; simp
        have g0 : (ivs p)[p1.length]? = some (.int .i64 (x : Nat)) := by rw [List.getElem?_map, h1]; simp
        have g1 : (ivs q)[p1.length]? = some (.int .i64 (y : Nat)) := by rw [List.getElem?_map, h2, h3]; simp
        have w1 : IntKind.i64.wrap ((p1.length : Int) + 1) = ((p1.length + 1 : Nat) : Int) := by rw [IntKind.wrap_i64]; omega
        refine round (its := [.blk 0 wb_ref04_Leq_0]) (k0 := [.c c_ref04_Leq_k0]) 100 trivial trivial (fun A eA => ?_)
        simp only [leqR]
        by_cases h : x ≤ y
        · rw [decide_eq_true h, Bool.true_and]
          simp (disch := first | omega | (simp only [avs_len, List.length_cons, List.length_append, List.length_nil, List.length_take, List.length_drop, List.length_map]; omega) | (simp only [cells, scal1, allSz, List.length_cons, List.length_nil, List.length_append, List.length_map, List.all_cons, List.all_nil, avs_len, beq_self_eq_true, Bool.and_self, and_self, or_true, true_or, reduceCtorEq, *]; done) | fail) only [c_ref04_Leq, wl_ref04_Leq_0, s_ref04_Leq_0, c_ref04_Leq_l0, wb_ref04_Leq_0, c_ref04_Leq_k0, go_sem, Nat.reduceAdd, Nat.reduceSub, Nat.reduceMul, Nat.reduceLT, Nat.reduceLeDiff, Int.reduceToNat, Nat.reduceEqDiff, Nat.reduceBEq, ↓reduceIte, reduceCtorEq, eA, Int.toNat_natCast, g0, g1, w1]
          have hih := ih q2 (p1 ++ [x]) (q1 ++ [y]) (by rw [h1]; simp) (by rw [h2]; simp) (by simp [h3]) nx
          rw [show (p1 ++ [x]).length = p1.length + 1 by simp] at hih
          exact hih
        · rw [decide_eq_false h, Bool.false_and]
          simp (disch := first | omega | (simp only [avs_len, List.length_cons, List.length_append, List.length_nil, List.length_take, List.length_drop, List.length_map]; omega) | (simp only [cells, scal1, allSz, List.length_cons, List.length_nil, List.length_append, List.length_map, List.all_cons, List.all_nil, avs_len, beq_self_eq_true, Bool.and_self, and_self, or_true, true_or, reduceCtorEq, *]; done) | fail) only [c_ref04_Leq, wl_ref04_Leq_0, s_ref04_Leq_0, c_ref04_Leq_l0, wb_ref04_Leq_0, c_ref04_Leq_k0, go_sem, Nat.reduceAdd, Nat.reduceSub, Nat.reduceMul, Nat.reduceLT, Nat.reduceLeDiff, Int.reduceToNat, Nat.reduceEqDiff, Nat.reduceBEq, ↓reduceIte, reduceCtorEq, eA, Int.toNat_natCast, g0, g1, w1]
          exact doneG rfl
  refine calls_ref04_Leq (walk0 100 trivial (fun A eA => ?_))
  simp (disch := first | omega | (simp only [avs_len, List.length_cons, List.length_append, List.length_nil, List.length_take, List.length_drop, List.length_map]; omega) | (simp only [cells, scal1, allSz, List.length_cons, List.length_nil, List.length_append, List.length_map, List.all_cons, List.all_nil, avs_len, beq_self_eq_true, Bool.and_self, and_self, or_true, true_or, reduceCtorEq, *]; done) | fail) only [c_ref04_Leq, wl_ref04_Leq_0, s_ref04_Leq_0, c_ref04_Leq_l0, wb_ref04_Leq_0, c_ref04_Leq_k0, go_sem, Nat.reduceAdd, Nat.reduceSub, Nat.reduceMul, Nat.reduceLT, Nat.reduceLeDiff, Int.reduceToNat, Nat.reduceEqDiff, Nat.reduceBEq, ↓reduceIte, reduceCtorEq, eA, ivs_len]
  exact key p q [] [] rfl rfl rfl zeroC
theorem refEqual_calls (p q : List Nat) (hl : p.length = q.length) (hs : p.length < 2 ^ 60) : PCalls Try.prog F_ref04_equal [.fz 1 (ivs p) none, .fz 1 (ivs q) none] (.bool (eqR p q)) := by
  have key : ∀ (p2 q2 p1 q1 : List Nat), p = p1 ++ p2 → q = q1 ++ q2 → p1.length = q1.length → ∀ nx : Ctr, RunsX Try.prog 0 (Gives [.t 4] (.bool (eqR p2 q2))) (i_ref04_equal_0 ++ [.c c_ref04_equal_k0]) (s_ref04_equal_0 (.fz 1 (ivs p) none) (.fz 1 (ivs q) none) (.int .i64 (p.length : Nat)) (.int .i64 (p1.length : Nat))) [] nx := by
    intro p2
    induction p2 with
    | nil =>
      intro q2 p1 q1 h1 h2 h3 nx
      have h5 : p.length = p1.length := by rw [h1]; simp
      refine round (its := [.blk 0 wb_ref04_equal_0]) (k0 := [.c c_ref04_equal_k0]) 100 trivial trivial (fun A eA => ?_)
      simp (disch := first | omega | (simp only [avs_len, List.length_cons, List.length_append, List.length_nil, List.length_take, List.length_drop, List.length_map]; omega) | (simp only [cells, scal1, allSz, List.length_cons, List.length_nil, List.length_append, List.length_map, List.all_cons, List.all_nil, avs_len, beq_self_eq_true, Bool.and_self, and_self, or_true, true_or, reduceCtorEq, *]; done) | fail) only [c_ref04_equal, wl_ref04_equal_0, s_ref04_equal_0, c_ref04_equal_l0, wb_ref04_equal_0, c_ref04_equal_k0, go_sem, Nat.reduceAdd, Nat.reduceSub, Nat.reduceMul, Nat.reduceLT, Nat.reduceLeDiff, Int.reduceToNat, Nat.reduceEqDiff, Nat.reduceBEq, ↓reduceIte, reduceCtorEq, eA]
      refine walk0 (its := [.c c_ref04_equal_k0]) 100 trivial (fun A eA => ?_)
      simp (disch := first | omega | (simp only [avs_len, List.length_cons, List.length_append, List.length_nil, List.length_take, List.length_drop, List.length_map]; omega) | (simp only [cells, scal1, allSz, List.length_cons, List.length_nil, List.length_append, List.length_map, List.all_cons, List.all_nil, avs_len, beq_self_eq_true, Bool.and_self, and_self, or_true, true_or, reduceCtorEq, *]; done) | fail) only [c_ref04_equal, wl_ref04_equal_0, s_ref04_equal_0, c_ref04_equal_l0, wb_ref04_equal_0, c_ref04_equal_k0, go_sem, Nat.reduceAdd, Nat.reduceSub, Nat.reduceMul, Nat.reduceLT, Nat.reduceLeDiff, Int.reduceToNat, Nat.reduceEqDiff, Nat.reduceBEq, ↓reduceIte, reduceCtorEq, eA, eqR]
      exact doneG rfl
    | cons x p2 ih =>
      intro q2 p1 q1 h1 h2 h3 nx
      cases q2 with
      | nil => have := congrArg List.length h1; have := congrArg List.length h2; simp at *; omega
      | cons y q2 =>
        have hlt : p1.length < p.length := by rw [h1]; simp
        have g0 : (ivs p)[p1.length]? = some (.int .i64 (x : Nat)) := by rw [List.getElem?_map, h1]; simp
        have g1 : (ivs q)[p1.length]? = some (.int .i64 (y : Nat)) := by rw [List.getElem?_map, h2, h3]; simp
        have w1 : IntKind.i64.wrap ((p1.length : Int) + 1) = ((p1.length + 1 : Nat) : Int) := by rw [IntKind.wrap_i64]; omega
        refine round (its := [.blk 0 wb_ref04_equal_0]) (k0 := [.c c_ref04_equal_k0]) 100 trivial trivial (fun A eA => ?_)
        simp only [eqR]
        by_cases h : x = y
        · rw [decide_eq_true h, Bool.true_and]
          simp (disch := first | omega | (simp only [avs_len, List.length_cons, List.length_append, List.length_nil, List.length_take, List.length_drop, List.length_map]; omega) | (simp only [cells, scal1, allSz, List.length_cons, List.length_nil, List.length_append, List.length_map, List.all_cons, List.all_nil, avs_len, beq_self_eq_true, Bool.and_self, and_self, or_true, true_or, reduceCtorEq, *]; done) | fail) only [c_ref04_equal, wl_ref04_equal_0, s_ref04_equal_0, c_ref04_equal_l0, wb_ref04_equal_0, c_ref04_equal_k0, go_sem, Nat.reduceAdd, Nat.reduceSub, Nat.reduceMul, Nat.reduceLT, Nat.reduceLeDiff, Int.reduceToNat, Nat.reduceEqDiff, Nat.reduceBEq, ↓reduceIte, reduceCtorEq, eA, Int.toNat_natCast, g0, g1, w1]
          have hih := ih q2 (p1 ++ [x]) (q1 ++ [y]) (by rw [h1]; simp) (by rw [h2]; simp) (by simp [h3]) nx
          rw [show (p1 ++ [x]).length = p1.length + 1 by simp] at hih
          exact hih
        · rw [decide_eq_false h, Bool.false_and]
          simp (disch := first | omega | (simp only [avs_len, List.length_cons, List.length_append, List.length_nil, List.length_take, List.length_drop, List.length_map]; omega) | (simp only [cells, scal1, allSz, List.length_cons, List.length_nil, List.length_append, List.length_map, List.all_cons, List.all_nil, avs_len, beq_self_eq_true, Bool.and_self, and_self, or_true, true_or, reduceCtorEq, *]; done) | fail) only [c_ref04_equal, wl_ref04_equal_0, s_ref04_equal_0, c_ref04_equal_l0, wb_ref04_equal_0, c_ref04_equal_k0, go_sem, Nat.reduceAdd, Nat.reduceSub, Nat.reduceMul, Nat.reduceLT, Nat.reduceLeDiff, Int.reduceToNat, Nat.reduceEqDiff, Nat.reduceBEq, ↓reduceIte, reduceCtorEq, eA, Int.toNat_natCast, g0, g1, w1]
          exact doneG rfl
  refine calls_ref04_equal (walk0 100 trivial (fun A eA => ?_))
  simp (disch := first | omega | (simp only [avs_len, List.length_cons, List.length_append, List.length_nil, List.length_take, List.length_drop, List.length_map]; omega) | (simp only [cells, scal1, allSz, List.length_cons, List.length_nil, List.length_append, List.length_map, List.all_cons, List.all_nil, avs_len, beq_self_eq_true, Bool.and_self, and_self, or_true, true_or, reduceCtorEq, *]; done) | fail) only [c_ref04_equal, wl_ref04_equal_0, s_ref04_equal_0, c_ref04_equal_l0, wb_ref04_equal_0, c_ref04_equal_k0, go_sem, Nat.reduceAdd, Nat.reduceSub, Nat.reduceMul, Nat.reduceLT, Nat.reduceLeDiff, Int.reduceToNat, Nat.reduceEqDiff, Nat.reduceBEq, ↓reduceIte, reduceCtorEq, eA, ivs_len]
  exact key p q [] [] rfl rfl rfl zeroC
end Go.Proofs.Ytmokhopjnjecbab
/- The walk through the reference's rows of events. -/
-- short
namespace Go.Proofs.Ytmokhopjnjecbab
open Go.Ev
set_option linter.unusedVariables false
set_option linter.unusedSimpArgs false
set_option maxRecDepth 100000
variable {R : List AV → Heap → Ctr → Prop} {k : List It} {H : Heap} {nx : Ctr} {φ : Nat}

theorem erow_inner (p : Nat) (hp : p < 128) (t1 t3 t10 t11 : AV) (g8 : Nat) (cs : List AV) (hk : flat k) (g5 : Nat) (nx : Ctr) : ∀ (b : E) (i Z : Nat), i + b.dep ≤ 8 → Z + b.top < 2 ^ 60 →
    (∀ x y : AV, RunsX Try.prog φ R k (e_ref04_ERow_2 t1 t3 (.int .i64 (p : Nat)) (.int .i64 ((Z + valE b p (64 / 2 ^ i) : Nat) : Int)) t10 t11) [(φ, 5, g5, some [x, y]), (φ, 8, g8, some cs)] nx) →
    RunsX Try.prog φ R (i_ref04_ERow_2 ++ k) (s_ref04_ERow_2 t1 t3 (.int .i64 (p : Nat)) (.ptr φ 5 g5 0) (.int .i64 ((Z + b.n : Nat) : Int)) (.int .i64 ((64 / 2 ^ i : Nat) : Int)) t10 t11) [(φ, 5, g5, some [.int .i64 b.t.n, .fz 2 (xtavs b.t.ps) none]), (φ, 8, g8, some cs)] nx := by
  intro b
  induction b with
  | lf o =>
    intro i Z hi hA h
    have h0 : (E.lf o).t.ps.length = 0 := rfl
    refine round (its := [.blk 2 wb_ref04_ERow_2]) 100 hk trivial (fun A eA => ?_)
    simp (disch := first | omega | (simp only [avs_len, List.length_cons, List.length_append, List.length_nil, List.length_take, List.length_drop, List.length_map]; omega) | (simp only [cells, scal1, allSz, List.length_cons, List.length_nil, List.length_append, List.length_map, List.all_cons, List.all_nil, avs_len, beq_self_eq_true, Bool.and_self, and_self, or_true, true_or, reduceCtorEq, *]; done) | fail) only [c_ref04_ERow, wl_ref04_ERow_2, s_ref04_ERow_2, c_ref04_ERow_l2, wb_ref04_ERow_2, c_ref04_ERow_k0, wb_ref04_ERow_1, c_ref04_ERow_k1, wl_ref04_ERow_0, s_ref04_ERow_0, c_ref04_ERow_l0, wb_ref04_ERow_0, c_ref04_ERow_k2, go_sem, Nat.reduceAdd, Nat.reduceSub, Nat.reduceMul, Nat.reduceLT, Nat.reduceLeDiff, Int.reduceToNat, Nat.reduceEqDiff, Nat.reduceBEq, ↓reduceIte, reduceCtorEq, eA, xtavs_len]
    exact h _ _
  | nd n l r ihl ihr =>
    intro i Z hi hA h
    have h0 : (E.nd n l r).t.ps = [l.t, r.t] := rfl
    have g0 : (xtavs [l.t, r.t])[0]? = some (xtv l.t) := by rw [xtavs_get]; rfl
    have g1 : (xtavs [l.t, r.t])[1]? = some (xtv r.t) := by rw [xtavs_get]; rfl
    simp only [E.dep] at hi
    simp only [E.top] at hA
    have htl := l.top_n
    have htr := r.top_n
    have hi6 : i ≤ 6 := by have : 1 ≤ l.dep := l.dep_pos
                           omega
    have hpow : 64 / 2 ^ i = 2 ^ (6 - i) := by
      match i, hi6 with
      | 0, _ => rfl
      | 1, _ => rfl
      | 2, _ => rfl
      | 3, _ => rfl
      | 4, _ => rfl
      | 5, _ => rfl
      | 6, _ => rfl
    have hpos : 0 < 2 ^ (6 - i) := Nat.pow_pos (by omega)
    have hle : 64 / 2 ^ i ≤ 64 := Nat.div_le_self _ _
    obtain ⟨q, hq⟩ : ∃ q, q = 64 / 2 ^ i := ⟨_, rfl⟩
    rw [← hpow] at hpos
    rw [← hq] at hpos hle h ⊢
    have hq2 : q / 2 = 64 / 2 ^ (i + 1) := by rw [hq, Nat.div_div_eq_div_mul, Nat.pow_succ]
    have hpq : p / q ≤ p := Nat.div_le_self _ _
    simp only [valE] at h
    have e1 : (p : Int).tdiv (q : Int) = ((p / q : Nat) : Int) := by rw [Int.tdiv_eq_ediv_of_nonneg (by omega)]; simp
    generalize p / q = m at h e1 hpq
    have e2 : IntKind.i64.wrap (m : Int) = (m : Int) := by rw [IntKind.wrap_i64]; omega
    have e3 : (m : Int).tmod 2 = ((m % 2 : Nat) : Int) := by rw [Int.tmod_eq_emod_of_nonneg (by omega)]; omega
    have e4 : (q : Int).tdiv 2 = ((q / 2 : Nat) : Int) := by rw [Int.tdiv_eq_ediv_of_nonneg (by omega)]; omega
    have e5 : IntKind.i64.wrap ((q / 2 : Nat) : Int) = ((q / 2 : Nat) : Int) := by rw [IntKind.wrap_i64]; omega
    have hnn : (E.nd n l r).n = n := rfl
    refine round (its := [.blk 2 wb_ref04_ERow_2]) 100 hk trivial (fun A eA => ?_)
    by_cases hz : m % 2 = 0
    · rw [if_pos hz, hq2] at h
      have e6 : IntKind.i64.wrap (((Z + n : Nat) : Int) + l.t.n) = ((Z + n + l.n : Nat) : Int) := by rw [IntKind.wrap_i64, l.t_n]; omega
      simp (disch := first | omega | (simp only [avs_len, List.length_cons, List.length_append, List.length_nil, List.length_take, List.length_drop, List.length_map]; omega) | (simp only [cells, scal1, allSz, List.length_cons, List.length_nil, List.length_append, List.length_map, List.all_cons, List.all_nil, avs_len, beq_self_eq_true, Bool.and_self, and_self, or_true, true_or, reduceCtorEq, *]; done) | fail) only [c_ref04_ERow, wl_ref04_ERow_2, s_ref04_ERow_2, c_ref04_ERow_l2, wb_ref04_ERow_2, c_ref04_ERow_k0, wb_ref04_ERow_1, c_ref04_ERow_k1, wl_ref04_ERow_0, s_ref04_ERow_0, c_ref04_ERow_l0, wb_ref04_ERow_0, c_ref04_ERow_k2, go_sem, Nat.reduceAdd, Nat.reduceSub, Nat.reduceMul, Nat.reduceLT, Nat.reduceLeDiff, Int.reduceToNat, Nat.reduceEqDiff, Nat.reduceBEq, ↓reduceIte, reduceCtorEq, eA, xtavs_len, h0, hnn, e1, e2, e3, hz, e4, e5, e6, Int.toNat_natCast, g0, scal1, List.all_cons, List.all_nil, Bool.and_self]
      rw [hq2]
      exact ihl (i + 1) (Z + n) (by omega) (by omega) (fun x y => by have := h x y; rwa [← Nat.add_assoc] at this)
    · rw [if_neg hz, hq2] at h
      have hz1 : m % 2 = 1 := by omega
      have e6 : IntKind.i64.wrap (((Z + n : Nat) : Int) + r.t.n) = ((Z + n + r.n : Nat) : Int) := by rw [IntKind.wrap_i64, r.t_n]; omega
      simp (disch := first | omega | (simp only [avs_len, List.length_cons, List.length_append, List.length_nil, List.length_take, List.length_drop, List.length_map]; omega) | (simp only [cells, scal1, allSz, List.length_cons, List.length_nil, List.length_append, List.length_map, List.all_cons, List.all_nil, avs_len, beq_self_eq_true, Bool.and_self, and_self, or_true, true_or, reduceCtorEq, *]; done) | fail) only [c_ref04_ERow, wl_ref04_ERow_2, s_ref04_ERow_2, c_ref04_ERow_l2, wb_ref04_ERow_2, c_ref04_ERow_k0, wb_ref04_ERow_1, c_ref04_ERow_k1, wl_ref04_ERow_0, s_ref04_ERow_0, c_ref04_ERow_l0, wb_ref04_ERow_0, c_ref04_ERow_k2, go_sem, Nat.reduceAdd, Nat.reduceSub, Nat.reduceMul, Nat.reduceLT, Nat.reduceLeDiff, Int.reduceToNat, Nat.reduceEqDiff, Nat.reduceBEq, ↓reduceIte, reduceCtorEq, eA, xtavs_len, h0, hnn, e1, e2, e3, hz1, e4, e5, e6, Int.toNat_natCast, g1, scal1, List.all_cons, List.all_nil, Bool.and_self]
      rw [hq2]
      exact ihr (i + 1) (Z + n) (by omega) (by omega) (fun x y => by have := h x y; rwa [← Nat.add_assoc] at this)
theorem erow_loop (e : E) (hd : e.dep ≤ 8) (ht : e.top < 2 ^ 60) : ∀ (n i : Nat), i + n = 128 → ∀ cs0 : List AV, cs0 = partR (ivs (rowE 7 e)) (.int .i64 0) i → ∀ nx : Ctr,
    RunsX Try.prog 0 (Gives [.t 2] (.fz 1 (ivs (rowE 7 e)) none)) (i_ref04_ERow_0 ++ [.c c_ref04_ERow_k2]) (s_ref04_ERow_0 (.ro [.int .i64 e.t.n, .fz 2 (xtavs e.t.ps) none]) (.sl 0 8 0 1 0 128) (.int .i64 128) (.int .i64 (i : Nat))) [(0, 8, 0, some cs0)] nx := by
  have hL : (ivs (rowE 7 e)).length = 128 := by rw [ivs_len, rowE_len]
  intro n
  induction n with
  | zero =>
    intro i hi cs0 hcs0 nx
    obtain rfl : i = 128 := by omega
    have e0 : cs0 = ivs (rowE 7 e) := by rw [hcs0]; have := partR_all (ivs (rowE 7 e)) (.int .i64 0); rwa [hL] at this
    subst e0
    refine round (its := [.blk 0 wb_ref04_ERow_0]) (k0 := [.c c_ref04_ERow_k2]) 100 trivial trivial (fun A eA => ?_)
    simp (disch := first | omega | (simp only [avs_len, List.length_cons, List.length_append, List.length_nil, List.length_take, List.length_drop, List.length_map]; omega) | (simp only [cells, scal1, allSz, List.length_cons, List.length_nil, List.length_append, List.length_map, List.all_cons, List.all_nil, avs_len, beq_self_eq_true, Bool.and_self, and_self, or_true, true_or, reduceCtorEq, *]; done) | fail) only [c_ref04_ERow, wl_ref04_ERow_2, s_ref04_ERow_2, c_ref04_ERow_l2, wb_ref04_ERow_2, c_ref04_ERow_k0, wb_ref04_ERow_1, c_ref04_ERow_k1, wl_ref04_ERow_0, s_ref04_ERow_0, c_ref04_ERow_l0, wb_ref04_ERow_0, c_ref04_ERow_k2, go_sem, Nat.reduceAdd, Nat.reduceSub, Nat.reduceMul, Nat.reduceLT, Nat.reduceLeDiff, Int.reduceToNat, Nat.reduceEqDiff, Nat.reduceBEq, ↓reduceIte, reduceCtorEq, eA]
    refine walk0 (its := [.c c_ref04_ERow_k2]) 100 trivial (fun A eA => ?_)
    simp (disch := first | omega | (simp only [avs_len, List.length_cons, List.length_append, List.length_nil, List.length_take, List.length_drop, List.length_map]; omega) | (simp only [cells, scal1, allSz, List.length_cons, List.length_nil, List.length_append, List.length_map, List.all_cons, List.all_nil, avs_len, beq_self_eq_true, Bool.and_self, and_self, or_true, true_or, reduceCtorEq, *]; done) | fail) only [c_ref04_ERow, wl_ref04_ERow_2, s_ref04_ERow_2, c_ref04_ERow_l2, wb_ref04_ERow_2, c_ref04_ERow_k0, wb_ref04_ERow_1, c_ref04_ERow_k1, wl_ref04_ERow_0, s_ref04_ERow_0, c_ref04_ERow_l0, wb_ref04_ERow_0, c_ref04_ERow_k2, go_sem, Nat.reduceAdd, Nat.reduceSub, Nat.reduceMul, Nat.reduceLT, Nat.reduceLeDiff, Int.reduceToNat, Nat.reduceEqDiff, Nat.reduceBEq, ↓reduceIte, reduceCtorEq, eA]
    refine doneG ?_
    have ht : List.take 128 (ivs (rowE 7 e)) = ivs (rowE 7 e) := List.take_of_length_le (by omega)
    simp (disch := first | omega | (simp only [avs_len, List.length_cons, List.length_append, List.length_nil, List.length_take, List.length_drop, List.length_map]; omega) | (simp only [cells, scal1, allSz, List.length_cons, List.length_nil, List.length_append, List.length_map, List.all_cons, List.all_nil, avs_len, beq_self_eq_true, Bool.and_self, and_self, or_true, true_or, reduceCtorEq, *]; done) | fail) only [go_sem, Nat.reduceAdd, Nat.reduceSub, Nat.reduceMul, Nat.reduceLT, Nat.reduceLeDiff, Int.reduceToNat, Nat.reduceEqDiff, Nat.reduceBEq, ↓reduceIte, reduceCtorEq, ht, hL, ↓frz_ivs, chunk]
  | succ n ih =>
    intro i hi cs0 hcs0 nx
    have hat := rowE_at 7 e i (by omega)
    rw [show (2 : Nat) ^ 7 = 128 from rfl, Nat.mod_eq_of_lt (by omega)] at hat
    have hat2 : (ivs (rowE 7 e))[i]? = some (.int .i64 ((valE e i 64 : Nat) : Int)) := by rw [List.getElem?_map, hat]; rfl
    have hput := partR_put (ivs (rowE 7 e)) (.int .i64 0) _ i hat2
    have hlen := partR_len (ivs (rowE 7 e)) (.int .i64 0) i (by omega)
    rw [← hcs0] at hput hlen
    have w1 : IntKind.i64.wrap ((i : Int) + 1) = ((i + 1 : Nat) : Int) := by rw [IntKind.wrap_i64]; omega
    have hih := ih (i + 1) (by omega) _ hput
    have htn := e.t_n
    refine round (its := [.blk 0 wb_ref04_ERow_0]) (k0 := [.c c_ref04_ERow_k2]) 100 trivial trivial (fun A eA => ?_)
    simp (disch := first | omega | (simp only [avs_len, List.length_cons, List.length_append, List.length_nil, List.length_take, List.length_drop, List.length_map]; omega) | (simp only [cells, scal1, allSz, List.length_cons, List.length_nil, List.length_append, List.length_map, List.all_cons, List.all_nil, avs_len, beq_self_eq_true, Bool.and_self, and_self, or_true, true_or, reduceCtorEq, *]; done) | fail) only [c_ref04_ERow, wl_ref04_ERow_2, s_ref04_ERow_2, c_ref04_ERow_l2, wb_ref04_ERow_2, c_ref04_ERow_k0, wb_ref04_ERow_1, c_ref04_ERow_k1, wl_ref04_ERow_0, s_ref04_ERow_0, c_ref04_ERow_l0, wb_ref04_ERow_0, c_ref04_ERow_k2, go_sem, Nat.reduceAdd, Nat.reduceSub, Nat.reduceMul, Nat.reduceLT, Nat.reduceLeDiff, Int.reduceToNat, Nat.reduceEqDiff, Nat.reduceBEq, ↓reduceIte, reduceCtorEq, eA, scal1, List.all_cons, List.all_nil, Bool.and_self]
    have hin := fun hh => erow_inner (φ := 0) (R := Gives [.t 2] (.fz 1 (ivs (rowE 7 e)) none)) i (by omega) (.ro [.int .i64 e.t.n, .fz 2 (xtavs e.t.ps) none]) (.sl 0 8 0 1 0 128) (.int .i64 128) (.int .i64 (i : Nat)) 0 cs0 (k := [.c c_ref04_ERow_k0, .blk 1 wb_ref04_ERow_1, .c c_ref04_ERow_k1, .lp wl_ref04_ERow_0 c_ref04_ERow_l0, .blk 0 wb_ref04_ERow_0, .c c_ref04_ERow_k2]) trivial (nx 5) (bump nx 5) e 0 0 (by omega) (by omega) hh
    simp only [Nat.zero_add, ← e.t_n] at hin
    refine hin (fun x y => ?_)
    refine walk 100 (its := [.c c_ref04_ERow_k0, .blk 1 wb_ref04_ERow_1, .c c_ref04_ERow_k1, .lp wl_ref04_ERow_0 c_ref04_ERow_l0, .blk 0 wb_ref04_ERow_0]) (k0 := [.c c_ref04_ERow_k2]) trivial trivial (fun A eA => ?_)
    have hcs : cs0.length = 128 := by omega
    simp (disch := first | omega | (simp only [avs_len, List.length_cons, List.length_append, List.length_nil, List.length_take, List.length_drop, List.length_map]; omega) | (simp only [cells, scal1, allSz, List.length_cons, List.length_nil, List.length_append, List.length_map, List.all_cons, List.all_nil, avs_len, beq_self_eq_true, Bool.and_self, and_self, or_true, true_or, reduceCtorEq, *]; done) | fail) only [c_ref04_ERow, wl_ref04_ERow_2, s_ref04_ERow_2, c_ref04_ERow_l2, wb_ref04_ERow_2, c_ref04_ERow_k0, wb_ref04_ERow_1, c_ref04_ERow_k1, wl_ref04_ERow_0, s_ref04_ERow_0, c_ref04_ERow_l0, wb_ref04_ERow_0, c_ref04_ERow_k2, go_sem, Nat.reduceAdd, Nat.reduceSub, Nat.reduceMul, Nat.reduceLT, Nat.reduceLeDiff, Int.reduceToNat, Nat.reduceEqDiff, Nat.reduceBEq, ↓reduceIte, reduceCtorEq, eA, scal1, List.all_cons, List.all_nil, Bool.and_self, Int.toNat_natCast, w1, hcs, Nat.pow_zero, Nat.div_one]
    exact hih _
theorem ERow_calls (e : E) (hd : e.dep ≤ 8) (ht : e.top < 2 ^ 60) : PCalls Try.prog F_ref04_ERow [xtv e.t] (.fz 1 (ivs (rowE 7 e)) none) := by
  have hp0 : List.replicate 128 (AV.int .i64 0) = partR (ivs (rowE 7 e)) (.int .i64 0) 0 := by
    show _ = List.take 0 _ ++ List.replicate (_ - 0) _
    rw [ivs_len, rowE_len]; rfl
  refine calls_ref04_ERow ?_
  simp only [List.replicate, List.length_cons, List.length_nil, Nat.reduceAdd, Nat.reduceSub, List.cons_append, List.nil_append]
  refine walk0 100 trivial (fun A eA => ?_)
  simp (disch := first | omega | (simp only [avs_len, List.length_cons, List.length_append, List.length_nil, List.length_take, List.length_drop, List.length_map]; omega) | (simp only [cells, scal1, allSz, List.length_cons, List.length_nil, List.length_append, List.length_map, List.all_cons, List.all_nil, avs_len, beq_self_eq_true, Bool.and_self, and_self, or_true, true_or, reduceCtorEq, *]; done) | fail) only [c_ref04_ERow, wl_ref04_ERow_2, s_ref04_ERow_2, c_ref04_ERow_l2, wb_ref04_ERow_2, c_ref04_ERow_k0, wb_ref04_ERow_1, c_ref04_ERow_k1, wl_ref04_ERow_0, s_ref04_ERow_0, c_ref04_ERow_l0, wb_ref04_ERow_0, c_ref04_ERow_k2, go_sem, Nat.reduceAdd, Nat.reduceSub, Nat.reduceMul, Nat.reduceLT, Nat.reduceLeDiff, Int.reduceToNat, Nat.reduceEqDiff, Nat.reduceBEq, ↓reduceIte, reduceCtorEq, eA, scal1, List.all_cons, List.all_nil, Bool.and_self]
  exact erow_loop e hd ht 128 0 rfl _ hp0 (bump zeroC 8)
end Go.Proofs.Ytmokhopjnjecbab
/- The walk through joining events, and the reference's shortest trees. -/
-- short
namespace Go.Proofs.Ytmokhopjnjecbab
open Go.Ev
set_option linter.unusedVariables false
set_option linter.unusedSimpArgs false
set_option maxRecDepth 100000
variable {R : List AV → Heap → Ctr → Prop} {k : List It} {H : Heap} {nx : Ctr} {φ : Nat}

theorem E.sub_top' (e : E) (m : Nat) (h : m ≤ e.n) : (e.sub m).top + m = e.top := by
  cases e with
  | lf n => simp only [E.n] at h; simp only [E.sub, E.top]; omega
  | nd n l r => simp only [E.n] at h; simp only [E.sub, E.top]; omega
theorem nodeE_top (n : Nat) (l r : E) : (nodeE n l r).top = n + max l.top r.top := by
  unfold nodeE
  split
  · rename_i h
    obtain ⟨h1, h2, h3⟩ := h
    cases l with
    | nd => simp [E.leaf] at h1
    | lf a =>
      cases r with
      | nd => simp [E.leaf] at h2
      | lf b => simp only [E.n] at h3; simp only [E.top, E.n]; omega
  · have h1 := E.sub_top' l (min l.n r.n) (Nat.min_le_left _ _)
    have h2 := E.sub_top' r (min l.n r.n) (Nat.min_le_right _ _)
    simp only [E.top]; omega
theorem joinE_top : ∀ (d : Nat) (a b : E), (joinE d a b).top ≤ max a.top b.top
  | 0, a, b => by have := a.top_n; have := b.top_n; simp only [joinE, E.top]; omega
  | d + 1, a, b => by
    simp only [joinE]
    split
    · have := a.top_n; have := b.top_n; simp only [E.top]; omega
    · rw [nodeE_top]
      have := joinE_top d (a.half false) (b.half false)
      have := joinE_top d (a.half true) (b.half true)
      have := a.half_top false
      have := a.half_top true
      have := b.half_top false
      have := b.half_top true
      omega
theorem xwk_two (n : Int) (l r : ET) : Wk1 (.agg [.int .i64 n, .fz 2 [xtv l, xtv r] (some 2)]) (xtv (.mk n [l, r])) := xwk_tree (by simp only [xtavs, xtav_tv]; exact Wk1.cap 2 _ _)
theorem xnode_calls (n : Nat) (l r : E) (hn : n + max l.top r.top < 2 ^ 60) : PCalls Try.prog F_event_node [.int .i64 (n : Nat), xtv l.t, xtv r.t] (xtv (nodeE n l r).t) := by
  have tl := l.top_n
  have tr := r.top_n
  have nl := l.t_n
  have nr := r.t_n
  have e0 : (if r.t.n < l.t.n then r.t.n else l.t.n) = ((min l.n r.n : Nat) : Int) := by rw [nl, nr]; split <;> omega
  have w1 : IntKind.i64.wrap ((n : Int) + ((min l.n r.n : Nat) : Int)) = ((n + min l.n r.n : Nat) : Int) := by rw [IntKind.wrap_i64]; omega
  have w2 : IntKind.i64.wrap (0 - ((min l.n r.n : Nat) : Int)) = -((min l.n r.n : Nat) : Int) := by rw [IntKind.wrap_i64]; omega
  have c1 := xlift_calls l (-((min l.n r.n : Nat) : Int)) (l.n - min l.n r.n) (by omega) (by omega) (by omega)
  have c2 := xlift_calls r (-((min l.n r.n : Nat) : Int)) (r.n - min l.n r.n) (by omega) (by omega) (by omega)
  rw [← xtv_sub] at c1 c2
  have ca := xleaf_b l
  have cb := xleaf_b r
  unfold nodeE
  refine calls_event_node (walk0 100 trivial (fun A eA => ?_))
  by_cases h1 : l.leaf = true
  · rw [h1] at ca
    by_cases h2 : r.leaf = true
    · rw [h2] at cb
      by_cases h3 : l.n = r.n
      · rw [if_pos ⟨h1, h2, h3⟩]
        have h4 : l.t.n = r.t.n := by omega
        have w3 : IntKind.i64.wrap ((n : Int) + l.t.n) = ((n + min l.n r.n : Nat) : Int) := by rw [IntKind.wrap_i64]; omega
        simp (disch := first | omega | (simp only [avs_len, List.length_cons, List.length_append, List.length_nil, List.length_take, List.length_drop, List.length_map]; omega) | (simp only [cells, scal1, allSz, List.length_cons, List.length_nil, List.length_append, List.length_map, List.all_cons, List.all_nil, avs_len, beq_self_eq_true, Bool.and_self, and_self, or_true, true_or, reduceCtorEq, *]; done) | fail) only [c_event_node, go_sem, Nat.reduceAdd, Nat.reduceSub, Nat.reduceMul, Nat.reduceLT, Nat.reduceLeDiff, Int.reduceToNat, Nat.reduceEqDiff, Nat.reduceBEq, ↓reduceIte, reduceCtorEq, eA, scal1, List.all_cons, List.all_nil, Bool.and_self]
        repeat ((first | refine call0 100 trivial trivial (by first | exact ca | exact cb) (by first | exact .inl rfl | exact .inr rfl) (fun A eA => ?_) | refine call1 100 trivial trivial (by first | exact ca | exact cb) (fun A eA => ?_)); simp (disch := first | omega | (simp only [avs_len, List.length_cons, List.length_append, List.length_nil, List.length_take, List.length_drop, List.length_map]; omega) | (simp only [cells, scal1, allSz, List.length_cons, List.length_nil, List.length_append, List.length_map, List.all_cons, List.all_nil, avs_len, beq_self_eq_true, Bool.and_self, and_self, or_true, true_or, reduceCtorEq, *]; done) | fail) only [c_event_node, go_sem, Nat.reduceAdd, Nat.reduceSub, Nat.reduceMul, Nat.reduceLT, Nat.reduceLeDiff, Int.reduceToNat, Nat.reduceEqDiff, Nat.reduceBEq, ↓reduceIte, reduceCtorEq, eA, scal1, List.all_cons, List.all_nil, Bool.and_self, w3])
        exact doneW rfl (xwk_leaf _)
      · rw [if_neg (fun h => h3 h.2.2)]
        have h4 : ¬ l.t.n = r.t.n := by omega
        simp (disch := first | omega | (simp only [avs_len, List.length_cons, List.length_append, List.length_nil, List.length_take, List.length_drop, List.length_map]; omega) | (simp only [cells, scal1, allSz, List.length_cons, List.length_nil, List.length_append, List.length_map, List.all_cons, List.all_nil, avs_len, beq_self_eq_true, Bool.and_self, and_self, or_true, true_or, reduceCtorEq, *]; done) | fail) only [c_event_node, go_sem, Nat.reduceAdd, Nat.reduceSub, Nat.reduceMul, Nat.reduceLT, Nat.reduceLeDiff, Int.reduceToNat, Nat.reduceEqDiff, Nat.reduceBEq, ↓reduceIte, reduceCtorEq, eA, scal1, List.all_cons, List.all_nil, Bool.and_self, e0]
        repeat ((first | refine call0 100 trivial trivial (by first | exact ca | exact cb | exact c1 | exact c2) (by first | exact .inl rfl | exact .inr rfl) (fun A eA => ?_) | refine call1 100 trivial trivial (by first | exact ca | exact cb | exact c1 | exact c2) (fun A eA => ?_)); simp (disch := first | omega | (simp only [avs_len, List.length_cons, List.length_append, List.length_nil, List.length_take, List.length_drop, List.length_map]; omega) | (simp only [cells, scal1, allSz, List.length_cons, List.length_nil, List.length_append, List.length_map, List.all_cons, List.all_nil, avs_len, beq_self_eq_true, Bool.and_self, and_self, or_true, true_or, reduceCtorEq, *]; done) | fail) only [c_event_node, go_sem, Nat.reduceAdd, Nat.reduceSub, Nat.reduceMul, Nat.reduceLT, Nat.reduceLeDiff, Int.reduceToNat, Nat.reduceEqDiff, Nat.reduceBEq, ↓reduceIte, reduceCtorEq, eA, scal1, List.all_cons, List.all_nil, Bool.and_self, w1, w2, allSz, cells, beq_self_eq_true])
        exact doneW rfl (xwk_two _ _ _)
    · rw [if_neg (fun h => h2 h.2.1)]
      rw [Bool.not_eq_true] at h2
      rw [h2] at cb
      simp (disch := first | omega | (simp only [avs_len, List.length_cons, List.length_append, List.length_nil, List.length_take, List.length_drop, List.length_map]; omega) | (simp only [cells, scal1, allSz, List.length_cons, List.length_nil, List.length_append, List.length_map, List.all_cons, List.all_nil, avs_len, beq_self_eq_true, Bool.and_self, and_self, or_true, true_or, reduceCtorEq, *]; done) | fail) only [c_event_node, go_sem, Nat.reduceAdd, Nat.reduceSub, Nat.reduceMul, Nat.reduceLT, Nat.reduceLeDiff, Int.reduceToNat, Nat.reduceEqDiff, Nat.reduceBEq, ↓reduceIte, reduceCtorEq, eA, scal1, List.all_cons, List.all_nil, Bool.and_self, e0]
      repeat ((first | refine call0 100 trivial trivial (by first | exact ca | exact cb | exact c1 | exact c2) (by first | exact .inl rfl | exact .inr rfl) (fun A eA => ?_) | refine call1 100 trivial trivial (by first | exact ca | exact cb | exact c1 | exact c2) (fun A eA => ?_)); simp (disch := first | omega | (simp only [avs_len, List.length_cons, List.length_append, List.length_nil, List.length_take, List.length_drop, List.length_map]; omega) | (simp only [cells, scal1, allSz, List.length_cons, List.length_nil, List.length_append, List.length_map, List.all_cons, List.all_nil, avs_len, beq_self_eq_true, Bool.and_self, and_self, or_true, true_or, reduceCtorEq, *]; done) | fail) only [c_event_node, go_sem, Nat.reduceAdd, Nat.reduceSub, Nat.reduceMul, Nat.reduceLT, Nat.reduceLeDiff, Int.reduceToNat, Nat.reduceEqDiff, Nat.reduceBEq, ↓reduceIte, reduceCtorEq, eA, scal1, List.all_cons, List.all_nil, Bool.and_self, w1, w2, allSz, cells, beq_self_eq_true])
      exact doneW rfl (xwk_two _ _ _)
  · rw [if_neg (fun h => h1 h.1)]
    rw [Bool.not_eq_true] at h1
    rw [h1] at ca
    simp (disch := first | omega | (simp only [avs_len, List.length_cons, List.length_append, List.length_nil, List.length_take, List.length_drop, List.length_map]; omega) | (simp only [cells, scal1, allSz, List.length_cons, List.length_nil, List.length_append, List.length_map, List.all_cons, List.all_nil, avs_len, beq_self_eq_true, Bool.and_self, and_self, or_true, true_or, reduceCtorEq, *]; done) | fail) only [c_event_node, go_sem, Nat.reduceAdd, Nat.reduceSub, Nat.reduceMul, Nat.reduceLT, Nat.reduceLeDiff, Int.reduceToNat, Nat.reduceEqDiff, Nat.reduceBEq, ↓reduceIte, reduceCtorEq, eA, scal1, List.all_cons, List.all_nil, Bool.and_self, e0]
    repeat ((first | refine call0 100 trivial trivial (by first | exact ca | exact cb | exact c1 | exact c2) (by first | exact .inl rfl | exact .inr rfl) (fun A eA => ?_) | refine call1 100 trivial trivial (by first | exact ca | exact cb | exact c1 | exact c2) (fun A eA => ?_)); simp (disch := first | omega | (simp only [avs_len, List.length_cons, List.length_append, List.length_nil, List.length_take, List.length_drop, List.length_map]; omega) | (simp only [cells, scal1, allSz, List.length_cons, List.length_nil, List.length_append, List.length_map, List.all_cons, List.all_nil, avs_len, beq_self_eq_true, Bool.and_self, and_self, or_true, true_or, reduceCtorEq, *]; done) | fail) only [c_event_node, go_sem, Nat.reduceAdd, Nat.reduceSub, Nat.reduceMul, Nat.reduceLT, Nat.reduceLeDiff, Int.reduceToNat, Nat.reduceEqDiff, Nat.reduceBEq, ↓reduceIte, reduceCtorEq, eA, scal1, List.all_cons, List.all_nil, Bool.and_self, w1, w2, allSz, cells, beq_self_eq_true])
    exact doneW rfl (xwk_two _ _ _)
theorem xjoin_calls : ∀ (d : Nat) (a b : E), a.dep ≤ d + 1 → b.dep ≤ d + 1 → a.top < 2 ^ 60 → b.top < 2 ^ 60 → PCalls Try.prog F_event_join [xtv a.t, xtv b.t] (xtv (joinE d a b).t) := by
  have leafs : ∀ (a b : E), a.leaf = true → b.leaf = true → PCalls Try.prog F_event_join [xtv a.t, xtv b.t] (xtv (E.lf (max a.n b.n)).t) := by
    intro a b ha hb
    have ca := xleaf_b a
    have cb := xleaf_b b
    rw [ha] at ca
    rw [hb] at cb
    have ea := a.t_n
    have eb := b.t_n
    have e : (if b.t.n > a.t.n then b.t.n else a.t.n) = ((max a.n b.n : Nat) : Int) := by split <;> omega
    refine calls_event_join (walk0 100 trivial (fun A eA => ?_))
    simp (disch := first | omega | (simp only [avs_len, List.length_cons, List.length_append, List.length_nil, List.length_take, List.length_drop, List.length_map]; omega) | (simp only [cells, scal1, allSz, List.length_cons, List.length_nil, List.length_append, List.length_map, List.all_cons, List.all_nil, avs_len, beq_self_eq_true, Bool.and_self, and_self, or_true, true_or, reduceCtorEq, *]; done) | fail) only [c_event_join, go_sem, Nat.reduceAdd, Nat.reduceSub, Nat.reduceMul, Nat.reduceLT, Nat.reduceLeDiff, Int.reduceToNat, Nat.reduceEqDiff, Nat.reduceBEq, ↓reduceIte, reduceCtorEq, eA, scal1, List.all_cons, List.all_nil, Bool.and_self]
    repeat ((first | refine call0 100 trivial trivial (by first | exact ca | exact cb) (by first | exact .inl rfl | exact .inr rfl) (fun A eA => ?_) | refine call1 100 trivial trivial (by first | exact ca | exact cb) (fun A eA => ?_)); simp (disch := first | omega | (simp only [avs_len, List.length_cons, List.length_append, List.length_nil, List.length_take, List.length_drop, List.length_map]; omega) | (simp only [cells, scal1, allSz, List.length_cons, List.length_nil, List.length_append, List.length_map, List.all_cons, List.all_nil, avs_len, beq_self_eq_true, Bool.and_self, and_self, or_true, true_or, reduceCtorEq, *]; done) | fail) only [c_event_join, go_sem, Nat.reduceAdd, Nat.reduceSub, Nat.reduceMul, Nat.reduceLT, Nat.reduceLeDiff, Int.reduceToNat, Nat.reduceEqDiff, Nat.reduceBEq, ↓reduceIte, reduceCtorEq, eA, scal1, List.all_cons, List.all_nil, Bool.and_self, e])
    exact doneW rfl (xwk_leaf _)
  intro d
  induction d with
  | zero => intro a b ha hb _ _; exact leafs a b (E.dep_one ha) (E.dep_one hb)
  | succ d ih =>
    intro a b ha hb ta tb
    simp only [joinE]
    by_cases hl : a.leaf = true ∧ b.leaf = true
    · rw [if_pos hl]; exact leafs a b hl.1 hl.2
    · rw [if_neg hl]
      have h1 := a.half_dep false
      have h2 := a.half_dep true
      have h3 := b.half_dep false
      have h4 := b.half_dep true
      have t1 := a.half_top false
      have t2 := a.half_top true
      have t3 := b.half_top false
      have t4 := b.half_top true
      have c1 := xhalf_calls a ta false
      have c2 := xhalf_calls a ta true
      have c3 := xhalf_calls b tb false
      have c4 := xhalf_calls b tb true
      have k1 := ih (a.half false) (b.half false) (by omega) (by omega) (by omega) (by omega)
      have k2 := ih (a.half true) (b.half true) (by omega) (by omega) (by omega) (by omega)
      have j1 := joinE_top d (a.half false) (b.half false)
      have j2 := joinE_top d (a.half true) (b.half true)
      have cn := xnode_calls 0 (joinE d (a.half false) (b.half false)) (joinE d (a.half true) (b.half true)) (by omega)
      have ca := xleaf_b a
      have cb := xleaf_b b
      simp only [Bool.false_eq_true, if_false, if_true] at c1 c2 c3 c4
      have fin : ∀ (x y : Bool), ¬ (x = true ∧ y = true) → PCalls Try.prog F_event_leaf [xtv a.t] (.bool x) → PCalls Try.prog F_event_leaf [xtv b.t] (.bool y) → PCalls Try.prog F_event_join [xtv a.t, xtv b.t] (xtv (nodeE 0 (joinE d (a.half false) (b.half false)) (joinE d (a.half true) (b.half true))).t) := by
        intro x y hxy ca cb
        refine calls_event_join (walk0 100 trivial (fun A eA => ?_))
        cases x <;> cases y
        all_goals first
          | (exfalso; exact hxy ⟨rfl, rfl⟩)
          | (simp (disch := first | omega | (simp only [avs_len, List.length_cons, List.length_append, List.length_nil, List.length_take, List.length_drop, List.length_map]; omega) | (simp only [cells, scal1, allSz, List.length_cons, List.length_nil, List.length_append, List.length_map, List.all_cons, List.all_nil, avs_len, beq_self_eq_true, Bool.and_self, and_self, or_true, true_or, reduceCtorEq, *]; done) | fail) only [c_event_join, go_sem, Nat.reduceAdd, Nat.reduceSub, Nat.reduceMul, Nat.reduceLT, Nat.reduceLeDiff, Int.reduceToNat, Nat.reduceEqDiff, Nat.reduceBEq, ↓reduceIte, reduceCtorEq, eA, scal1, List.all_cons, List.all_nil, Bool.and_self]
             repeat ((first | refine call0 100 trivial trivial (by first | exact ca | exact cb | exact c1 | exact c3 | exact k1 | exact c2 | exact c4 | exact k2 | exact cn) (by first | exact .inl rfl | exact .inr rfl) (fun A eA => ?_) | refine call1 100 trivial trivial (by first | exact ca | exact cb | exact c1 | exact c3 | exact k1 | exact c2 | exact c4 | exact k2 | exact cn) (fun A eA => ?_)); simp (disch := first | omega | (simp only [avs_len, List.length_cons, List.length_append, List.length_nil, List.length_take, List.length_drop, List.length_map]; omega) | (simp only [cells, scal1, allSz, List.length_cons, List.length_nil, List.length_append, List.length_map, List.all_cons, List.all_nil, avs_len, beq_self_eq_true, Bool.and_self, and_self, or_true, true_or, reduceCtorEq, *]; done) | fail) only [c_event_join, go_sem, Nat.reduceAdd, Nat.reduceSub, Nat.reduceMul, Nat.reduceLT, Nat.reduceLeDiff, Int.reduceToNat, Nat.reduceEqDiff, Nat.reduceBEq, ↓reduceIte, reduceCtorEq, eA, scal1, List.all_cons, List.all_nil, Bool.and_self])
             exact doneG rfl)
      exact fin _ _ hl ca cb
/-- What Join answers. -/
noncomputable def xjoinT (a b : ET) : ET := @dite _ (XRt a ∧ XRt b) (Classical.propDecidable _) (fun h => (joinE 7 h.1.choose h.2.choose).t) (fun _ => .mk 0 [])
theorem xjoinT_b {a b : E} (ha : XRt a.t) (hb : XRt b.t) : xjoinT a.t b.t = (joinE 7 a b).t := by
  have h : XRt a.t ∧ XRt b.t := ⟨ha, hb⟩
  have e : xjoinT a.t b.t = (joinE 7 h.1.choose h.2.choose).t := by simp only [xjoinT]; rw [dif_pos h]
  have e1 := E.inj h.1.choose_spec.1
  have e2 := E.inj h.2.choose_spec.1
  rw [e, ← e1, ← e2]
theorem xwk_pair (n : Nat) : Wk1 (.tup [.agg [.int .i64 0, .nils], .int .i64 (n : Nat)]) (.tup [xtv (.mk 0 []), .int .i64 (n : Nat)]) := by
  refine Wk1.tup rfl (fun j x y hx hy => ?_)
  rcases j with _ | _ | j
  · simp at hx hy; subst hx hy; exact xwk_leaf 0
  · simp at hx hy; subst hx hy; exact Wk1.refl _
  · simp at hx
theorem xtold_yes {t : ET} (h : XRt t) : PCalls Try.prog F_event_told [xtv t] (.tup [xtv t, .int .i64 0]) := by
  have c1 := xright_calls t
  rw [xrtb_true.2 h] at c1
  have c2 := xClone_calls t (by obtain ⟨x, rfl, _, h2, _⟩ := h; rw [E.t_size]; omega)
  have e : xcloneT t = t := by
    obtain ⟨x, rfl, h1, _⟩ := h
    simp [xcloneT, xflatb_true.2 ((xflat_dep 8 x).2 h1)]
  rw [e] at c2
  refine calls_event_told (walk0 100 trivial (fun A eA => ?_))
  simp (disch := first | omega | (simp only [avs_len, List.length_cons, List.length_append, List.length_nil, List.length_take, List.length_drop, List.length_map]; omega) | (simp only [cells, scal1, allSz, List.length_cons, List.length_nil, List.length_append, List.length_map, List.all_cons, List.all_nil, avs_len, beq_self_eq_true, Bool.and_self, and_self, or_true, true_or, reduceCtorEq, *]; done) | fail) only [c_event_told, go_sem, Nat.reduceAdd, Nat.reduceSub, Nat.reduceMul, Nat.reduceLT, Nat.reduceLeDiff, Int.reduceToNat, Nat.reduceEqDiff, Nat.reduceBEq, ↓reduceIte, reduceCtorEq, eA, scal1, List.all_cons, List.all_nil, Bool.and_self]
  repeat ((first | refine call0 100 trivial trivial (by first | exact c1 | exact c2) (by first | exact .inl rfl | exact .inr rfl) (fun A eA => ?_) | refine call1 100 trivial trivial (by first | exact c1 | exact c2) (fun A eA => ?_)); simp (disch := first | omega | (simp only [avs_len, List.length_cons, List.length_append, List.length_nil, List.length_take, List.length_drop, List.length_map]; omega) | (simp only [cells, scal1, allSz, List.length_cons, List.length_nil, List.length_append, List.length_map, List.all_cons, List.all_nil, avs_len, beq_self_eq_true, Bool.and_self, and_self, or_true, true_or, reduceCtorEq, *]; done) | fail) only [c_event_told, go_sem, Nat.reduceAdd, Nat.reduceSub, Nat.reduceMul, Nat.reduceLT, Nat.reduceLeDiff, Int.reduceToNat, Nat.reduceEqDiff, Nat.reduceBEq, ↓reduceIte, reduceCtorEq, eA, scal1, List.all_cons, List.all_nil, Bool.and_self])
  exact doneG rfl
theorem xrtb_no {t : ET} (h : ¬ XRt t) : xrtb t = false := by rw [Bool.eq_false_iff, ne_eq, xrtb_true]; exact h
theorem xtold_no {t : ET} (h : ¬ XRt t) : PCalls Try.prog F_event_told [xtv t] (.tup [xtv (.mk 0 []), .int .i64 9]) := by
  have c1 := xright_calls t
  rw [xrtb_no h] at c1
  refine calls_event_told (walk0 100 trivial (fun A eA => ?_))
  simp (disch := first | omega | (simp only [avs_len, List.length_cons, List.length_append, List.length_nil, List.length_take, List.length_drop, List.length_map]; omega) | (simp only [cells, scal1, allSz, List.length_cons, List.length_nil, List.length_append, List.length_map, List.all_cons, List.all_nil, avs_len, beq_self_eq_true, Bool.and_self, and_self, or_true, true_or, reduceCtorEq, *]; done) | fail) only [c_event_told, go_sem, Nat.reduceAdd, Nat.reduceSub, Nat.reduceMul, Nat.reduceLT, Nat.reduceLeDiff, Int.reduceToNat, Nat.reduceEqDiff, Nat.reduceBEq, ↓reduceIte, reduceCtorEq, eA, scal1, List.all_cons, List.all_nil, Bool.and_self]
  repeat ((first | refine call0 100 trivial trivial (by first | exact c1) (by first | exact .inl rfl | exact .inr rfl) (fun A eA => ?_) | refine call1 100 trivial trivial (by first | exact c1) (fun A eA => ?_)); simp (disch := first | omega | (simp only [avs_len, List.length_cons, List.length_append, List.length_nil, List.length_take, List.length_drop, List.length_map]; omega) | (simp only [cells, scal1, allSz, List.length_cons, List.length_nil, List.length_append, List.length_map, List.all_cons, List.all_nil, avs_len, beq_self_eq_true, Bool.and_self, and_self, or_true, true_or, reduceCtorEq, *]; done) | fail) only [c_event_told, go_sem, Nat.reduceAdd, Nat.reduceSub, Nat.reduceMul, Nat.reduceLT, Nat.reduceLeDiff, Int.reduceToNat, Nat.reduceEqDiff, Nat.reduceBEq, ↓reduceIte, reduceCtorEq, eA, scal1, List.all_cons, List.all_nil, Bool.and_self])
  exact doneW rfl (xwk_pair 9)
theorem xJoin_odd (a b : ET) (h : ¬ (XRt a ∧ XRt b)) : PCalls Try.prog F_event_Join [xtv a, xtv b] (.tup [xtv (.mk 0 []), .int .i64 1]) := by
  have ca := xright_calls a
  have cb := xright_calls b
  refine calls_event_Join (walk0 100 trivial (fun A eA => ?_))
  by_cases ha : XRt a
  · rw [xrtb_true.2 ha] at ca
    rw [xrtb_no (fun hb => h ⟨ha, hb⟩)] at cb
    simp (disch := first | omega | (simp only [avs_len, List.length_cons, List.length_append, List.length_nil, List.length_take, List.length_drop, List.length_map]; omega) | (simp only [cells, scal1, allSz, List.length_cons, List.length_nil, List.length_append, List.length_map, List.all_cons, List.all_nil, avs_len, beq_self_eq_true, Bool.and_self, and_self, or_true, true_or, reduceCtorEq, *]; done) | fail) only [c_event_Join, go_sem, Nat.reduceAdd, Nat.reduceSub, Nat.reduceMul, Nat.reduceLT, Nat.reduceLeDiff, Int.reduceToNat, Nat.reduceEqDiff, Nat.reduceBEq, ↓reduceIte, reduceCtorEq, eA, scal1, List.all_cons, List.all_nil, Bool.and_self]
    repeat ((first | refine call0 100 trivial trivial (by first | exact ca | exact cb) (by first | exact .inl rfl | exact .inr rfl) (fun A eA => ?_) | refine call1 100 trivial trivial (by first | exact ca | exact cb) (fun A eA => ?_)); simp (disch := first | omega | (simp only [avs_len, List.length_cons, List.length_append, List.length_nil, List.length_take, List.length_drop, List.length_map]; omega) | (simp only [cells, scal1, allSz, List.length_cons, List.length_nil, List.length_append, List.length_map, List.all_cons, List.all_nil, avs_len, beq_self_eq_true, Bool.and_self, and_self, or_true, true_or, reduceCtorEq, *]; done) | fail) only [c_event_Join, go_sem, Nat.reduceAdd, Nat.reduceSub, Nat.reduceMul, Nat.reduceLT, Nat.reduceLeDiff, Int.reduceToNat, Nat.reduceEqDiff, Nat.reduceBEq, ↓reduceIte, reduceCtorEq, eA, scal1, List.all_cons, List.all_nil, Bool.and_self])
    exact doneW rfl (xwk_pair 1)
  · rw [xrtb_no ha] at ca
    simp (disch := first | omega | (simp only [avs_len, List.length_cons, List.length_append, List.length_nil, List.length_take, List.length_drop, List.length_map]; omega) | (simp only [cells, scal1, allSz, List.length_cons, List.length_nil, List.length_append, List.length_map, List.all_cons, List.all_nil, avs_len, beq_self_eq_true, Bool.and_self, and_self, or_true, true_or, reduceCtorEq, *]; done) | fail) only [c_event_Join, go_sem, Nat.reduceAdd, Nat.reduceSub, Nat.reduceMul, Nat.reduceLT, Nat.reduceLeDiff, Int.reduceToNat, Nat.reduceEqDiff, Nat.reduceBEq, ↓reduceIte, reduceCtorEq, eA, scal1, List.all_cons, List.all_nil, Bool.and_self]
    repeat ((first | refine call0 100 trivial trivial (by first | exact ca | exact cb) (by first | exact .inl rfl | exact .inr rfl) (fun A eA => ?_) | refine call1 100 trivial trivial (by first | exact ca | exact cb) (fun A eA => ?_)); simp (disch := first | omega | (simp only [avs_len, List.length_cons, List.length_append, List.length_nil, List.length_take, List.length_drop, List.length_map]; omega) | (simp only [cells, scal1, allSz, List.length_cons, List.length_nil, List.length_append, List.length_map, List.all_cons, List.all_nil, avs_len, beq_self_eq_true, Bool.and_self, and_self, or_true, true_or, reduceCtorEq, *]; done) | fail) only [c_event_Join, go_sem, Nat.reduceAdd, Nat.reduceSub, Nat.reduceMul, Nat.reduceLT, Nat.reduceLeDiff, Int.reduceToNat, Nat.reduceEqDiff, Nat.reduceBEq, ↓reduceIte, reduceCtorEq, eA, scal1, List.all_cons, List.all_nil, Bool.and_self])
    exact doneW rfl (xwk_pair 1)
theorem xJoin_calls (a b : E) (ha : XRt a.t) (hb : XRt b.t) {r : ET} {e : Nat} (hj : (XRt (joinE 7 a b).t ∧ r = (joinE 7 a b).t ∧ e = 0) ∨ (¬ XRt (joinE 7 a b).t ∧ r = .mk 0 [] ∧ e = 9)) : PCalls Try.prog F_event_Join [xtv a.t, xtv b.t] (.tup [xtv r, .int .i64 (e : Nat)]) := by
  obtain ⟨x, hx, x1, x2, x3, x4⟩ := id ha
  obtain rfl := E.inj hx
  obtain ⟨y, hy, y1, y2, y3, y4⟩ := id hb
  obtain rfl := E.inj hy
  have ca := xright_calls a.t
  have cb := xright_calls b.t
  rw [xrtb_true.2 ha] at ca
  rw [xrtb_true.2 hb] at cb
  have cj := xjoin_calls 7 a b (by omega) (by omega) (xtop_rt x1 x4) (xtop_rt y1 y4)
  refine calls_event_Join (walk0 100 trivial (fun A eA => ?_))
  rcases hj with ⟨h1, rfl, rfl⟩ | ⟨h1, rfl, rfl⟩
  · have ct := xtold_yes h1
    simp (disch := first | omega | (simp only [avs_len, List.length_cons, List.length_append, List.length_nil, List.length_take, List.length_drop, List.length_map]; omega) | (simp only [cells, scal1, allSz, List.length_cons, List.length_nil, List.length_append, List.length_map, List.all_cons, List.all_nil, avs_len, beq_self_eq_true, Bool.and_self, and_self, or_true, true_or, reduceCtorEq, *]; done) | fail) only [c_event_Join, go_sem, Nat.reduceAdd, Nat.reduceSub, Nat.reduceMul, Nat.reduceLT, Nat.reduceLeDiff, Int.reduceToNat, Nat.reduceEqDiff, Nat.reduceBEq, ↓reduceIte, reduceCtorEq, eA, scal1, List.all_cons, List.all_nil, Bool.and_self]
    repeat ((first | refine call0 100 trivial trivial (by first | exact ca | exact cb | exact cj | exact ct) (by first | exact .inl rfl | exact .inr rfl) (fun A eA => ?_) | refine call1 100 trivial trivial (by first | exact ca | exact cb | exact cj | exact ct) (fun A eA => ?_)); simp (disch := first | omega | (simp only [avs_len, List.length_cons, List.length_append, List.length_nil, List.length_take, List.length_drop, List.length_map]; omega) | (simp only [cells, scal1, allSz, List.length_cons, List.length_nil, List.length_append, List.length_map, List.all_cons, List.all_nil, avs_len, beq_self_eq_true, Bool.and_self, and_self, or_true, true_or, reduceCtorEq, *]; done) | fail) only [c_event_Join, go_sem, Nat.reduceAdd, Nat.reduceSub, Nat.reduceMul, Nat.reduceLT, Nat.reduceLeDiff, Int.reduceToNat, Nat.reduceEqDiff, Nat.reduceBEq, ↓reduceIte, reduceCtorEq, eA, scal1, List.all_cons, List.all_nil, Bool.and_self])
    exact doneG rfl
  · have ct := xtold_no h1
    simp (disch := first | omega | (simp only [avs_len, List.length_cons, List.length_append, List.length_nil, List.length_take, List.length_drop, List.length_map]; omega) | (simp only [cells, scal1, allSz, List.length_cons, List.length_nil, List.length_append, List.length_map, List.all_cons, List.all_nil, avs_len, beq_self_eq_true, Bool.and_self, and_self, or_true, true_or, reduceCtorEq, *]; done) | fail) only [c_event_Join, go_sem, Nat.reduceAdd, Nat.reduceSub, Nat.reduceMul, Nat.reduceLT, Nat.reduceLeDiff, Int.reduceToNat, Nat.reduceEqDiff, Nat.reduceBEq, ↓reduceIte, reduceCtorEq, eA, scal1, List.all_cons, List.all_nil, Bool.and_self]
    repeat ((first | refine call0 100 trivial trivial (by first | exact ca | exact cb | exact cj | exact ct) (by first | exact .inl rfl | exact .inr rfl) (fun A eA => ?_) | refine call1 100 trivial trivial (by first | exact ca | exact cb | exact cj | exact ct) (fun A eA => ?_)); simp (disch := first | omega | (simp only [avs_len, List.length_cons, List.length_append, List.length_nil, List.length_take, List.length_drop, List.length_map]; omega) | (simp only [cells, scal1, allSz, List.length_cons, List.length_nil, List.length_append, List.length_map, List.all_cons, List.all_nil, avs_len, beq_self_eq_true, Bool.and_self, and_self, or_true, true_or, reduceCtorEq, *]; done) | fail) only [c_event_Join, go_sem, Nat.reduceAdd, Nat.reduceSub, Nat.reduceMul, Nat.reduceLT, Nat.reduceLeDiff, Int.reduceToNat, Nat.reduceEqDiff, Nat.reduceBEq, ↓reduceIte, reduceCtorEq, eA, scal1, List.all_cons, List.all_nil, Bool.and_self])
    exact doneG rfl
theorem refLeast_calls (row : List Nat) (hne : row ≠ []) (hs : row.length < 2 ^ 60) : PCalls Try.prog F_ref04_least [.fz 1 (ivs row) none] (.int .i64 (leastR row : Nat)) := by
  have g0 : (ivs row)[0]? = some (.int .i64 ((row.headD 0 : Nat) : Int)) := by cases row with | nil => exact absurd rfl hne | cons x l => rfl
  have key : ∀ (post pre : List Nat), row = pre ++ post → ∀ nx : Ctr, RunsX Try.prog 0 (Gives [.t 2] (.int .i64 (leastR row : Nat))) (i_ref04_least_0 ++ [.c c_ref04_least_k0]) (s_ref04_least_0 (.fz 1 (ivs row) none) (.int .i64 ((pre.foldl min (row.headD 0) : Nat) : Int)) (.int .i64 (row.length : Nat)) (.int .i64 (pre.length : Nat))) [] nx := by
    intro post
    induction post with
    | nil =>
      intro pre h1 nx
      rw [List.append_nil] at h1
      subst h1
      refine round (its := [.blk 0 wb_ref04_least_0]) (k0 := [.c c_ref04_least_k0]) 100 trivial trivial (fun A eA => ?_)
      simp (disch := first | omega | (simp only [avs_len, List.length_cons, List.length_append, List.length_nil, List.length_take, List.length_drop, List.length_map]; omega) | (simp only [cells, scal1, allSz, List.length_cons, List.length_nil, List.length_append, List.length_map, List.all_cons, List.all_nil, avs_len, beq_self_eq_true, Bool.and_self, and_self, or_true, true_or, reduceCtorEq, *]; done) | fail) only [c_ref04_least, wl_ref04_least_0, s_ref04_least_0, c_ref04_least_l0, wb_ref04_least_0, c_ref04_least_k0, go_sem, Nat.reduceAdd, Nat.reduceSub, Nat.reduceMul, Nat.reduceLT, Nat.reduceLeDiff, Int.reduceToNat, Nat.reduceEqDiff, Nat.reduceBEq, ↓reduceIte, reduceCtorEq, eA]
      refine walk0 (its := [.c c_ref04_least_k0]) 100 trivial (fun A eA => ?_)
      simp (disch := first | omega | (simp only [avs_len, List.length_cons, List.length_append, List.length_nil, List.length_take, List.length_drop, List.length_map]; omega) | (simp only [cells, scal1, allSz, List.length_cons, List.length_nil, List.length_append, List.length_map, List.all_cons, List.all_nil, avs_len, beq_self_eq_true, Bool.and_self, and_self, or_true, true_or, reduceCtorEq, *]; done) | fail) only [c_ref04_least, wl_ref04_least_0, s_ref04_least_0, c_ref04_least_l0, wb_ref04_least_0, c_ref04_least_k0, go_sem, Nat.reduceAdd, Nat.reduceSub, Nat.reduceMul, Nat.reduceLT, Nat.reduceLeDiff, Int.reduceToNat, Nat.reduceEqDiff, Nat.reduceBEq, ↓reduceIte, reduceCtorEq, eA]
      exact doneG rfl
    | cons x post ih =>
      intro pre h1 nx
      have hlt : pre.length < row.length := by rw [h1]; simp
      have g1 : (ivs row)[pre.length]? = some (.int .i64 (x : Nat)) := by rw [List.getElem?_map, h1]; simp
      have w1 : IntKind.i64.wrap ((pre.length : Int) + 1) = ((pre.length + 1 : Nat) : Int) := by rw [IntKind.wrap_i64]; omega
      have hih := ih (pre ++ [x]) (by rw [h1]; simp) nx
      rw [show (pre ++ [x]).length = pre.length + 1 by simp, List.foldl_append] at hih
      generalize pre.foldl min (row.headD 0) = acc at hih ⊢
      have e : (if (x : Int) < (acc : Int) then (x : Int) else (acc : Int)) = ((min acc x : Nat) : Int) := by split <;> omega
      refine round (its := [.blk 0 wb_ref04_least_0]) (k0 := [.c c_ref04_least_k0]) 100 trivial trivial (fun A eA => ?_)
      simp (disch := first | omega | (simp only [avs_len, List.length_cons, List.length_append, List.length_nil, List.length_take, List.length_drop, List.length_map]; omega) | (simp only [cells, scal1, allSz, List.length_cons, List.length_nil, List.length_append, List.length_map, List.all_cons, List.all_nil, avs_len, beq_self_eq_true, Bool.and_self, and_self, or_true, true_or, reduceCtorEq, *]; done) | fail) only [c_ref04_least, wl_ref04_least_0, s_ref04_least_0, c_ref04_least_l0, wb_ref04_least_0, c_ref04_least_k0, go_sem, Nat.reduceAdd, Nat.reduceSub, Nat.reduceMul, Nat.reduceLT, Nat.reduceLeDiff, Int.reduceToNat, Nat.reduceEqDiff, Nat.reduceBEq, ↓reduceIte, reduceCtorEq, eA, Int.toNat_natCast, g1, w1, e]
      exact hih
  refine calls_ref04_least (walk0 100 trivial (fun A eA => ?_))
  simp (disch := first | omega | (simp only [avs_len, List.length_cons, List.length_append, List.length_nil, List.length_take, List.length_drop, List.length_map]; omega) | (simp only [cells, scal1, allSz, List.length_cons, List.length_nil, List.length_append, List.length_map, List.all_cons, List.all_nil, avs_len, beq_self_eq_true, Bool.and_self, and_self, or_true, true_or, reduceCtorEq, *]; done) | fail) only [c_ref04_least, wl_ref04_least_0, s_ref04_least_0, c_ref04_least_l0, wb_ref04_least_0, c_ref04_least_k0, go_sem, Nat.reduceAdd, Nat.reduceSub, Nat.reduceMul, Nat.reduceLT, Nat.reduceLeDiff, Int.reduceToNat, Nat.reduceEqDiff, Nat.reduceBEq, ↓reduceIte, reduceCtorEq, eA, ivs_len, g0]
  exact key row [] rfl zeroC
theorem refMost_calls (row : List Nat) (hne : row ≠ []) (hs : row.length < 2 ^ 60) : PCalls Try.prog F_ref04_most [.fz 1 (ivs row) none] (.int .i64 (mostR row : Nat)) := by
  have g0 : (ivs row)[0]? = some (.int .i64 ((row.headD 0 : Nat) : Int)) := by cases row with | nil => exact absurd rfl hne | cons x l => rfl
  have key : ∀ (post pre : List Nat), row = pre ++ post → ∀ nx : Ctr, RunsX Try.prog 0 (Gives [.t 2] (.int .i64 (mostR row : Nat))) (i_ref04_most_0 ++ [.c c_ref04_most_k0]) (s_ref04_most_0 (.fz 1 (ivs row) none) (.int .i64 ((pre.foldl max (row.headD 0) : Nat) : Int)) (.int .i64 (row.length : Nat)) (.int .i64 (pre.length : Nat))) [] nx := by
    intro post
    induction post with
    | nil =>
      intro pre h1 nx
      rw [List.append_nil] at h1
      subst h1
      refine round (its := [.blk 0 wb_ref04_most_0]) (k0 := [.c c_ref04_most_k0]) 100 trivial trivial (fun A eA => ?_)
      simp (disch := first | omega | (simp only [avs_len, List.length_cons, List.length_append, List.length_nil, List.length_take, List.length_drop, List.length_map]; omega) | (simp only [cells, scal1, allSz, List.length_cons, List.length_nil, List.length_append, List.length_map, List.all_cons, List.all_nil, avs_len, beq_self_eq_true, Bool.and_self, and_self, or_true, true_or, reduceCtorEq, *]; done) | fail) only [c_ref04_most, wl_ref04_most_0, s_ref04_most_0, c_ref04_most_l0, wb_ref04_most_0, c_ref04_most_k0, go_sem, Nat.reduceAdd, Nat.reduceSub, Nat.reduceMul, Nat.reduceLT, Nat.reduceLeDiff, Int.reduceToNat, Nat.reduceEqDiff, Nat.reduceBEq, ↓reduceIte, reduceCtorEq, eA]
      refine walk0 (its := [.c c_ref04_most_k0]) 100 trivial (fun A eA => ?_)
      simp (disch := first | omega | (simp only [avs_len, List.length_cons, List.length_append, List.length_nil, List.length_take, List.length_drop, List.length_map]; omega) | (simp only [cells, scal1, allSz, List.length_cons, List.length_nil, List.length_append, List.length_map, List.all_cons, List.all_nil, avs_len, beq_self_eq_true, Bool.and_self, and_self, or_true, true_or, reduceCtorEq, *]; done) | fail) only [c_ref04_most, wl_ref04_most_0, s_ref04_most_0, c_ref04_most_l0, wb_ref04_most_0, c_ref04_most_k0, go_sem, Nat.reduceAdd, Nat.reduceSub, Nat.reduceMul, Nat.reduceLT, Nat.reduceLeDiff, Int.reduceToNat, Nat.reduceEqDiff, Nat.reduceBEq, ↓reduceIte, reduceCtorEq, eA]
      exact doneG rfl
    | cons x post ih =>
      intro pre h1 nx
      have hlt : pre.length < row.length := by rw [h1]; simp
      have g1 : (ivs row)[pre.length]? = some (.int .i64 (x : Nat)) := by rw [List.getElem?_map, h1]; simp
      have w1 : IntKind.i64.wrap ((pre.length : Int) + 1) = ((pre.length + 1 : Nat) : Int) := by rw [IntKind.wrap_i64]; omega
      have hih := ih (pre ++ [x]) (by rw [h1]; simp) nx
      rw [show (pre ++ [x]).length = pre.length + 1 by simp, List.foldl_append] at hih
      generalize pre.foldl max (row.headD 0) = acc at hih ⊢
      have e : (if (x : Int) > (acc : Int) then (x : Int) else (acc : Int)) = ((max acc x : Nat) : Int) := by split <;> omega
      refine round (its := [.blk 0 wb_ref04_most_0]) (k0 := [.c c_ref04_most_k0]) 100 trivial trivial (fun A eA => ?_)
      simp (disch := first | omega | (simp only [avs_len, List.length_cons, List.length_append, List.length_nil, List.length_take, List.length_drop, List.length_map]; omega) | (simp only [cells, scal1, allSz, List.length_cons, List.length_nil, List.length_append, List.length_map, List.all_cons, List.all_nil, avs_len, beq_self_eq_true, Bool.and_self, and_self, or_true, true_or, reduceCtorEq, *]; done) | fail) only [c_ref04_most, wl_ref04_most_0, s_ref04_most_0, c_ref04_most_l0, wb_ref04_most_0, c_ref04_most_k0, go_sem, Nat.reduceAdd, Nat.reduceSub, Nat.reduceMul, Nat.reduceLT, Nat.reduceLeDiff, Int.reduceToNat, Nat.reduceEqDiff, Nat.reduceBEq, ↓reduceIte, reduceCtorEq, eA, Int.toNat_natCast, g1, w1, e]
      exact hih
  refine calls_ref04_most (walk0 100 trivial (fun A eA => ?_))
  simp (disch := first | omega | (simp only [avs_len, List.length_cons, List.length_append, List.length_nil, List.length_take, List.length_drop, List.length_map]; omega) | (simp only [cells, scal1, allSz, List.length_cons, List.length_nil, List.length_append, List.length_map, List.all_cons, List.all_nil, avs_len, beq_self_eq_true, Bool.and_self, and_self, or_true, true_or, reduceCtorEq, *]; done) | fail) only [c_ref04_most, wl_ref04_most_0, s_ref04_most_0, c_ref04_most_l0, wb_ref04_most_0, c_ref04_most_k0, go_sem, Nat.reduceAdd, Nat.reduceSub, Nat.reduceMul, Nat.reduceLT, Nat.reduceLeDiff, Int.reduceToNat, Nat.reduceEqDiff, Nat.reduceBEq, ↓reduceIte, reduceCtorEq, eA, ivs_len, g0]
  exact key row [] rfl zeroC
end Go.Proofs.Ytmokhopjnjecbab
/- The walks through what takes event trees. -/
-- short
-- fuel 300
namespace Go.Proofs.Ytmokhopjnjecbab
open Go.Ev
set_option linter.unusedVariables false
set_option linter.unusedSimpArgs false
set_option maxRecDepth 100000
set_option maxHeartbeats 1600000
theorem inE_free (s : InS) (H : Heap) : (inE s).all (nameFree 9 H) = true := by cases s <;> rfl
theorem evget_takes : ∀ (deep : Nat) {s : InS}, OkIn s → deep ≤ 100 → Takes F_event_get [.int .i64 (deep : Nat)] s (getE deep s).2 (xtv (getE deep s).1)
  | 0, s, hs, hdp => by
    intro f g nx hf
    obtain ⟨nx1, h1⟩ := num_takes hs f g (bump nx 4) hf
    obtain ⟨nx2, h2⟩ := bool_takes (inNum_ok hs) f g (bump nx1 5) hf
    have hwk : Wk1 (.agg [.int .i64 ((inNum s).1 : Nat), .nils]) (xtv (getE 0 s).1) := xwk_leaf _
    have e0 : (getE 0 s).2 = (inBool (inNum s).2).2 := rfl
    rw [e0]
    have hFr := inE_free
    refine ⟨nx2, HCalls.wk (hcalls_event_get 9 [(f, 6)] (walk0 300 trivial (fun A eA => ?_))) hwk⟩
    cases hb : (inBool (inNum s).2).1
    all_goals
      rw [hb] at h2
      simp (disch := first | omega | (simp only [avs_len, List.length_cons, List.length_append, List.length_nil, List.length_take, List.length_drop, List.length_map]; omega) | (simp only [cells, scal1, allSz, List.length_cons, List.length_nil, List.length_append, List.length_map, List.all_cons, List.all_nil, avs_len, beq_self_eq_true, Bool.and_self, and_self, or_true, true_or, reduceCtorEq, *]; done) | fail) only [c_event_get, go_sem, Nat.reduceAdd, Nat.reduceSub, Nat.reduceMul, Nat.reduceLT, Nat.reduceLeDiff, Int.reduceToNat, Nat.reduceEqDiff, Nat.reduceBEq, ↓reduceIte, reduceCtorEq, eA, scal1, List.all_cons, List.all_nil, Bool.and_self]
      refine call2 300 trivial trivial [(f, 6)] (by simp only [go_sem, Nat.reduceAdd, Nat.reduceSub, Nat.reduceMul, Nat.reduceLT, Nat.reduceLeDiff, Int.reduceToNat, Nat.reduceEqDiff, Nat.reduceBEq, ↓reduceIte, reduceCtorEq] <;> rfl) (by simp only [go_sem, Nat.reduceAdd, Nat.reduceSub, Nat.reduceMul, Nat.reduceLT, Nat.reduceLeDiff, Int.reduceToNat, Nat.reduceEqDiff, Nat.reduceBEq, ↓reduceIte, reduceCtorEq, Ev.rest, keyIn] <;> rfl) h1 (.inr ⟨rfl, by simp only [heapFree, hFr, Bool.and_self]⟩) (fun A eA => ?_)
      simp (disch := first | omega | (simp only [avs_len, List.length_cons, List.length_append, List.length_nil, List.length_take, List.length_drop, List.length_map]; omega) | (simp only [cells, scal1, allSz, List.length_cons, List.length_nil, List.length_append, List.length_map, List.all_cons, List.all_nil, avs_len, beq_self_eq_true, Bool.and_self, and_self, or_true, true_or, reduceCtorEq, *]; done) | fail) only [c_event_get, go_sem, Nat.reduceAdd, Nat.reduceSub, Nat.reduceMul, Nat.reduceLT, Nat.reduceLeDiff, Int.reduceToNat, Nat.reduceEqDiff, Nat.reduceBEq, ↓reduceIte, reduceCtorEq, eA, scal1, List.all_cons, List.all_nil, Bool.and_self]
      refine call2 300 trivial trivial [(f, 6)] (by simp only [go_sem, Nat.reduceAdd, Nat.reduceSub, Nat.reduceMul, Nat.reduceLT, Nat.reduceLeDiff, Int.reduceToNat, Nat.reduceEqDiff, Nat.reduceBEq, ↓reduceIte, reduceCtorEq] <;> rfl) (by simp only [go_sem, Nat.reduceAdd, Nat.reduceSub, Nat.reduceMul, Nat.reduceLT, Nat.reduceLeDiff, Int.reduceToNat, Nat.reduceEqDiff, Nat.reduceBEq, ↓reduceIte, reduceCtorEq, Ev.rest, keyIn] <;> rfl) h2 (.inr ⟨rfl, by simp only [heapFree, hFr, Bool.and_self]⟩) (fun A eA => ?_)
      simp (disch := first | omega | (simp only [avs_len, List.length_cons, List.length_append, List.length_nil, List.length_take, List.length_drop, List.length_map]; omega) | (simp only [cells, scal1, allSz, List.length_cons, List.length_nil, List.length_append, List.length_map, List.all_cons, List.all_nil, avs_len, beq_self_eq_true, Bool.and_self, and_self, or_true, true_or, reduceCtorEq, *]; done) | fail) only [c_event_get, go_sem, Nat.reduceAdd, Nat.reduceSub, Nat.reduceMul, Nat.reduceLT, Nat.reduceLeDiff, Int.reduceToNat, Nat.reduceEqDiff, Nat.reduceBEq, ↓reduceIte, reduceCtorEq, eA, scal1, List.all_cons, List.all_nil, Bool.and_self]
      exact doneH (by simp only [go_sem, Nat.reduceAdd, Nat.reduceSub, Nat.reduceMul, Nat.reduceLT, Nat.reduceLeDiff, Int.reduceToNat, Nat.reduceEqDiff, Nat.reduceBEq, ↓reduceIte, reduceCtorEq]) (by simp only [go_sem, Nat.reduceAdd, Nat.reduceSub, Nat.reduceMul, Nat.reduceLT, Nat.reduceLeDiff, Int.reduceToNat, Nat.reduceEqDiff, Nat.reduceBEq, ↓reduceIte, reduceCtorEq]) rfl
  | dp + 1, s, hs, hdp => by
    intro f g nx hf
    have hFr := inE_free
    have hs2 : OkIn (inBool (inNum s).2).2 := inBool_ok (inNum_ok hs)
    obtain ⟨nx1, h1⟩ := num_takes hs f g (bump nx 4) hf
    obtain ⟨nx2, h2⟩ := bool_takes (inNum_ok hs) f g (bump nx1 5) hf
    have e2 : (0 : Int) < ((dp + 1 : Nat) : Int) := by omega
    have w1 : IntKind.i64.wrap (((dp + 1 : Nat) : Int) - 1) = ((dp : Nat) : Int) := by rw [wrap64 (by omega) (by omega)]; omega
    cases hb : (inBool (inNum s).2).1 with
    | false =>
      rw [hb] at h2
      have e0 : getE (dp + 1) s = (.mk (inNum s).1 [], (inBool (inNum s).2).2) := by simp only [getE, hb, Bool.false_eq_true, if_false]
      rw [e0]
      refine ⟨nx2, HCalls.wk (hcalls_event_get 9 [(f, 6)] (walk0 300 trivial (fun A eA => ?_))) (xwk_leaf _)⟩
      simp (disch := first | omega | (simp only [avs_len, List.length_cons, List.length_append, List.length_nil, List.length_take, List.length_drop, List.length_map]; omega) | (simp only [cells, scal1, allSz, List.length_cons, List.length_nil, List.length_append, List.length_map, List.all_cons, List.all_nil, avs_len, beq_self_eq_true, Bool.and_self, and_self, or_true, true_or, reduceCtorEq, *]; done) | fail) only [c_event_get, go_sem, Nat.reduceAdd, Nat.reduceSub, Nat.reduceMul, Nat.reduceLT, Nat.reduceLeDiff, Int.reduceToNat, Nat.reduceEqDiff, Nat.reduceBEq, ↓reduceIte, reduceCtorEq, eA, scal1, List.all_cons, List.all_nil, Bool.and_self, e2, w1]
      refine call2 300 trivial trivial [(f, 6)] (by simp only [go_sem, Nat.reduceAdd, Nat.reduceSub, Nat.reduceMul, Nat.reduceLT, Nat.reduceLeDiff, Int.reduceToNat, Nat.reduceEqDiff, Nat.reduceBEq, ↓reduceIte, reduceCtorEq] <;> rfl) (by simp only [go_sem, Nat.reduceAdd, Nat.reduceSub, Nat.reduceMul, Nat.reduceLT, Nat.reduceLeDiff, Int.reduceToNat, Nat.reduceEqDiff, Nat.reduceBEq, ↓reduceIte, reduceCtorEq, Ev.rest, keyIn] <;> rfl) h1 (.inr ⟨rfl, by simp only [heapFree, hFr, Bool.and_self]⟩) (fun A eA => ?_)
      simp (disch := first | omega | (simp only [avs_len, List.length_cons, List.length_append, List.length_nil, List.length_take, List.length_drop, List.length_map]; omega) | (simp only [cells, scal1, allSz, List.length_cons, List.length_nil, List.length_append, List.length_map, List.all_cons, List.all_nil, avs_len, beq_self_eq_true, Bool.and_self, and_self, or_true, true_or, reduceCtorEq, *]; done) | fail) only [c_event_get, go_sem, Nat.reduceAdd, Nat.reduceSub, Nat.reduceMul, Nat.reduceLT, Nat.reduceLeDiff, Int.reduceToNat, Nat.reduceEqDiff, Nat.reduceBEq, ↓reduceIte, reduceCtorEq, eA, scal1, List.all_cons, List.all_nil, Bool.and_self, e2, w1]
      refine call2 300 trivial trivial [(f, 6)] (by simp only [go_sem, Nat.reduceAdd, Nat.reduceSub, Nat.reduceMul, Nat.reduceLT, Nat.reduceLeDiff, Int.reduceToNat, Nat.reduceEqDiff, Nat.reduceBEq, ↓reduceIte, reduceCtorEq] <;> rfl) (by simp only [go_sem, Nat.reduceAdd, Nat.reduceSub, Nat.reduceMul, Nat.reduceLT, Nat.reduceLeDiff, Int.reduceToNat, Nat.reduceEqDiff, Nat.reduceBEq, ↓reduceIte, reduceCtorEq, Ev.rest, keyIn] <;> rfl) h2 (.inr ⟨rfl, by simp only [heapFree, hFr, Bool.and_self]⟩) (fun A eA => ?_)
      simp (disch := first | omega | (simp only [avs_len, List.length_cons, List.length_append, List.length_nil, List.length_take, List.length_drop, List.length_map]; omega) | (simp only [cells, scal1, allSz, List.length_cons, List.length_nil, List.length_append, List.length_map, List.all_cons, List.all_nil, avs_len, beq_self_eq_true, Bool.and_self, and_self, or_true, true_or, reduceCtorEq, *]; done) | fail) only [c_event_get, go_sem, Nat.reduceAdd, Nat.reduceSub, Nat.reduceMul, Nat.reduceLT, Nat.reduceLeDiff, Int.reduceToNat, Nat.reduceEqDiff, Nat.reduceBEq, ↓reduceIte, reduceCtorEq, eA, scal1, List.all_cons, List.all_nil, Bool.and_self, e2, w1]
      exact doneH (by simp only [go_sem, Nat.reduceAdd, Nat.reduceSub, Nat.reduceMul, Nat.reduceLT, Nat.reduceLeDiff, Int.reduceToNat, Nat.reduceEqDiff, Nat.reduceBEq, ↓reduceIte, reduceCtorEq]) (by simp only [go_sem, Nat.reduceAdd, Nat.reduceSub, Nat.reduceMul, Nat.reduceLT, Nat.reduceLeDiff, Int.reduceToNat, Nat.reduceEqDiff, Nat.reduceBEq, ↓reduceIte, reduceCtorEq]) rfl
    | true =>
      rw [hb] at h2
      obtain ⟨nx3, h3⟩ := evget_takes dp hs2 (by omega) f g nx2 hf
      obtain ⟨nx4, h4⟩ := evget_takes dp (getE_ok dp hs2) (by omega) f g nx3 hf
      have e0 : getE (dp + 1) s = (.mk (inNum s).1 [(getE dp (inBool (inNum s).2).2).1, (getE dp (getE dp (inBool (inNum s).2).2).2).1], (getE dp (getE dp (inBool (inNum s).2).2).2).2) := by simp only [getE, hb, if_true]
      rw [e0]
      refine ⟨nx4, HCalls.wk (hcalls_event_get 9 [(f, 6)] (walk0 300 trivial (fun A eA => ?_))) (xwk_two _ _ _)⟩
      simp (disch := first | omega | (simp only [avs_len, List.length_cons, List.length_append, List.length_nil, List.length_take, List.length_drop, List.length_map]; omega) | (simp only [cells, scal1, allSz, List.length_cons, List.length_nil, List.length_append, List.length_map, List.all_cons, List.all_nil, avs_len, beq_self_eq_true, Bool.and_self, and_self, or_true, true_or, reduceCtorEq, *]; done) | fail) only [c_event_get, go_sem, Nat.reduceAdd, Nat.reduceSub, Nat.reduceMul, Nat.reduceLT, Nat.reduceLeDiff, Int.reduceToNat, Nat.reduceEqDiff, Nat.reduceBEq, ↓reduceIte, reduceCtorEq, eA, scal1, List.all_cons, List.all_nil, Bool.and_self, e2, w1]
      refine call2 300 trivial trivial [(f, 6)] (by simp only [go_sem, Nat.reduceAdd, Nat.reduceSub, Nat.reduceMul, Nat.reduceLT, Nat.reduceLeDiff, Int.reduceToNat, Nat.reduceEqDiff, Nat.reduceBEq, ↓reduceIte, reduceCtorEq] <;> rfl) (by simp only [go_sem, Nat.reduceAdd, Nat.reduceSub, Nat.reduceMul, Nat.reduceLT, Nat.reduceLeDiff, Int.reduceToNat, Nat.reduceEqDiff, Nat.reduceBEq, ↓reduceIte, reduceCtorEq, Ev.rest, keyIn] <;> rfl) h1 (.inr ⟨rfl, by simp only [heapFree, hFr, Bool.and_self]⟩) (fun A eA => ?_)
      simp (disch := first | omega | (simp only [avs_len, List.length_cons, List.length_append, List.length_nil, List.length_take, List.length_drop, List.length_map]; omega) | (simp only [cells, scal1, allSz, List.length_cons, List.length_nil, List.length_append, List.length_map, List.all_cons, List.all_nil, avs_len, beq_self_eq_true, Bool.and_self, and_self, or_true, true_or, reduceCtorEq, *]; done) | fail) only [c_event_get, go_sem, Nat.reduceAdd, Nat.reduceSub, Nat.reduceMul, Nat.reduceLT, Nat.reduceLeDiff, Int.reduceToNat, Nat.reduceEqDiff, Nat.reduceBEq, ↓reduceIte, reduceCtorEq, eA, scal1, List.all_cons, List.all_nil, Bool.and_self, e2, w1]
      refine call2 300 trivial trivial [(f, 6)] (by simp only [go_sem, Nat.reduceAdd, Nat.reduceSub, Nat.reduceMul, Nat.reduceLT, Nat.reduceLeDiff, Int.reduceToNat, Nat.reduceEqDiff, Nat.reduceBEq, ↓reduceIte, reduceCtorEq] <;> rfl) (by simp only [go_sem, Nat.reduceAdd, Nat.reduceSub, Nat.reduceMul, Nat.reduceLT, Nat.reduceLeDiff, Int.reduceToNat, Nat.reduceEqDiff, Nat.reduceBEq, ↓reduceIte, reduceCtorEq, Ev.rest, keyIn] <;> rfl) h2 (.inr ⟨rfl, by simp only [heapFree, hFr, Bool.and_self]⟩) (fun A eA => ?_)
      simp (disch := first | omega | (simp only [avs_len, List.length_cons, List.length_append, List.length_nil, List.length_take, List.length_drop, List.length_map]; omega) | (simp only [cells, scal1, allSz, List.length_cons, List.length_nil, List.length_append, List.length_map, List.all_cons, List.all_nil, avs_len, beq_self_eq_true, Bool.and_self, and_self, or_true, true_or, reduceCtorEq, *]; done) | fail) only [c_event_get, go_sem, Nat.reduceAdd, Nat.reduceSub, Nat.reduceMul, Nat.reduceLT, Nat.reduceLeDiff, Int.reduceToNat, Nat.reduceEqDiff, Nat.reduceBEq, ↓reduceIte, reduceCtorEq, eA, scal1, List.all_cons, List.all_nil, Bool.and_self, e2, w1]
      refine call2 300 trivial trivial [(f, 6)] (by simp only [go_sem, Nat.reduceAdd, Nat.reduceSub, Nat.reduceMul, Nat.reduceLT, Nat.reduceLeDiff, Int.reduceToNat, Nat.reduceEqDiff, Nat.reduceBEq, ↓reduceIte, reduceCtorEq] <;> rfl) (by simp only [go_sem, Nat.reduceAdd, Nat.reduceSub, Nat.reduceMul, Nat.reduceLT, Nat.reduceLeDiff, Int.reduceToNat, Nat.reduceEqDiff, Nat.reduceBEq, ↓reduceIte, reduceCtorEq, Ev.rest, keyIn] <;> rfl) h3 (.inr ⟨rfl, by simp only [heapFree, hFr, Bool.and_self]⟩) (fun A eA => ?_)
      simp (disch := first | omega | (simp only [avs_len, List.length_cons, List.length_append, List.length_nil, List.length_take, List.length_drop, List.length_map]; omega) | (simp only [cells, scal1, allSz, List.length_cons, List.length_nil, List.length_append, List.length_map, List.all_cons, List.all_nil, avs_len, beq_self_eq_true, Bool.and_self, and_self, or_true, true_or, reduceCtorEq, *]; done) | fail) only [c_event_get, go_sem, Nat.reduceAdd, Nat.reduceSub, Nat.reduceMul, Nat.reduceLT, Nat.reduceLeDiff, Int.reduceToNat, Nat.reduceEqDiff, Nat.reduceBEq, ↓reduceIte, reduceCtorEq, eA, scal1, List.all_cons, List.all_nil, Bool.and_self, e2, w1]
      refine call2 300 trivial trivial [(f, 6)] (by simp only [go_sem, Nat.reduceAdd, Nat.reduceSub, Nat.reduceMul, Nat.reduceLT, Nat.reduceLeDiff, Int.reduceToNat, Nat.reduceEqDiff, Nat.reduceBEq, ↓reduceIte, reduceCtorEq] <;> rfl) (by simp only [go_sem, Nat.reduceAdd, Nat.reduceSub, Nat.reduceMul, Nat.reduceLT, Nat.reduceLeDiff, Int.reduceToNat, Nat.reduceEqDiff, Nat.reduceBEq, ↓reduceIte, reduceCtorEq, Ev.rest, keyIn] <;> rfl) h4 (.inr ⟨rfl, by simp only [heapFree, hFr, Bool.and_self]⟩) (fun A eA => ?_)
      simp (disch := first | omega | (simp only [avs_len, List.length_cons, List.length_append, List.length_nil, List.length_take, List.length_drop, List.length_map]; omega) | (simp only [cells, scal1, allSz, List.length_cons, List.length_nil, List.length_append, List.length_map, List.all_cons, List.all_nil, avs_len, beq_self_eq_true, Bool.and_self, and_self, or_true, true_or, reduceCtorEq, *]; done) | fail) only [c_event_get, go_sem, Nat.reduceAdd, Nat.reduceSub, Nat.reduceMul, Nat.reduceLT, Nat.reduceLeDiff, Int.reduceToNat, Nat.reduceEqDiff, Nat.reduceBEq, ↓reduceIte, reduceCtorEq, eA, scal1, List.all_cons, List.all_nil, Bool.and_self, e2, w1, allSz, beq_self_eq_true]
      exact doneH (by simp only [go_sem, Nat.reduceAdd, Nat.reduceSub, Nat.reduceMul, Nat.reduceLT, Nat.reduceLeDiff, Int.reduceToNat, Nat.reduceEqDiff, Nat.reduceBEq, ↓reduceIte, reduceCtorEq]) (by simp only [go_sem, Nat.reduceAdd, Nat.reduceSub, Nat.reduceMul, Nat.reduceLT, Nat.reduceLeDiff, Int.reduceToNat, Nat.reduceEqDiff, Nat.reduceBEq, ↓reduceIte, reduceCtorEq]) rfl
open Classical in
/-- What Get gives. -/
noncomputable def gotE (s : InS) : ET × Bool := if (getE 8 s).2 = none ∨ ¬ XRt (getE 8 s).1 then (.mk 0 [], false) else ((getE 8 s).1, true)
theorem wk_got (b : Bool) : Wk1 (.tup [.agg [.int .i64 0, .nils], .bool b]) (.tup [xtv (.mk 0 []), .bool b]) := by
  refine Wk1.tup rfl (fun j x y hx hy => ?_)
  match j, hx, hy with
  | 0, hx, hy => simp at hx hy; subst hx hy; exact xwk_leaf 0
  | 1, hx, hy => simp at hx hy; subst hx hy; exact Wk1.refl _
  | j + 2, hx, hy => simp at hx
theorem evGet_takes {s : InS} (hs : OkIn s) : Takes F_event_Get [] s (getE 8 s).2 (.tup [xtv (gotE s).1, .bool (gotE s).2]) := by
  intro f g nx hf
  have hFr := inE_free
  obtain ⟨nx1, h1⟩ := evget_takes 8 hs (by omega) f g (bump nx 2) hf
  obtain ⟨nx2, h2⟩ := bad_takes (getE 8 s).2 f g (bump nx1 4) hf
  have cr := xright_calls (getE 8 s).1
  refine ⟨nx2, ?_⟩
  cases hb : (getE 8 s).2 with
  | none =>
    rw [show gotE s = (.mk 0 [], false) by unfold gotE; rw [if_pos (.inl hb)]]
    refine HCalls.wk ?_ (wk_got false)
    rw [hb] at h1 h2
    refine hcalls_event_Get 10 [(f, 6)] (walk0 300 trivial (fun A eA => ?_))
    simp (disch := first | omega | (simp only [avs_len, List.length_cons, List.length_append, List.length_nil, List.length_take, List.length_drop, List.length_map]; omega) | (simp only [cells, scal1, allSz, List.length_cons, List.length_nil, List.length_append, List.length_map, List.all_cons, List.all_nil, avs_len, beq_self_eq_true, Bool.and_self, and_self, or_true, true_or, reduceCtorEq, *]; done) | fail) only [c_event_Get, go_sem, Nat.reduceAdd, Nat.reduceSub, Nat.reduceMul, Nat.reduceLT, Nat.reduceLeDiff, Int.reduceToNat, Nat.reduceEqDiff, Nat.reduceBEq, ↓reduceIte, reduceCtorEq, eA, scal1, List.all_cons, List.all_nil, Bool.and_self]
    refine call2 300 trivial trivial [(f, 6)] (by simp only [go_sem, Nat.reduceAdd, Nat.reduceSub, Nat.reduceMul, Nat.reduceLT, Nat.reduceLeDiff, Int.reduceToNat, Nat.reduceEqDiff, Nat.reduceBEq, ↓reduceIte, reduceCtorEq] <;> rfl) (by simp only [go_sem, Nat.reduceAdd, Nat.reduceSub, Nat.reduceMul, Nat.reduceLT, Nat.reduceLeDiff, Int.reduceToNat, Nat.reduceEqDiff, Nat.reduceBEq, ↓reduceIte, reduceCtorEq, Ev.rest, keyIn] <;> rfl) h1 (.inr ⟨rfl, by simp only [heapFree, hFr, Bool.and_self]⟩) (fun A eA => ?_)
    simp (disch := first | omega | (simp only [avs_len, List.length_cons, List.length_append, List.length_nil, List.length_take, List.length_drop, List.length_map]; omega) | (simp only [cells, scal1, allSz, List.length_cons, List.length_nil, List.length_append, List.length_map, List.all_cons, List.all_nil, avs_len, beq_self_eq_true, Bool.and_self, and_self, or_true, true_or, reduceCtorEq, *]; done) | fail) only [c_event_Get, go_sem, Nat.reduceAdd, Nat.reduceSub, Nat.reduceMul, Nat.reduceLT, Nat.reduceLeDiff, Int.reduceToNat, Nat.reduceEqDiff, Nat.reduceBEq, ↓reduceIte, reduceCtorEq, eA, scal1, List.all_cons, List.all_nil, Bool.and_self]
    refine call2 300 trivial trivial [(f, 6)] (by simp only [go_sem, Nat.reduceAdd, Nat.reduceSub, Nat.reduceMul, Nat.reduceLT, Nat.reduceLeDiff, Int.reduceToNat, Nat.reduceEqDiff, Nat.reduceBEq, ↓reduceIte, reduceCtorEq] <;> rfl) (by simp only [go_sem, Nat.reduceAdd, Nat.reduceSub, Nat.reduceMul, Nat.reduceLT, Nat.reduceLeDiff, Int.reduceToNat, Nat.reduceEqDiff, Nat.reduceBEq, ↓reduceIte, reduceCtorEq, Ev.rest, keyIn] <;> rfl) h2 (.inr ⟨rfl, by simp only [heapFree, hFr, Bool.and_self]⟩) (fun A eA => ?_)
    simp (disch := first | omega | (simp only [avs_len, List.length_cons, List.length_append, List.length_nil, List.length_take, List.length_drop, List.length_map]; omega) | (simp only [cells, scal1, allSz, List.length_cons, List.length_nil, List.length_append, List.length_map, List.all_cons, List.all_nil, avs_len, beq_self_eq_true, Bool.and_self, and_self, or_true, true_or, reduceCtorEq, *]; done) | fail) only [c_event_Get, go_sem, Nat.reduceAdd, Nat.reduceSub, Nat.reduceMul, Nat.reduceLT, Nat.reduceLeDiff, Int.reduceToNat, Nat.reduceEqDiff, Nat.reduceBEq, ↓reduceIte, reduceCtorEq, eA, scal1, List.all_cons, List.all_nil, Bool.and_self, Option.isNone]
    exact doneH (by simp only [go_sem, Nat.reduceAdd, Nat.reduceSub, Nat.reduceMul, Nat.reduceLT, Nat.reduceLeDiff, Int.reduceToNat, Nat.reduceEqDiff, Nat.reduceBEq, ↓reduceIte, reduceCtorEq]) (by simp only [go_sem, Nat.reduceAdd, Nat.reduceSub, Nat.reduceMul, Nat.reduceLT, Nat.reduceLeDiff, Int.reduceToNat, Nat.reduceEqDiff, Nat.reduceBEq, ↓reduceIte, reduceCtorEq]) rfl
  | some r =>
    rw [hb] at h1 h2
    by_cases hr : XRt (getE 8 s).1
    · rw [show gotE s = ((getE 8 s).1, true) by unfold gotE; rw [if_neg (by rw [hb]; simp [hr])]]
      rw [xrtb_true.2 hr] at cr
      refine hcalls_event_Get 10 [(f, 6)] (walk0 300 trivial (fun A eA => ?_))
      simp (disch := first | omega | (simp only [avs_len, List.length_cons, List.length_append, List.length_nil, List.length_take, List.length_drop, List.length_map]; omega) | (simp only [cells, scal1, allSz, List.length_cons, List.length_nil, List.length_append, List.length_map, List.all_cons, List.all_nil, avs_len, beq_self_eq_true, Bool.and_self, and_self, or_true, true_or, reduceCtorEq, *]; done) | fail) only [c_event_Get, go_sem, Nat.reduceAdd, Nat.reduceSub, Nat.reduceMul, Nat.reduceLT, Nat.reduceLeDiff, Int.reduceToNat, Nat.reduceEqDiff, Nat.reduceBEq, ↓reduceIte, reduceCtorEq, eA, scal1, List.all_cons, List.all_nil, Bool.and_self]
      refine call2 300 trivial trivial [(f, 6)] (by simp only [go_sem, Nat.reduceAdd, Nat.reduceSub, Nat.reduceMul, Nat.reduceLT, Nat.reduceLeDiff, Int.reduceToNat, Nat.reduceEqDiff, Nat.reduceBEq, ↓reduceIte, reduceCtorEq] <;> rfl) (by simp only [go_sem, Nat.reduceAdd, Nat.reduceSub, Nat.reduceMul, Nat.reduceLT, Nat.reduceLeDiff, Int.reduceToNat, Nat.reduceEqDiff, Nat.reduceBEq, ↓reduceIte, reduceCtorEq, Ev.rest, keyIn] <;> rfl) h1 (.inr ⟨rfl, by simp only [heapFree, hFr, Bool.and_self]⟩) (fun A eA => ?_)
      simp (disch := first | omega | (simp only [avs_len, List.length_cons, List.length_append, List.length_nil, List.length_take, List.length_drop, List.length_map]; omega) | (simp only [cells, scal1, allSz, List.length_cons, List.length_nil, List.length_append, List.length_map, List.all_cons, List.all_nil, avs_len, beq_self_eq_true, Bool.and_self, and_self, or_true, true_or, reduceCtorEq, *]; done) | fail) only [c_event_Get, go_sem, Nat.reduceAdd, Nat.reduceSub, Nat.reduceMul, Nat.reduceLT, Nat.reduceLeDiff, Int.reduceToNat, Nat.reduceEqDiff, Nat.reduceBEq, ↓reduceIte, reduceCtorEq, eA, scal1, List.all_cons, List.all_nil, Bool.and_self]
      refine call2 300 trivial trivial [(f, 6)] (by simp only [go_sem, Nat.reduceAdd, Nat.reduceSub, Nat.reduceMul, Nat.reduceLT, Nat.reduceLeDiff, Int.reduceToNat, Nat.reduceEqDiff, Nat.reduceBEq, ↓reduceIte, reduceCtorEq] <;> rfl) (by simp only [go_sem, Nat.reduceAdd, Nat.reduceSub, Nat.reduceMul, Nat.reduceLT, Nat.reduceLeDiff, Int.reduceToNat, Nat.reduceEqDiff, Nat.reduceBEq, ↓reduceIte, reduceCtorEq, Ev.rest, keyIn] <;> rfl) h2 (.inr ⟨rfl, by simp only [heapFree, hFr, Bool.and_self]⟩) (fun A eA => ?_)
      simp (disch := first | omega | (simp only [avs_len, List.length_cons, List.length_append, List.length_nil, List.length_take, List.length_drop, List.length_map]; omega) | (simp only [cells, scal1, allSz, List.length_cons, List.length_nil, List.length_append, List.length_map, List.all_cons, List.all_nil, avs_len, beq_self_eq_true, Bool.and_self, and_self, or_true, true_or, reduceCtorEq, *]; done) | fail) only [c_event_Get, go_sem, Nat.reduceAdd, Nat.reduceSub, Nat.reduceMul, Nat.reduceLT, Nat.reduceLeDiff, Int.reduceToNat, Nat.reduceEqDiff, Nat.reduceBEq, ↓reduceIte, reduceCtorEq, eA, scal1, List.all_cons, List.all_nil, Bool.and_self, Option.isNone]
      refine call0 300 trivial trivial cr (.inl rfl) (fun A eA => ?_)
      simp (disch := first | omega | (simp only [avs_len, List.length_cons, List.length_append, List.length_nil, List.length_take, List.length_drop, List.length_map]; omega) | (simp only [cells, scal1, allSz, List.length_cons, List.length_nil, List.length_append, List.length_map, List.all_cons, List.all_nil, avs_len, beq_self_eq_true, Bool.and_self, and_self, or_true, true_or, reduceCtorEq, *]; done) | fail) only [c_event_Get, go_sem, Nat.reduceAdd, Nat.reduceSub, Nat.reduceMul, Nat.reduceLT, Nat.reduceLeDiff, Int.reduceToNat, Nat.reduceEqDiff, Nat.reduceBEq, ↓reduceIte, reduceCtorEq, eA, scal1, List.all_cons, List.all_nil, Bool.and_self]
      exact doneH (by simp only [go_sem, Nat.reduceAdd, Nat.reduceSub, Nat.reduceMul, Nat.reduceLT, Nat.reduceLeDiff, Int.reduceToNat, Nat.reduceEqDiff, Nat.reduceBEq, ↓reduceIte, reduceCtorEq]) (by simp only [go_sem, Nat.reduceAdd, Nat.reduceSub, Nat.reduceMul, Nat.reduceLT, Nat.reduceLeDiff, Int.reduceToNat, Nat.reduceEqDiff, Nat.reduceBEq, ↓reduceIte, reduceCtorEq]) rfl
    · rw [show gotE s = (.mk 0 [], false) by unfold gotE; rw [if_pos (.inr hr)]]
      refine HCalls.wk ?_ (wk_got false)
      rw [xrtb_no hr] at cr
      refine hcalls_event_Get 10 [(f, 6)] (walk0 300 trivial (fun A eA => ?_))
      simp (disch := first | omega | (simp only [avs_len, List.length_cons, List.length_append, List.length_nil, List.length_take, List.length_drop, List.length_map]; omega) | (simp only [cells, scal1, allSz, List.length_cons, List.length_nil, List.length_append, List.length_map, List.all_cons, List.all_nil, avs_len, beq_self_eq_true, Bool.and_self, and_self, or_true, true_or, reduceCtorEq, *]; done) | fail) only [c_event_Get, go_sem, Nat.reduceAdd, Nat.reduceSub, Nat.reduceMul, Nat.reduceLT, Nat.reduceLeDiff, Int.reduceToNat, Nat.reduceEqDiff, Nat.reduceBEq, ↓reduceIte, reduceCtorEq, eA, scal1, List.all_cons, List.all_nil, Bool.and_self]
      refine call2 300 trivial trivial [(f, 6)] (by simp only [go_sem, Nat.reduceAdd, Nat.reduceSub, Nat.reduceMul, Nat.reduceLT, Nat.reduceLeDiff, Int.reduceToNat, Nat.reduceEqDiff, Nat.reduceBEq, ↓reduceIte, reduceCtorEq] <;> rfl) (by simp only [go_sem, Nat.reduceAdd, Nat.reduceSub, Nat.reduceMul, Nat.reduceLT, Nat.reduceLeDiff, Int.reduceToNat, Nat.reduceEqDiff, Nat.reduceBEq, ↓reduceIte, reduceCtorEq, Ev.rest, keyIn] <;> rfl) h1 (.inr ⟨rfl, by simp only [heapFree, hFr, Bool.and_self]⟩) (fun A eA => ?_)
      simp (disch := first | omega | (simp only [avs_len, List.length_cons, List.length_append, List.length_nil, List.length_take, List.length_drop, List.length_map]; omega) | (simp only [cells, scal1, allSz, List.length_cons, List.length_nil, List.length_append, List.length_map, List.all_cons, List.all_nil, avs_len, beq_self_eq_true, Bool.and_self, and_self, or_true, true_or, reduceCtorEq, *]; done) | fail) only [c_event_Get, go_sem, Nat.reduceAdd, Nat.reduceSub, Nat.reduceMul, Nat.reduceLT, Nat.reduceLeDiff, Int.reduceToNat, Nat.reduceEqDiff, Nat.reduceBEq, ↓reduceIte, reduceCtorEq, eA, scal1, List.all_cons, List.all_nil, Bool.and_self]
      refine call2 300 trivial trivial [(f, 6)] (by simp only [go_sem, Nat.reduceAdd, Nat.reduceSub, Nat.reduceMul, Nat.reduceLT, Nat.reduceLeDiff, Int.reduceToNat, Nat.reduceEqDiff, Nat.reduceBEq, ↓reduceIte, reduceCtorEq] <;> rfl) (by simp only [go_sem, Nat.reduceAdd, Nat.reduceSub, Nat.reduceMul, Nat.reduceLT, Nat.reduceLeDiff, Int.reduceToNat, Nat.reduceEqDiff, Nat.reduceBEq, ↓reduceIte, reduceCtorEq, Ev.rest, keyIn] <;> rfl) h2 (.inr ⟨rfl, by simp only [heapFree, hFr, Bool.and_self]⟩) (fun A eA => ?_)
      simp (disch := first | omega | (simp only [avs_len, List.length_cons, List.length_append, List.length_nil, List.length_take, List.length_drop, List.length_map]; omega) | (simp only [cells, scal1, allSz, List.length_cons, List.length_nil, List.length_append, List.length_map, List.all_cons, List.all_nil, avs_len, beq_self_eq_true, Bool.and_self, and_self, or_true, true_or, reduceCtorEq, *]; done) | fail) only [c_event_Get, go_sem, Nat.reduceAdd, Nat.reduceSub, Nat.reduceMul, Nat.reduceLT, Nat.reduceLeDiff, Int.reduceToNat, Nat.reduceEqDiff, Nat.reduceBEq, ↓reduceIte, reduceCtorEq, eA, scal1, List.all_cons, List.all_nil, Bool.and_self, Option.isNone]
      refine call0 300 trivial trivial cr (.inl rfl) (fun A eA => ?_)
      simp (disch := first | omega | (simp only [avs_len, List.length_cons, List.length_append, List.length_nil, List.length_take, List.length_drop, List.length_map]; omega) | (simp only [cells, scal1, allSz, List.length_cons, List.length_nil, List.length_append, List.length_map, List.all_cons, List.all_nil, avs_len, beq_self_eq_true, Bool.and_self, and_self, or_true, true_or, reduceCtorEq, *]; done) | fail) only [c_event_Get, go_sem, Nat.reduceAdd, Nat.reduceSub, Nat.reduceMul, Nat.reduceLT, Nat.reduceLeDiff, Int.reduceToNat, Nat.reduceEqDiff, Nat.reduceBEq, ↓reduceIte, reduceCtorEq, eA, scal1, List.all_cons, List.all_nil, Bool.and_self]
      exact doneH (by simp only [go_sem, Nat.reduceAdd, Nat.reduceSub, Nat.reduceMul, Nat.reduceLT, Nat.reduceLeDiff, Int.reduceToNat, Nat.reduceEqDiff, Nat.reduceBEq, ↓reduceIte, reduceCtorEq]) (by simp only [go_sem, Nat.reduceAdd, Nat.reduceSub, Nat.reduceMul, Nat.reduceLT, Nat.reduceLeDiff, Int.reduceToNat, Nat.reduceEqDiff, Nat.reduceBEq, ↓reduceIte, reduceCtorEq]) rfl
end Go.Proofs.Ytmokhopjnjecbab
/- The walk through the reference's Max and its shortest event trees. -/
-- short
namespace Go.Proofs.Ytmokhopjnjecbab
open Go.Ev
set_option linter.unusedVariables false
set_option linter.unusedSimpArgs false
set_option maxRecDepth 100000
variable {R : List AV → Heap → Ctr → Prop} {k : List It} {H : Heap} {nx : Ctr} {φ : Nat}

theorem refMax_calls (p q : List Nat) (hl : p.length = q.length) (hs : p.length < 2 ^ 30) : PCalls Try.prog F_ref04_Max [.fz 1 (ivs p) none, .fz 1 (ivs q) none] (.fz 1 (ivs (List.zipWith max p q)) none) := by
  have hz : (List.zipWith max p q).length = p.length := by simp [hl]
  have hL : (ivs (List.zipWith max p q)).length = p.length := by rw [ivs_len, hz]
  have key : ∀ (n i : Nat), i + n = p.length → ∀ cs0 : List AV, cs0 = partR (ivs (List.zipWith max p q)) (.int .i64 0) i → ∀ nx : Ctr,
      RunsX Try.prog 0 (Gives [.t 4] (.fz 1 (ivs (List.zipWith max p q)) none)) (i_ref04_Max_0 ++ [.c c_ref04_Max_k0]) (s_ref04_Max_0 (.fz 1 (ivs p) none) (.fz 1 (ivs q) none) (.sl 0 9 0 1 0 p.length) (.int .i64 (p.length : Nat)) (.int .i64 (i : Nat))) [(0, 9, 0, some cs0)] nx := by
    intro n
    induction n with
    | zero =>
      intro i hi cs0 hcs0 nx
      obtain rfl : i = p.length := by omega
      have e0 : cs0 = ivs (List.zipWith max p q) := by rw [hcs0]; have := partR_all (ivs (List.zipWith max p q)) (.int .i64 0); rwa [hL] at this
      subst e0
      refine round (its := [.blk 0 wb_ref04_Max_0]) (k0 := [.c c_ref04_Max_k0]) 100 trivial trivial (fun A eA => ?_)
      simp (disch := first | omega | (simp only [avs_len, List.length_cons, List.length_append, List.length_nil, List.length_take, List.length_drop, List.length_map]; omega) | (simp only [cells, scal1, allSz, List.length_cons, List.length_nil, List.length_append, List.length_map, List.all_cons, List.all_nil, avs_len, beq_self_eq_true, Bool.and_self, and_self, or_true, true_or, reduceCtorEq, *]; done) | fail) only [c_ref04_Max, wl_ref04_Max_0, s_ref04_Max_0, c_ref04_Max_l0, wb_ref04_Max_0, c_ref04_Max_k0, go_sem, Nat.reduceAdd, Nat.reduceSub, Nat.reduceMul, Nat.reduceLT, Nat.reduceLeDiff, Int.reduceToNat, Nat.reduceEqDiff, Nat.reduceBEq, ↓reduceIte, reduceCtorEq, eA]
      refine walk0 (its := [.c c_ref04_Max_k0]) 100 trivial (fun A eA => ?_)
      simp (disch := first | omega | (simp only [avs_len, List.length_cons, List.length_append, List.length_nil, List.length_take, List.length_drop, List.length_map]; omega) | (simp only [cells, scal1, allSz, List.length_cons, List.length_nil, List.length_append, List.length_map, List.all_cons, List.all_nil, avs_len, beq_self_eq_true, Bool.and_self, and_self, or_true, true_or, reduceCtorEq, *]; done) | fail) only [c_ref04_Max, wl_ref04_Max_0, s_ref04_Max_0, c_ref04_Max_l0, wb_ref04_Max_0, c_ref04_Max_k0, go_sem, Nat.reduceAdd, Nat.reduceSub, Nat.reduceMul, Nat.reduceLT, Nat.reduceLeDiff, Int.reduceToNat, Nat.reduceEqDiff, Nat.reduceBEq, ↓reduceIte, reduceCtorEq, eA]
      refine doneG ?_
      have ht : List.take p.length (ivs (List.zipWith max p q)) = ivs (List.zipWith max p q) := List.take_of_length_le (by omega)
      simp (disch := first | omega | (simp only [avs_len, List.length_cons, List.length_append, List.length_nil, List.length_take, List.length_drop, List.length_map]; omega) | (simp only [cells, scal1, allSz, List.length_cons, List.length_nil, List.length_append, List.length_map, List.all_cons, List.all_nil, avs_len, beq_self_eq_true, Bool.and_self, and_self, or_true, true_or, reduceCtorEq, *]; done) | fail) only [go_sem, Nat.reduceAdd, Nat.reduceSub, Nat.reduceMul, Nat.reduceLT, Nat.reduceLeDiff, Int.reduceToNat, Nat.reduceEqDiff, Nat.reduceBEq, ↓reduceIte, reduceCtorEq, ht, hL, ↓frz_ivs, chunk]
    | succ n ih =>
      intro i hi cs0 hcs0 nx
      obtain ⟨x, hx⟩ : ∃ x, p[i]? = some x := ⟨_, List.getElem?_eq_getElem (by omega)⟩
      obtain ⟨y, hy⟩ : ∃ y, q[i]? = some y := ⟨_, List.getElem?_eq_getElem (by omega)⟩
      have g1 : (ivs p)[i]? = some (.int .i64 (x : Nat)) := by rw [List.getElem?_map, hx]; rfl
      have g2 : (ivs q)[i]? = some (.int .i64 (y : Nat)) := by rw [List.getElem?_map, hy]; rfl
      have hat : (ivs (List.zipWith max p q))[i]? = some (.int .i64 ((max x y : Nat) : Int)) := by rw [List.getElem?_map, List.getElem?_zipWith, hx, hy]; rfl
      have hput := partR_put (ivs (List.zipWith max p q)) (.int .i64 0) _ i hat
      have hlen := partR_len (ivs (List.zipWith max p q)) (.int .i64 0) i (by omega)
      rw [← hcs0] at hput hlen
      have e : (if (y : Int) > (x : Int) then (y : Int) else (x : Int)) = ((max x y : Nat) : Int) := by split <;> omega
      have w1 : IntKind.i64.wrap ((i : Int) + 1) = ((i + 1 : Nat) : Int) := by rw [IntKind.wrap_i64]; omega
      have hih := ih (i + 1) (by omega) _ hput
      have hcs : cs0.length = p.length := by omega
      refine round (its := [.blk 0 wb_ref04_Max_0]) (k0 := [.c c_ref04_Max_k0]) 100 trivial trivial (fun A eA => ?_)
      simp (disch := first | omega | (simp only [avs_len, List.length_cons, List.length_append, List.length_nil, List.length_take, List.length_drop, List.length_map]; omega) | (simp only [cells, scal1, allSz, List.length_cons, List.length_nil, List.length_append, List.length_map, List.all_cons, List.all_nil, avs_len, beq_self_eq_true, Bool.and_self, and_self, or_true, true_or, reduceCtorEq, *]; done) | fail) only [c_ref04_Max, wl_ref04_Max_0, s_ref04_Max_0, c_ref04_Max_l0, wb_ref04_Max_0, c_ref04_Max_k0, go_sem, Nat.reduceAdd, Nat.reduceSub, Nat.reduceMul, Nat.reduceLT, Nat.reduceLeDiff, Int.reduceToNat, Nat.reduceEqDiff, Nat.reduceBEq, ↓reduceIte, reduceCtorEq, eA, scal1, List.all_cons, List.all_nil, Bool.and_self, Int.toNat_natCast, w1, hcs, g1, g2, e]
      exact hih _
  have hp0 : List.replicate p.length (AV.int .i64 0) = partR (ivs (List.zipWith max p q)) (.int .i64 0) 0 := by
    show _ = List.take 0 _ ++ List.replicate (_ - 0) _
    rw [hL]; rfl
  refine calls_ref04_Max ?_
  simp only [List.replicate, List.length_cons, List.length_nil, Nat.reduceAdd, Nat.reduceSub, List.cons_append, List.nil_append]
  refine walk0 100 trivial (fun A eA => ?_)
  simp (disch := first | omega | (simp only [avs_len, List.length_cons, List.length_append, List.length_nil, List.length_take, List.length_drop, List.length_map]; omega) | (simp only [cells, scal1, allSz, List.length_cons, List.length_nil, List.length_append, List.length_map, List.all_cons, List.all_nil, avs_len, beq_self_eq_true, Bool.and_self, and_self, or_true, true_or, reduceCtorEq, *]; done) | fail) only [c_ref04_Max, wl_ref04_Max_0, s_ref04_Max_0, c_ref04_Max_l0, wb_ref04_Max_0, c_ref04_Max_k0, go_sem, Nat.reduceAdd, Nat.reduceSub, Nat.reduceMul, Nat.reduceLT, Nat.reduceLeDiff, Int.reduceToNat, Nat.reduceEqDiff, Nat.reduceBEq, ↓reduceIte, reduceCtorEq, eA, scal1, List.all_cons, List.all_nil, Bool.and_self, ivs_len, Int.toNat_natCast]
  exact key p.length 0 (by omega) _ hp0 (bump zeroC 9)
theorem leastR_le_take {row : List Nat} {K : Nat} (h : row.take K ≠ []) : leastR row ≤ leastR (row.take K) := leastR_le _ (List.mem_of_mem_take (leastR_mem h))
theorem leastR_le_drop {row : List Nat} {K : Nat} (h : row.drop K ≠ []) : leastR row ≤ leastR (row.drop K) := leastR_le _ (List.mem_of_mem_drop (leastR_mem h))
theorem ETree_calls : ∀ (d : Nat) (row : List Nat) (below : Nat), d ≤ 20 → row.length = 2 ^ d → below ≤ leastR row → (∀ x ∈ row, x < 2 ^ 60) → PCalls Try.prog F_ref04_ETree [.fz 1 (ivs row) none, .int .i64 (below : Nat)] (xtv (treeE d row below).t) := by
  have flat : ∀ (d : Nat) (row : List Nat) (below : Nat), d ≤ 20 → row.length = 2 ^ d → below ≤ leastR row → (∀ x ∈ row, x < 2 ^ 60) → leastR row = mostR row → PCalls Try.prog F_ref04_ETree [.fz 1 (ivs row) none, .int .i64 (below : Nat)] (xtv (E.lf (leastR row - below)).t) := by
    intro d row below hd hl hb hx hc
    have hpos : 0 < 2 ^ d := Nat.pow_pos (by omega)
    have hle : (2 : Nat) ^ d ≤ 2 ^ 20 := Nat.pow_le_pow_right (by omega) hd
    have hne : row ≠ [] := by intro h; rw [h] at hl; simp at hl; omega
    have c1 := refLeast_calls row hne (by omega)
    have c2 := refMost_calls row hne (by omega)
    have hlt := hx _ (leastR_mem hne)
    rw [← hc] at c2
    have w1 : IntKind.i64.wrap (((leastR row : Nat) : Int) - (below : Nat)) = ((leastR row - below : Nat) : Int) := by rw [IntKind.wrap_i64]; omega
    refine calls_ref04_ETree (walk0 100 trivial (fun A eA => ?_))
    simp (disch := first | omega | (simp only [avs_len, List.length_cons, List.length_append, List.length_nil, List.length_take, List.length_drop, List.length_map]; omega) | (simp only [cells, scal1, allSz, List.length_cons, List.length_nil, List.length_append, List.length_map, List.all_cons, List.all_nil, avs_len, beq_self_eq_true, Bool.and_self, and_self, or_true, true_or, reduceCtorEq, *]; done) | fail) only [c_ref04_ETree, go_sem, Nat.reduceAdd, Nat.reduceSub, Nat.reduceMul, Nat.reduceLT, Nat.reduceLeDiff, Int.reduceToNat, Nat.reduceEqDiff, Nat.reduceBEq, ↓reduceIte, reduceCtorEq, eA, scal1, List.all_cons, List.all_nil, Bool.and_self]
    repeat ((first | refine call0 100 trivial trivial (by first | exact c1 | exact c2) (by first | exact .inl rfl | exact .inr rfl) (fun A eA => ?_) | refine call1 100 trivial trivial (by first | exact c1 | exact c2) (fun A eA => ?_)); simp (disch := first | omega | (simp only [avs_len, List.length_cons, List.length_append, List.length_nil, List.length_take, List.length_drop, List.length_map]; omega) | (simp only [cells, scal1, allSz, List.length_cons, List.length_nil, List.length_append, List.length_map, List.all_cons, List.all_nil, avs_len, beq_self_eq_true, Bool.and_self, and_self, or_true, true_or, reduceCtorEq, *]; done) | fail) only [c_ref04_ETree, go_sem, Nat.reduceAdd, Nat.reduceSub, Nat.reduceMul, Nat.reduceLT, Nat.reduceLeDiff, Int.reduceToNat, Nat.reduceEqDiff, Nat.reduceBEq, ↓reduceIte, reduceCtorEq, eA, scal1, List.all_cons, List.all_nil, Bool.and_self, w1])
    exact doneW rfl (xwk_leaf _)
  intro d
  induction d with
  | zero =>
    intro row below hd hl hb hx
    match row, hl with
    | [x], _ => exact flat 0 [x] below hd rfl hb hx (by simp [leastR, mostR])
  | succ d ih =>
    intro row below hd hl hb hx
    by_cases hc : leastR row = mostR row
    · simp only [treeE]
      rw [if_pos hc]
      exact flat (d + 1) row below hd hl hb hx hc
    · simp only [treeE]
      rw [if_neg hc]
      have hpos : 0 < 2 ^ d := Nat.pow_pos (by omega)
      have hle : (2 : Nat) ^ (d + 1) ≤ 2 ^ 20 := Nat.pow_le_pow_right (by omega) hd
      have e : 2 ^ (d + 1) / 2 = 2 ^ d := by rw [Nat.pow_succ]; omega
      have e2 : 2 ^ (d + 1) - 2 ^ d = 2 ^ d := by rw [Nat.pow_succ]; omega
      have e3 : 2 ^ d ≤ 2 ^ (d + 1) := Nat.pow_le_pow_right (by omega) (by omega)
      have hne : row ≠ [] := by intro h; rw [h] at hl; simp at hl; omega
      have lt1 : (row.take (2 ^ d)).length = 2 ^ d := by rw [List.length_take]; omega
      have lt2 : (row.drop (2 ^ d)).length = 2 ^ d := by rw [List.length_drop]; omega
      have ne1 : row.take (2 ^ d) ≠ [] := by intro h; rw [h] at lt1; simp at lt1; omega
      have ne2 : row.drop (2 ^ d) ≠ [] := by intro h; rw [h] at lt2; simp at lt2; omega
      have c1 := refLeast_calls row hne (by omega)
      have c2 := refMost_calls row hne (by omega)
      have k1 := ih (row.take (2 ^ d)) (leastR row) (by omega) lt1 (leastR_le_take ne1) (fun x h => hx x (List.mem_of_mem_take h))
      have k2 := ih (row.drop (2 ^ d)) (leastR row) (by omega) lt2 (leastR_le_drop ne2) (fun x h => hx x (List.mem_of_mem_drop h))
      simp only [ivs, List.map_take] at k1
      simp only [ivs, List.map_drop] at k2
      have hlt := hx _ (leastR_mem hne)
      have w1 : IntKind.i64.wrap (((leastR row : Nat) : Int) - (below : Nat)) = ((leastR row - below : Nat) : Int) := by rw [IntKind.wrap_i64]; omega
      have q1 : (row.length : Int).tdiv 2 = ((2 ^ d : Nat) : Int) := by rw [Int.tdiv_eq_ediv_of_nonneg (by omega), hl, ← e]; omega
      generalize hK : (2 : Nat) ^ d = K at *
      have q2 : IntKind.i64.wrap (K : Int) = (K : Int) := by rw [IntKind.wrap_i64]; omega
      have hKl : K ≤ row.length := by omega
      have ht : List.take row.length (ivs row) = ivs row := by rw [List.take_of_length_le (by simp)]
      refine calls_ref04_ETree (walk0 100 trivial (fun A eA => ?_))
      simp (disch := first | omega | (simp only [avs_len, List.length_cons, List.length_append, List.length_nil, List.length_take, List.length_drop, List.length_map]; omega) | (simp only [cells, scal1, allSz, List.length_cons, List.length_nil, List.length_append, List.length_map, List.all_cons, List.all_nil, avs_len, beq_self_eq_true, Bool.and_self, and_self, or_true, true_or, reduceCtorEq, *]; done) | fail) only [c_ref04_ETree, go_sem, Nat.reduceAdd, Nat.reduceSub, Nat.reduceMul, Nat.reduceLT, Nat.reduceLeDiff, Int.reduceToNat, Nat.reduceEqDiff, Nat.reduceBEq, ↓reduceIte, reduceCtorEq, eA, scal1, List.all_cons, List.all_nil, Bool.and_self]
      refine call0 100 trivial trivial c1 (.inl rfl) (fun A eA => ?_)
      simp (disch := first | omega | (simp only [avs_len, List.length_cons, List.length_append, List.length_nil, List.length_take, List.length_drop, List.length_map]; omega) | (simp only [cells, scal1, allSz, List.length_cons, List.length_nil, List.length_append, List.length_map, List.all_cons, List.all_nil, avs_len, beq_self_eq_true, Bool.and_self, and_self, or_true, true_or, reduceCtorEq, *]; done) | fail) only [c_ref04_ETree, go_sem, Nat.reduceAdd, Nat.reduceSub, Nat.reduceMul, Nat.reduceLT, Nat.reduceLeDiff, Int.reduceToNat, Nat.reduceEqDiff, Nat.reduceBEq, ↓reduceIte, reduceCtorEq, eA, scal1, List.all_cons, List.all_nil, Bool.and_self]
      refine call0 100 trivial trivial c2 (.inl rfl) (fun A eA => ?_)
      simp (disch := first | omega | (simp only [avs_len, List.length_cons, List.length_append, List.length_nil, List.length_take, List.length_drop, List.length_map]; omega) | (simp only [cells, scal1, allSz, List.length_cons, List.length_nil, List.length_append, List.length_map, List.all_cons, List.all_nil, avs_len, beq_self_eq_true, Bool.and_self, and_self, or_true, true_or, reduceCtorEq, *]; done) | fail) only [c_ref04_ETree, go_sem, Nat.reduceAdd, Nat.reduceSub, Nat.reduceMul, Nat.reduceLT, Nat.reduceLeDiff, Int.reduceToNat, Nat.reduceEqDiff, Nat.reduceBEq, ↓reduceIte, reduceCtorEq, eA, scal1, List.all_cons, List.all_nil, Bool.and_self, w1, List.length_map, q1, q2, Int.toNat_natCast]
      refine call0 100 trivial trivial k1 (.inl rfl) (fun A eA => ?_)
      simp (disch := first | omega | (simp only [avs_len, List.length_cons, List.length_append, List.length_nil, List.length_take, List.length_drop, List.length_map]; omega) | (simp only [cells, scal1, allSz, List.length_cons, List.length_nil, List.length_append, List.length_map, List.all_cons, List.all_nil, avs_len, beq_self_eq_true, Bool.and_self, and_self, or_true, true_or, reduceCtorEq, *]; done) | fail) only [c_ref04_ETree, go_sem, Nat.reduceAdd, Nat.reduceSub, Nat.reduceMul, Nat.reduceLT, Nat.reduceLeDiff, Int.reduceToNat, Nat.reduceEqDiff, Nat.reduceBEq, ↓reduceIte, reduceCtorEq, eA, scal1, List.all_cons, List.all_nil, Bool.and_self, w1, List.length_map, q1, q2, Int.toNat_natCast, ht]
      refine call0 100 trivial trivial k2 (.inl rfl) (fun A eA => ?_)
      simp (disch := first | omega | (simp only [avs_len, List.length_cons, List.length_append, List.length_nil, List.length_take, List.length_drop, List.length_map]; omega) | (simp only [cells, scal1, allSz, List.length_cons, List.length_nil, List.length_append, List.length_map, List.all_cons, List.all_nil, avs_len, beq_self_eq_true, Bool.and_self, and_self, or_true, true_or, reduceCtorEq, *]; done) | fail) only [c_ref04_ETree, go_sem, Nat.reduceAdd, Nat.reduceSub, Nat.reduceMul, Nat.reduceLT, Nat.reduceLeDiff, Int.reduceToNat, Nat.reduceEqDiff, Nat.reduceBEq, ↓reduceIte, reduceCtorEq, eA, scal1, List.all_cons, List.all_nil, Bool.and_self, allSz, cells, beq_self_eq_true]
      exact doneW rfl (xwk_two _ _ _)
theorem xtree_join (a b : E) (x1 : a.dep ≤ 8) (x3 : a.short = true) (x4 : a.small = true) (y1 : b.dep ≤ 8) (y3 : b.short = true) (y4 : b.small = true) : PCalls Try.prog F_ref04_ETree [.fz 1 (ivs (List.zipWith max (rowE 7 a) (rowE 7 b))) none, .int .i64 0] (xtv (joinE 7 a b).t) := by
  have h := ETree_calls 7 (List.zipWith max (rowE 7 a) (rowE 7 b)) 0 (by omega) (by simp [rowE_len]) (by omega) (fun x hx => by
    rw [← rows_joinE 7 a b (by omega) (by omega)] at hx
    have := rowE_top 7 _ x hx
    have := joinE_top 7 a b
    have := xtop_rt x1 x4
    have := xtop_rt y1 y4
    omega)
  rwa [tree_joinE 7 a b x3 y3 (by omega) (by omega)] at h
end Go.Proofs.Ytmokhopjnjecbab
/- The functions' bodies, compiled; printed by a program of mine (gen.py); that they are is checked here. -/
namespace Go.Proofs.Ytmokhopjnjecbab
open Go.Ev
set_option maxRecDepth 100000

/-- pedlar/pedlarlaw05.awake: parameters [], results [.t 0], calls event_Tell -/
def c_law05_awake : Cd := (.seq (.reg [⟨(some 0), none, .mv, [.c (.bool false)]⟩]) (.seq (.reg [⟨(some 4), none, (.bld [(.bool false), .nils] [(0, 1)]), [.c (.bool true)]⟩, ⟨(some 5), none, (.bld [(.int .i64 0), .nils] []), []⟩, ⟨(some 6), none, (.call F_event_Tell 0), [.t 4, .t 5]⟩, ⟨(some 3), none, .mv, [.t 6]⟩, ⟨(some 7), none, (.ext 0), [.t 3]⟩, ⟨(some 8), none, (.ext 1), [.t 3]⟩, ⟨(some 1), none, (.new [(.int .i64 0), .nils] 1), []⟩, ⟨none, none, (.st 2), [.t 1, .t 7]⟩, ⟨(some 2), none, .mv, [.t 8]⟩]) (.seq (.reg [⟨(some 9), none, .mv, [.t 2]⟩, ⟨(some 10), none, (.bin .eql), [.t 9, .c (.int .i64 0)]⟩, ⟨(some 11), none, .mv, [.t 10]⟩, ⟨(some 12), (some (11, true)), (.fa 0), [.t 1]⟩, ⟨(some 13), (some (11, true)), .ld1, [.t 12]⟩, ⟨(some 14), (some (11, true)), (.bin .eql), [.t 13, .c (.int .i64 1)]⟩, ⟨(some 15), none, .pick, [.t 11, .t 14, .c (.bool false)]⟩, ⟨(some 0), none, .mv, [.t 15]⟩]) .ret)))
theorem comp_law05_awake : compF Try.prog (mset [] [] []) (cset [] [] []) (wset [] []) Try.f34 = some c_law05_awake := by kernel_rfl
theorem ok_law05_awake : fnOk Try.prog F_law05_awake = true := by kernel_rfl
theorem calls_law05_awake {args : List AV} {r : AV} (h : RunsX Try.prog 0 (Gives [.t 0] r) [.c c_law05_awake] (args ++ List.replicate (16 - args.length) (.tup [])) [] zeroC) : PCalls Try.prog F_law05_awake args r :=
  pcallsF Try.checked.mixed Try.func34 ok_law05_awake comp_law05_awake rfl (rs := [.t 0]) (by kernel_rfl) h
theorem hcalls_law05_awake {args : List AV} {Hin Hout : Heap} {nx nx2 : Ctr} {r : AV} (φ : Nat) (ks : List (Nat × Nat)) (h : RunsX Try.prog φ (GivesH ks [.t 0] r Hout nx2) [.c c_law05_awake] (args ++ List.replicate (16 - args.length) (.tup [])) Hin nx) : HCalls Try.prog F_law05_awake args Hin nx r Hout nx2 :=
  hcallsF Try.checked.mixed Try.func34 ok_law05_awake comp_law05_awake rfl (rs := [.t 0]) (by kernel_rfl) φ ks h

/-- pedlar/pedlarlaw05.EventJoins: parameters [42, 42], results [.t 4], calls law05_awake, law05_Few, event_Join, ref04_ERight, event_Leq, ref04_ERow, ref04_Leq, ref04_Max, ref04_ETree, ref04_ESame -/
def c_law05_EventJoins : Cd := (.seq (.reg [⟨(some 2), none, .box, [.t 0]⟩, ⟨(some 3), none, .box, [.t 1]⟩, ⟨(some 4), none, .mv, [.c (.bool false)]⟩]) (.seq (.seq (.reg [⟨(some 10), none, (.call F_law05_awake 0), []⟩, ⟨(some 11), none, .not, [.t 10]⟩, ⟨(some 12), none, .mv, [.t 11]⟩, ⟨(some 13), (some (12, false)), (.ldn 2), [.t 2]⟩, ⟨(some 14), (some (12, false)), (.call F_law05_Few 0), [.t 13, .c (.int .i64 30)]⟩, ⟨(some 15), (some (12, false)), .not, [.t 14]⟩, ⟨(some 16), none, .pick, [.t 12, .c (.bool true), .t 15]⟩, ⟨(some 17), none, .mv, [.t 16]⟩, ⟨(some 18), (some (17, false)), (.ldn 2), [.t 3]⟩, ⟨(some 19), (some (17, false)), (.call F_law05_Few 0), [.t 18, .c (.int .i64 30)]⟩, ⟨(some 20), (some (17, false)), .not, [.t 19]⟩, ⟨(some 21), none, .pick, [.t 17, .c (.bool true), .t 20]⟩]) (.cond (.t 21) (.seq (.reg [⟨(some 22), none, (.call F_law05_awake 0), []⟩, ⟨(some 4), none, .mv, [.t 22]⟩]) .ret) .skip)) (.seq (.reg [⟨(some 24), none, (.ldn 2), [.t 2]⟩, ⟨(some 25), none, (.ldn 2), [.t 3]⟩, ⟨(some 26), none, (.call F_event_Join 0), [.t 24, .t 25]⟩, ⟨(some 23), none, .mv, [.t 26]⟩, ⟨(some 27), none, (.ext 0), [.t 23]⟩, ⟨(some 28), none, (.ext 1), [.t 23]⟩, ⟨(some 5), none, (.new [(.int .i64 0), .nils] 5), []⟩, ⟨none, none, (.st 2), [.t 5, .t 27]⟩, ⟨(some 6), none, .mv, [.t 28]⟩]) (.seq (.seq (.reg [⟨(some 29), none, (.ldn 2), [.t 2]⟩, ⟨(some 30), none, (.call F_ref04_ERight 0), [.t 29]⟩, ⟨(some 31), none, .not, [.t 30]⟩, ⟨(some 32), none, .mv, [.t 31]⟩, ⟨(some 33), (some (32, false)), (.ldn 2), [.t 3]⟩, ⟨(some 34), (some (32, false)), (.call F_ref04_ERight 0), [.t 33]⟩, ⟨(some 35), (some (32, false)), .not, [.t 34]⟩, ⟨(some 36), none, .pick, [.t 32, .c (.bool true), .t 35]⟩]) (.cond (.t 36) (.seq (.reg [⟨(some 37), none, .mv, [.t 6]⟩, ⟨(some 38), none, (.bin .eql), [.t 37, .c (.int .i64 1)]⟩, ⟨(some 39), none, .mv, [.t 38]⟩, ⟨(some 40), (some (39, true)), (.fa 0), [.t 5]⟩, ⟨(some 41), (some (39, true)), .ld1, [.t 40]⟩, ⟨(some 42), (some (39, true)), (.bin .eql), [.t 41, .c (.int .i64 0)]⟩, ⟨(some 43), none, .pick, [.t 39, .t 42, .c (.bool false)]⟩, ⟨(some 44), none, .mv, [.t 43]⟩, ⟨(some 45), (some (44, true)), (.fa 1), [.t 5]⟩, ⟨(some 46), (some (44, true)), .ld1, [.t 45]⟩, ⟨(some 47), (some (44, true)), .len, [.t 46]⟩, ⟨(some 48), (some (44, true)), (.bin .eql), [.t 47, .c (.int .i64 0)]⟩, ⟨(some 49), none, .pick, [.t 44, .t 48, .c (.bool false)]⟩, ⟨(some 50), none, .mv, [.t 49]⟩, ⟨(some 51), (some (50, true)), (.ldn 2), [.t 2]⟩, ⟨(some 52), (some (50, true)), (.ldn 2), [.t 3]⟩, ⟨(some 53), (some (50, true)), (.call F_event_Leq 0), [.t 51, .t 52]⟩, ⟨(some 54), (some (50, true)), .not, [.t 53]⟩, ⟨(some 55), none, .pick, [.t 50, .t 54, .c (.bool false)]⟩, ⟨(some 4), none, .mv, [.t 55]⟩]) .ret) .skip)) (.seq (.reg [⟨(some 56), none, (.ldn 2), [.t 2]⟩, ⟨(some 57), none, (.call F_ref04_ERow 0), [.t 56]⟩, ⟨(some 58), none, (.ldn 2), [.t 3]⟩, ⟨(some 59), none, (.call F_ref04_ERow 0), [.t 58]⟩, ⟨(some 7), none, .mv, [.t 57]⟩, ⟨(some 8), none, .mv, [.t 59]⟩]) (.seq (.seq (.reg [⟨(some 60), none, (.ldn 2), [.t 2]⟩, ⟨(some 61), none, (.ldn 2), [.t 3]⟩, ⟨(some 62), none, (.call F_event_Leq 0), [.t 60, .t 61]⟩, ⟨(some 63), none, .mv, [.t 7]⟩, ⟨(some 64), none, .mv, [.t 8]⟩, ⟨(some 65), none, (.call F_ref04_Leq 0), [.t 63, .t 64]⟩, ⟨(some 66), none, (.eqb true), [.t 62, .t 65]⟩]) (.cond (.t 66) (.seq (.reg [⟨(some 4), none, .mv, [.c (.bool false)]⟩]) .ret) .skip)) (.seq (.reg [⟨(some 67), none, .mv, [.t 7]⟩, ⟨(some 68), none, .mv, [.t 8]⟩, ⟨(some 69), none, (.call F_ref04_Max 0), [.t 67, .t 68]⟩, ⟨(some 70), none, (.call F_ref04_ETree 0), [.t 69, .c (.int .i64 0)]⟩, ⟨(some 9), none, (.new [(.int .i64 0), .nils] 9), []⟩, ⟨none, none, (.st 2), [.t 9, .t 70]⟩]) (.seq (.seq (.reg [⟨(some 71), none, (.ldn 2), [.t 9]⟩, ⟨(some 72), none, (.call F_ref04_ERight 0), [.t 71]⟩, ⟨(some 73), none, .not, [.t 72]⟩]) (.cond (.t 73) (.seq (.reg [⟨(some 74), none, .mv, [.t 6]⟩, ⟨(some 75), none, (.bin .eql), [.t 74, .c (.int .i64 9)]⟩, ⟨(some 76), none, .mv, [.t 75]⟩, ⟨(some 77), (some (76, true)), (.fa 0), [.t 5]⟩, ⟨(some 78), (some (76, true)), .ld1, [.t 77]⟩, ⟨(some 79), (some (76, true)), (.bin .eql), [.t 78, .c (.int .i64 0)]⟩, ⟨(some 80), none, .pick, [.t 76, .t 79, .c (.bool false)]⟩, ⟨(some 81), none, .mv, [.t 80]⟩, ⟨(some 82), (some (81, true)), (.fa 1), [.t 5]⟩, ⟨(some 83), (some (81, true)), .ld1, [.t 82]⟩, ⟨(some 84), (some (81, true)), .len, [.t 83]⟩, ⟨(some 85), (some (81, true)), (.bin .eql), [.t 84, .c (.int .i64 0)]⟩, ⟨(some 86), none, .pick, [.t 81, .t 85, .c (.bool false)]⟩, ⟨(some 4), none, .mv, [.t 86]⟩]) .ret) .skip)) (.seq (.reg [⟨(some 87), none, .mv, [.t 6]⟩, ⟨(some 88), none, (.bin .eql), [.t 87, .c (.int .i64 0)]⟩, ⟨(some 89), none, .mv, [.t 88]⟩, ⟨(some 90), (some (89, true)), (.ldn 2), [.t 5]⟩, ⟨(some 91), (some (89, true)), (.ldn 2), [.t 9]⟩, ⟨(some 92), (some (89, true)), (.call F_ref04_ESame 0), [.t 90, .t 91]⟩, ⟨(some 93), none, .pick, [.t 89, .t 92, .c (.bool false)]⟩, ⟨(some 4), none, .mv, [.t 93]⟩]) .ret)))))))))
theorem comp_law05_EventJoins : compF Try.prog (mset [] [] []) (cset [] [] []) (wset [] []) Try.f6 = some c_law05_EventJoins := by kernel_rfl
theorem ok_law05_EventJoins : fnOk Try.prog F_law05_EventJoins = true := by kernel_rfl
theorem calls_law05_EventJoins {args : List AV} {r : AV} (h : RunsX Try.prog 0 (Gives [.t 4] r) [.c c_law05_EventJoins] (args ++ List.replicate (94 - args.length) (.tup [])) [] zeroC) : PCalls Try.prog F_law05_EventJoins args r :=
  pcallsF Try.checked.mixed Try.func6 ok_law05_EventJoins comp_law05_EventJoins rfl (rs := [.t 4]) (by kernel_rfl) h
theorem hcalls_law05_EventJoins {args : List AV} {Hin Hout : Heap} {nx nx2 : Ctr} {r : AV} (φ : Nat) (ks : List (Nat × Nat)) (h : RunsX Try.prog φ (GivesH ks [.t 4] r Hout nx2) [.c c_law05_EventJoins] (args ++ List.replicate (94 - args.length) (.tup [])) Hin nx) : HCalls Try.prog F_law05_EventJoins args Hin nx r Hout nx2 :=
  hcallsF Try.checked.mixed Try.func6 ok_law05_EventJoins comp_law05_EventJoins rfl (rs := [.t 4]) (by kernel_rfl) φ ks h

/-- pedlar/event.Tell: parameters [24, 42], results [.cn 4 2, .t 5], calls ident_Right, ident_Nothing, event_Right, event_fill, event_Same, event_grow, event_told -/
def c_event_Tell : Cd := (.seq (.reg [⟨(some 2), none, .box, [.t 0]⟩, ⟨(some 3), none, .box, [.t 1]⟩, ⟨(some 4), none, (.new [(.int .i64 0), .nils] 4), []⟩, ⟨(some 5), none, .mv, [.c (.int .i64 0)]⟩]) (.seq (.seq (.reg [⟨(some 7), none, (.ldn 2), [.t 2]⟩, ⟨(some 8), none, (.call F_ident_Right 0), [.t 7]⟩, ⟨(some 9), none, .not, [.t 8]⟩, ⟨(some 10), none, .mv, [.t 9]⟩, ⟨(some 11), (some (10, false)), (.ldn 2), [.t 2]⟩, ⟨(some 12), (some (10, false)), (.call F_ident_Nothing 0), [.t 11]⟩, ⟨(some 13), none, .pick, [.t 10, .c (.bool true), .t 12]⟩, ⟨(some 14), none, .mv, [.t 13]⟩, ⟨(some 15), (some (14, false)), (.ldn 2), [.t 3]⟩, ⟨(some 16), (some (14, false)), (.call F_event_Right 0), [.t 15]⟩, ⟨(some 17), (some (14, false)), .not, [.t 16]⟩, ⟨(some 18), none, .pick, [.t 14, .c (.bool true), .t 17]⟩]) (.cond (.t 18) (.seq (.reg [⟨(some 19), none, (.bld [(.int .i64 0), .nils] []), []⟩, ⟨none, none, (.st 2), [.t 4, .t 19]⟩, ⟨(some 5), none, .mv, [.c (.int .i64 1)]⟩]) .ret) .skip)) (.seq (.reg [⟨(some 20), none, (.ldn 2), [.t 2]⟩, ⟨(some 21), none, (.ldn 2), [.t 3]⟩, ⟨(some 22), none, (.call F_event_fill 0), [.t 20, .t 21]⟩, ⟨(some 6), none, (.new [(.int .i64 0), .nils] 6), []⟩, ⟨none, none, (.st 2), [.t 6, .t 22]⟩]) (.seq (.seq (.reg [⟨(some 23), none, (.ldn 2), [.t 6]⟩, ⟨(some 24), none, (.ldn 2), [.t 3]⟩, ⟨(some 25), none, (.call F_event_Same 0), [.t 23, .t 24]⟩]) (.cond (.t 25) (.reg [⟨(some 27), none, (.ldn 2), [.t 2]⟩, ⟨(some 28), none, (.ldn 2), [.t 3]⟩, ⟨(some 29), none, (.call F_event_grow 0), [.t 27, .t 28]⟩, ⟨(some 26), none, .mv, [.t 29]⟩, ⟨(some 30), none, (.ext 0), [.t 26]⟩, ⟨(some 31), none, (.ext 1), [.t 26]⟩, ⟨none, none, (.st 2), [.t 6, .t 30]⟩]) .skip)) (.seq (.reg [⟨(some 32), none, (.ldn 2), [.t 6]⟩, ⟨(some 33), none, (.call F_event_told 0), [.t 32]⟩, ⟨(some 34), none, (.ext 0), [.t 33]⟩, ⟨(some 35), none, (.ext 1), [.t 33]⟩, ⟨none, none, (.st 2), [.t 4, .t 34]⟩, ⟨(some 5), none, .mv, [.t 35]⟩]) .ret)))))
theorem comp_event_Tell : compF Try.prog (mset [] [] []) (cset [] [] []) (wset [] []) Try.f36 = some c_event_Tell := by kernel_rfl
theorem ok_event_Tell : fnOk Try.prog F_event_Tell = true := by kernel_rfl
theorem calls_event_Tell {args : List AV} {r : AV} (h : RunsX Try.prog 0 (Gives [.cn 4 2, .t 5] r) [.c c_event_Tell] (args ++ List.replicate (36 - args.length) (.tup [])) [] zeroC) : PCalls Try.prog F_event_Tell args r :=
  pcallsF Try.checked.mixed Try.func36 ok_event_Tell comp_event_Tell rfl (rs := [.cn 4 2, .t 5]) (by kernel_rfl) h
theorem hcalls_event_Tell {args : List AV} {Hin Hout : Heap} {nx nx2 : Ctr} {r : AV} (φ : Nat) (ks : List (Nat × Nat)) (h : RunsX Try.prog φ (GivesH ks [.cn 4 2, .t 5] r Hout nx2) [.c c_event_Tell] (args ++ List.replicate (36 - args.length) (.tup [])) Hin nx) : HCalls Try.prog F_event_Tell args Hin nx r Hout nx2 :=
  hcallsF Try.checked.mixed Try.func36 ok_event_Tell comp_event_Tell rfl (rs := [.cn 4 2, .t 5]) (by kernel_rfl) φ ks h

/-- pedlar/event.fill: parameters [24, 42], results [.cn 4 2], calls event_greatest, event_leaf, event_fill, event_node -/
def c_event_fill : Cd := (.seq (.reg [⟨(some 2), none, .box, [.t 0]⟩, ⟨(some 3), none, .box, [.t 1]⟩, ⟨(some 4), none, (.new [(.int .i64 0), .nils] 4), []⟩]) (.seq (.blk 0 [] (.seq (.reg [⟨(some 12), none, (.fa 1), [.t 2]⟩, ⟨(some 13), none, .ld1, [.t 12]⟩, ⟨(some 14), none, .len, [.t 13]⟩, ⟨(some 15), none, (.bin .eql), [.t 14, .c (.int .i64 0)]⟩, ⟨(some 16), none, .mv, [.t 15]⟩, ⟨(some 17), (some (16, true)), (.fa 0), [.t 2]⟩, ⟨(some 18), (some (16, true)), .ld1, [.t 17]⟩, ⟨(some 19), none, .pick, [.t 16, .t 18, .c (.bool false)]⟩, ⟨(some 11), none, .mv, [.t 19]⟩]) (.cond (.t 11) (.seq (.reg [⟨(some 20), none, (.ldn 2), [.t 3]⟩, ⟨(some 21), none, (.call F_event_greatest 0), [.t 20]⟩, ⟨(some 22), none, (.bld [(.int .i64 0), .nils] [(0, 1)]), [.t 21]⟩, ⟨none, none, (.st 2), [.t 4, .t 22]⟩]) .ret) (.seq (.reg [⟨(some 24), none, (.fa 1), [.t 2]⟩, ⟨(some 25), none, .ld1, [.t 24]⟩, ⟨(some 26), none, .len, [.t 25]⟩, ⟨(some 27), none, (.bin .eql), [.t 26, .c (.int .i64 0)]⟩, ⟨(some 28), none, .mv, [.t 27]⟩, ⟨(some 29), (some (28, false)), (.ldn 2), [.t 3]⟩, ⟨(some 30), (some (28, false)), (.call F_event_leaf 0), [.t 29]⟩, ⟨(some 31), none, .pick, [.t 28, .c (.bool true), .t 30]⟩, ⟨(some 23), none, .mv, [.t 31]⟩]) (.cond (.t 23) (.seq (.reg [⟨(some 32), none, (.ldn 2), [.t 3]⟩, ⟨none, none, (.st 2), [.t 4, .t 32]⟩]) .ret) .skip))))) (.seq (.reg [⟨(some 33), none, (.fa 1), [.t 3]⟩, ⟨(some 34), none, .ld1r, [.t 33]⟩, ⟨(some 35), none, (.ixS 2), [.t 34, .c (.int .i64 0)]⟩, ⟨(some 36), none, (.ldnr 2), [.t 35]⟩, ⟨(some 37), none, (.fa 1), [.t 3]⟩, ⟨(some 38), none, .ld1r, [.t 37]⟩, ⟨(some 39), none, (.ixS 2), [.t 38, .c (.int .i64 1)]⟩, ⟨(some 40), none, (.ldnr 2), [.t 39]⟩, ⟨(some 5), none, (.new [(.int .i64 0), .nils] 5), []⟩, ⟨(some 6), none, (.new [(.int .i64 0), .nils] 6), []⟩, ⟨none, none, (.stk 2 5), [.t 5, .t 36]⟩, ⟨none, none, (.stk 2 6), [.t 6, .t 40]⟩]) (.seq (.reg [⟨(some 41), none, (.fa 1), [.t 2]⟩, ⟨(some 42), none, .ld1r, [.t 41]⟩, ⟨(some 43), none, (.ixS 2), [.t 42, .c (.int .i64 0)]⟩, ⟨(some 44), none, (.ldnr 2), [.t 43]⟩, ⟨(some 45), none, (.fa 1), [.t 2]⟩, ⟨(some 46), none, .ld1r, [.t 45]⟩, ⟨(some 47), none, (.ixS 2), [.t 46, .c (.int .i64 1)]⟩, ⟨(some 48), none, (.ldnr 2), [.t 47]⟩, ⟨(some 7), none, (.new [(.bool false), .nils] 7), []⟩, ⟨(some 8), none, (.new [(.bool false), .nils] 8), []⟩, ⟨none, none, (.stk 2 7), [.t 7, .t 44]⟩, ⟨none, none, (.stk 2 8), [.t 8, .t 48]⟩]) (.seq (.blk 1 [] (.seq (.reg [⟨(some 50), none, (.fa 0), [.t 7]⟩, ⟨(some 51), none, .ld1, [.t 50]⟩, ⟨(some 49), none, .mv, [.t 51]⟩]) (.cond (.t 49) (.seq (.reg [⟨(some 52), none, (.ldn 2), [.t 8]⟩, ⟨(some 53), none, (.ldn 2), [.t 6]⟩, ⟨(some 54), none, (.call F_event_fill 0), [.t 52, .t 53]⟩, ⟨(some 9), none, (.new [(.int .i64 0), .nils] 9), []⟩, ⟨none, none, (.st 2), [.t 9, .t 54]⟩]) (.seq (.reg [⟨(some 55), none, (.fa 0), [.t 3]⟩, ⟨(some 56), none, .ld1, [.t 55]⟩, ⟨(some 57), none, (.ldn 2), [.t 5]⟩, ⟨(some 58), none, (.call F_event_greatest 0), [.t 57]⟩, ⟨(some 59), none, (.fa 0), [.t 9]⟩, ⟨(some 60), none, .ld1, [.t 59]⟩, ⟨(some 61), none, .mx, [.t 58, .t 60]⟩, ⟨(some 62), none, (.bld [(.int .i64 0), .nils] [(0, 1)]), [.t 61]⟩, ⟨(some 63), none, (.ldn 2), [.t 9]⟩, ⟨(some 64), none, (.call F_event_node 0), [.t 56, .t 62, .t 63]⟩, ⟨none, none, (.st 2), [.t 4, .t 64]⟩]) .ret)) (.seq (.reg [⟨(some 66), none, (.fa 0), [.t 8]⟩, ⟨(some 67), none, .ld1, [.t 66]⟩, ⟨(some 65), none, .mv, [.t 67]⟩]) (.cond (.t 65) (.seq (.reg [⟨(some 68), none, (.ldn 2), [.t 7]⟩, ⟨(some 69), none, (.ldn 2), [.t 5]⟩, ⟨(some 70), none, (.call F_event_fill 0), [.t 68, .t 69]⟩, ⟨(some 10), none, (.new [(.int .i64 0), .nils] 10), []⟩, ⟨none, none, (.st 2), [.t 10, .t 70]⟩]) (.seq (.reg [⟨(some 71), none, (.fa 0), [.t 3]⟩, ⟨(some 72), none, .ld1, [.t 71]⟩, ⟨(some 73), none, (.ldn 2), [.t 10]⟩, ⟨(some 74), none, (.ldn 2), [.t 6]⟩, ⟨(some 75), none, (.call F_event_greatest 0), [.t 74]⟩, ⟨(some 76), none, (.fa 0), [.t 10]⟩, ⟨(some 77), none, .ld1, [.t 76]⟩, ⟨(some 78), none, .mx, [.t 75, .t 77]⟩, ⟨(some 79), none, (.bld [(.int .i64 0), .nils] [(0, 1)]), [.t 78]⟩, ⟨(some 80), none, (.call F_event_node 0), [.t 72, .t 73, .t 79]⟩, ⟨none, none, (.st 2), [.t 4, .t 80]⟩]) .ret)) .skip))))) (.seq (.reg [⟨(some 81), none, (.fa 0), [.t 3]⟩, ⟨(some 82), none, .ld1, [.t 81]⟩, ⟨(some 83), none, (.ldn 2), [.t 7]⟩, ⟨(some 84), none, (.ldn 2), [.t 5]⟩, ⟨(some 85), none, (.call F_event_fill 0), [.t 83, .t 84]⟩, ⟨(some 86), none, (.ldn 2), [.t 8]⟩, ⟨(some 87), none, (.ldn 2), [.t 6]⟩, ⟨(some 88), none, (.call F_event_fill 0), [.t 86, .t 87]⟩, ⟨(some 89), none, (.call F_event_node 0), [.t 82, .t 85, .t 88]⟩, ⟨none, none, (.st 2), [.t 4, .t 89]⟩]) .ret))))))
theorem comp_event_fill : compF Try.prog (mset [] [34, 36, 38, 40, 42, 44, 46, 48] [5, 6, 7, 8]) (cset [] [] []) (wset [] []) Try.f100 = some c_event_fill := by kernel_rfl
theorem ok_event_fill : fnOk Try.prog F_event_fill = true := by kernel_rfl
theorem calls_event_fill {args : List AV} {r : AV} (h : RunsX Try.prog 0 (Gives [.cn 4 2] r) [.c c_event_fill] (args ++ List.replicate (90 - args.length) (.tup [])) [] zeroC) : PCalls Try.prog F_event_fill args r :=
  pcallsF Try.checked.mixed Try.func100 ok_event_fill comp_event_fill rfl (rs := [.cn 4 2]) (by kernel_rfl) h
theorem hcalls_event_fill {args : List AV} {Hin Hout : Heap} {nx nx2 : Ctr} {r : AV} (φ : Nat) (ks : List (Nat × Nat)) (h : RunsX Try.prog φ (GivesH ks [.cn 4 2] r Hout nx2) [.c c_event_fill] (args ++ List.replicate (90 - args.length) (.tup [])) Hin nx) : HCalls Try.prog F_event_fill args Hin nx r Hout nx2 :=
  hcallsF Try.checked.mixed Try.func100 ok_event_fill comp_event_fill rfl (rs := [.cn 4 2]) (by kernel_rfl) φ ks h

/-- pedlar/event.grow: parameters [24, 42], results [.cn 4 2, .t 5], calls event_lift, event_leaf, ident_Nothing, event_grow, event_node -/
def c_event_grow : Cd := (.seq (.reg [⟨(some 2), none, .box, [.t 0]⟩, ⟨(some 3), none, .box, [.t 1]⟩, ⟨(some 4), none, (.new [(.int .i64 0), .nils] 4), []⟩, ⟨(some 5), none, .mv, [.c (.int .i64 0)]⟩]) (.seq (.seq (.reg [⟨(some 14), none, (.fa 1), [.t 2]⟩, ⟨(some 15), none, .ld1, [.t 14]⟩, ⟨(some 16), none, .len, [.t 15]⟩, ⟨(some 17), none, (.bin .eql), [.t 16, .c (.int .i64 0)]⟩]) (.cond (.t 17) (.seq (.reg [⟨(some 18), none, (.ldn 2), [.t 3]⟩, ⟨(some 19), none, (.call F_event_lift 0), [.t 18, .c (.int .i64 1)]⟩, ⟨none, none, (.st 2), [.t 4, .t 19]⟩, ⟨(some 5), none, .mv, [.c (.int .i64 0)]⟩]) .ret) .skip)) (.seq (.reg [⟨(some 6), none, .mv, [.c (.int .i64 0)]⟩]) (.seq (.seq (.reg [⟨(some 20), none, (.ldn 2), [.t 3]⟩, ⟨(some 21), none, (.call F_event_leaf 0), [.t 20]⟩]) (.cond (.t 21) (.seq (.reg [⟨(some 6), none, .mv, [.c (.int .i64 1000)]⟩]) (.reg [⟨(some 22), none, (.fa 0), [.t 3]⟩, ⟨(some 23), none, .ld1, [.t 22]⟩, ⟨(some 24), none, (.bld [(.int .i64 0), .nils] []), []⟩, ⟨(some 25), none, (.bld [(.int .i64 0), .nils] []), []⟩, ⟨(some 26), none, (.lit 2 2), [.t 24, .t 25]⟩, ⟨(some 27), none, (.bld [(.int .i64 0), .nils] [(0, 1), (1, 1)]), [.t 23, .t 26]⟩, ⟨none, none, (.st 2), [.t 3, .t 27]⟩])) .skip)) (.seq (.reg [⟨(some 28), none, (.fa 1), [.t 3]⟩, ⟨(some 29), none, .ld1r, [.t 28]⟩, ⟨(some 30), none, (.ixS 2), [.t 29, .c (.int .i64 0)]⟩, ⟨(some 31), none, (.ldnr 2), [.t 30]⟩, ⟨(some 32), none, (.fa 1), [.t 3]⟩, ⟨(some 33), none, .ld1r, [.t 32]⟩, ⟨(some 34), none, (.ixS 2), [.t 33, .c (.int .i64 1)]⟩, ⟨(some 35), none, (.ldnr 2), [.t 34]⟩, ⟨(some 7), none, (.new [(.int .i64 0), .nils] 7), []⟩, ⟨(some 8), none, (.new [(.int .i64 0), .nils] 8), []⟩, ⟨none, none, (.stk 2 7), [.t 7, .t 31]⟩, ⟨none, none, (.stk 2 8), [.t 8, .t 35]⟩]) (.seq (.reg [⟨(some 9), none, (.new [(.int .i64 0), .nils] 9), []⟩]) (.seq (.reg [⟨(some 10), none, .mv, [.c (.int .i64 0)]⟩]) (.seq (.reg [⟨(some 11), none, .mv, [.c (.bool false)]⟩]) (.seq (.blk 0 [] (.seq (.reg [⟨(some 60), none, (.fa 1), [.t 2]⟩, ⟨(some 61), none, .ld1, [.t 60]⟩, ⟨(some 62), none, (.ixS 2), [.t 61, .c (.int .i64 0)]⟩, ⟨(some 63), none, (.ldn 2), [.t 62]⟩, ⟨(some 64), none, (.call F_ident_Nothing 0), [.t 63]⟩, ⟨(some 59), none, .mv, [.t 64]⟩]) (.cond (.t 59) (.reg [⟨(some 66), none, (.fa 1), [.t 2]⟩, ⟨(some 67), none, .ld1, [.t 66]⟩, ⟨(some 68), none, (.ixS 2), [.t 67, .c (.int .i64 1)]⟩, ⟨(some 69), none, (.ldn 2), [.t 68]⟩, ⟨(some 70), none, (.ldn 2), [.t 8]⟩, ⟨(some 71), none, (.call F_event_grow 0), [.t 69, .t 70]⟩, ⟨(some 65), none, .mv, [.t 71]⟩, ⟨(some 72), none, (.ext 0), [.t 65]⟩, ⟨(some 73), none, (.ext 1), [.t 65]⟩, ⟨none, none, (.st 2), [.t 9, .t 72]⟩, ⟨(some 10), none, .mv, [.t 73]⟩]) (.seq (.reg [⟨(some 75), none, (.fa 1), [.t 2]⟩, ⟨(some 76), none, .ld1, [.t 75]⟩, ⟨(some 77), none, (.ixS 2), [.t 76, .c (.int .i64 1)]⟩, ⟨(some 78), none, (.ldn 2), [.t 77]⟩, ⟨(some 79), none, (.call F_ident_Nothing 0), [.t 78]⟩, ⟨(some 74), none, .mv, [.t 79]⟩]) (.cond (.t 74) (.seq (.reg [⟨(some 81), none, (.fa 1), [.t 2]⟩, ⟨(some 82), none, .ld1, [.t 81]⟩, ⟨(some 83), none, (.ixS 2), [.t 82, .c (.int .i64 0)]⟩, ⟨(some 84), none, (.ldn 2), [.t 83]⟩, ⟨(some 85), none, (.ldn 2), [.t 7]⟩, ⟨(some 86), none, (.call F_event_grow 0), [.t 84, .t 85]⟩, ⟨(some 80), none, .mv, [.t 86]⟩, ⟨(some 87), none, (.ext 0), [.t 80]⟩, ⟨(some 88), none, (.ext 1), [.t 80]⟩, ⟨none, none, (.st 2), [.t 9, .t 87]⟩, ⟨(some 10), none, .mv, [.t 88]⟩]) (.reg [⟨(some 11), none, .mv, [.c (.bool true)]⟩])) (.seq (.reg [⟨none, none, .unk, []⟩]) (.seq (.reg [⟨(some 46), none, (.fa 1), [.t 2]⟩, ⟨(some 47), none, .ld1, [.t 46]⟩, ⟨(some 48), none, (.ixS 2), [.t 47, .c (.int .i64 1)]⟩, ⟨(some 49), none, (.ldn 2), [.t 48]⟩, ⟨(some 50), none, (.ldn 2), [.t 8]⟩, ⟨(some 51), none, (.call F_event_grow 0), [.t 49, .t 50]⟩, ⟨(some 45), none, .mv, [.t 51]⟩, ⟨(some 52), none, (.ext 0), [.t 45]⟩, ⟨(some 53), none, (.ext 1), [.t 45]⟩, ⟨none, none, (.st 2), [.t 9, .t 52]⟩, ⟨(some 10), none, .mv, [.t 53]⟩]) (.seq (.reg [⟨(some 54), none, .mv, [.t 13]⟩, ⟨(some 55), none, .mv, [.t 10]⟩, ⟨(some 56), none, (.bin .lss), [.t 54, .t 55]⟩]) (.cond (.t 56) (.reg [⟨(some 57), none, (.ldn 2), [.t 12]⟩, ⟨(some 58), none, .mv, [.t 13]⟩, ⟨none, none, (.st 2), [.t 9, .t 57]⟩, ⟨(some 10), none, .mv, [.t 58]⟩, ⟨(some 11), none, .mv, [.c (.bool true)]⟩]) .skip))))))))) (.seq (.seq (.reg [⟨(some 89), none, .mv, [.t 11]⟩]) (.cond (.t 89) (.seq (.reg [⟨(some 90), none, (.fa 0), [.t 3]⟩, ⟨(some 91), none, .ld1, [.t 90]⟩, ⟨(some 92), none, (.ldn 2), [.t 9]⟩, ⟨(some 93), none, (.ldn 2), [.t 8]⟩, ⟨(some 94), none, (.call F_event_node 0), [.t 91, .t 92, .t 93]⟩, ⟨(some 95), none, .mv, [.t 10]⟩, ⟨(some 96), none, (.bin .add), [.t 95, .c (.int .i64 1)]⟩, ⟨(some 97), none, .mv, [.t 6]⟩, ⟨(some 98), none, (.bin .add), [.t 96, .t 97]⟩, ⟨none, none, (.st 2), [.t 4, .t 94]⟩, ⟨(some 5), none, .mv, [.t 98]⟩]) .ret) .skip)) (.seq (.reg [⟨(some 99), none, (.fa 0), [.t 3]⟩, ⟨(some 100), none, .ld1, [.t 99]⟩, ⟨(some 101), none, (.ldn 2), [.t 7]⟩, ⟨(some 102), none, (.ldn 2), [.t 9]⟩, ⟨(some 103), none, (.call F_event_node 0), [.t 100, .t 101, .t 102]⟩, ⟨(some 104), none, .mv, [.t 10]⟩, ⟨(some 105), none, (.bin .add), [.t 104, .c (.int .i64 1)]⟩, ⟨(some 106), none, .mv, [.t 6]⟩, ⟨(some 107), none, (.bin .add), [.t 105, .t 106]⟩, ⟨none, none, (.st 2), [.t 4, .t 103]⟩, ⟨(some 5), none, .mv, [.t 107]⟩]) .ret)))))))))))
theorem comp_event_grow : compF Try.prog (mset [] [29, 31, 33, 35, 38, 40, 41] [7, 8, 12]) (cset [] [] []) (wset [] []) Try.f102 = some c_event_grow := by kernel_rfl
theorem ok_event_grow : fnOk Try.prog F_event_grow = true := by kernel_rfl
theorem calls_event_grow {args : List AV} {r : AV} (h : RunsX Try.prog 0 (Gives [.cn 4 2, .t 5] r) [.c c_event_grow] (args ++ List.replicate (108 - args.length) (.tup [])) [] zeroC) : PCalls Try.prog F_event_grow args r :=
  pcallsF Try.checked.mixed Try.func102 ok_event_grow comp_event_grow rfl (rs := [.cn 4 2, .t 5]) (by kernel_rfl) h
theorem hcalls_event_grow {args : List AV} {Hin Hout : Heap} {nx nx2 : Ctr} {r : AV} (φ : Nat) (ks : List (Nat × Nat)) (h : RunsX Try.prog φ (GivesH ks [.cn 4 2, .t 5] r Hout nx2) [.c c_event_grow] (args ++ List.replicate (108 - args.length) (.tup [])) Hin nx) : HCalls Try.prog F_event_grow args Hin nx r Hout nx2 :=
  hcallsF Try.checked.mixed Try.func102 ok_event_grow comp_event_grow rfl (rs := [.cn 4 2, .t 5]) (by kernel_rfl) φ ks h

/-- pedlar/event.greatest: parameters [42], results [.t 2], calls event_leaf, event_greatest -/
def c_event_greatest : Cd := (.seq (.reg [⟨(some 1), none, .box, [.t 0]⟩, ⟨(some 2), none, .mv, [.c (.int .i64 0)]⟩]) (.seq (.seq (.reg [⟨(some 3), none, (.ldn 2), [.t 1]⟩, ⟨(some 4), none, (.call F_event_leaf 0), [.t 3]⟩]) (.cond (.t 4) (.seq (.reg [⟨(some 5), none, (.fa 0), [.t 1]⟩, ⟨(some 6), none, .ld1, [.t 5]⟩, ⟨(some 2), none, .mv, [.t 6]⟩]) .ret) .skip)) (.seq (.reg [⟨(some 7), none, (.fa 0), [.t 1]⟩, ⟨(some 8), none, .ld1, [.t 7]⟩, ⟨(some 9), none, (.fa 1), [.t 1]⟩, ⟨(some 10), none, .ld1, [.t 9]⟩, ⟨(some 11), none, (.ixS 2), [.t 10, .c (.int .i64 0)]⟩, ⟨(some 12), none, (.ldn 2), [.t 11]⟩, ⟨(some 13), none, (.call F_event_greatest 0), [.t 12]⟩, ⟨(some 14), none, (.fa 1), [.t 1]⟩, ⟨(some 15), none, .ld1, [.t 14]⟩, ⟨(some 16), none, (.ixS 2), [.t 15, .c (.int .i64 1)]⟩, ⟨(some 17), none, (.ldn 2), [.t 16]⟩, ⟨(some 18), none, (.call F_event_greatest 0), [.t 17]⟩, ⟨(some 19), none, .mx, [.t 13, .t 18]⟩, ⟨(some 20), none, (.bin .add), [.t 8, .t 19]⟩, ⟨(some 2), none, .mv, [.t 20]⟩]) .ret)))
theorem comp_event_greatest : compF Try.prog (mset [] [] []) (cset [] [] []) (wset [] []) Try.f148 = some c_event_greatest := by kernel_rfl
theorem ok_event_greatest : fnOk Try.prog F_event_greatest = true := by kernel_rfl
theorem calls_event_greatest {args : List AV} {r : AV} (h : RunsX Try.prog 0 (Gives [.t 2] r) [.c c_event_greatest] (args ++ List.replicate (21 - args.length) (.tup [])) [] zeroC) : PCalls Try.prog F_event_greatest args r :=
  pcallsF Try.checked.mixed Try.func148 ok_event_greatest comp_event_greatest rfl (rs := [.t 2]) (by kernel_rfl) h
theorem hcalls_event_greatest {args : List AV} {Hin Hout : Heap} {nx nx2 : Ctr} {r : AV} (φ : Nat) (ks : List (Nat × Nat)) (h : RunsX Try.prog φ (GivesH ks [.t 2] r Hout nx2) [.c c_event_greatest] (args ++ List.replicate (21 - args.length) (.tup [])) Hin nx) : HCalls Try.prog F_event_greatest args Hin nx r Hout nx2 :=
  hcallsF Try.checked.mixed Try.func148 ok_event_greatest comp_event_greatest rfl (rs := [.t 2]) (by kernel_rfl) φ ks h

/-- pedlar/ident.Right: parameters [24], results [.t 2], calls ident_count, ident_short -/
def c_ident_Right : Cd := (.seq (.reg [⟨(some 1), none, .box, [.t 0]⟩, ⟨(some 2), none, .mv, [.c (.bool false)]⟩]) (.seq (.reg [⟨(some 3), none, (.ldn 2), [.t 1]⟩, ⟨(some 4), none, (.call F_ident_count 0), [.t 3, .c (.int .i64 8)]⟩, ⟨(some 5), none, (.bin .leq), [.t 4, .c (.int .i64 60)]⟩, ⟨(some 6), none, .mv, [.t 5]⟩, ⟨(some 7), (some (6, true)), (.ldn 2), [.t 1]⟩, ⟨(some 8), (some (6, true)), (.call F_ident_short 0), [.t 7]⟩, ⟨(some 9), none, .pick, [.t 6, .t 8, .c (.bool false)]⟩, ⟨(some 2), none, .mv, [.t 9]⟩]) .ret))
theorem comp_ident_Right : compF Try.prog (mset [] [] []) (cset [] [] []) (wset [] []) Try.f81 = some c_ident_Right := by kernel_rfl
theorem ok_ident_Right : fnOk Try.prog F_ident_Right = true := by kernel_rfl
theorem calls_ident_Right {args : List AV} {r : AV} (h : RunsX Try.prog 0 (Gives [.t 2] r) [.c c_ident_Right] (args ++ List.replicate (10 - args.length) (.tup [])) [] zeroC) : PCalls Try.prog F_ident_Right args r :=
  pcallsF Try.checked.mixed Try.func81 ok_ident_Right comp_ident_Right rfl (rs := [.t 2]) (by kernel_rfl) h
theorem hcalls_ident_Right {args : List AV} {Hin Hout : Heap} {nx nx2 : Ctr} {r : AV} (φ : Nat) (ks : List (Nat × Nat)) (h : RunsX Try.prog φ (GivesH ks [.t 2] r Hout nx2) [.c c_ident_Right] (args ++ List.replicate (10 - args.length) (.tup [])) Hin nx) : HCalls Try.prog F_ident_Right args Hin nx r Hout nx2 :=
  hcallsF Try.checked.mixed Try.func81 ok_ident_Right comp_ident_Right rfl (rs := [.t 2]) (by kernel_rfl) φ ks h

/-- pedlar/ident.count: parameters [24, 3], results [.t 4], calls ident_leaf, ident_count -/
def wl_ident_count_0 : Mk := ⟨[true, false, true, true, true, false, true, true, true, true, true, true, true, true, true, true, true, true, true, true, true, true, true, true, true, true, false, false, false, true, true, true, true, true, true, true, true, true, true, true, true, true], [7]⟩
abbrev s_ident_count_0 (t1 t5 t26 t27 t28 : AV) : List AV := [.any, t1, .any, .any, .any, t5, .any, .any, .any, .any, .any, .any, .any, .any, .any, .any, .any, .any, .any, .any, .any, .any, .any, .any, .any, .any, t26, t27, t28, .any, .any, .any, .any, .any, .any, .any, .any, .any, .any, .any, .any, .any]
def c_ident_count_l0 : Cd := (.seq (.reg [⟨(some 29), none, (.bin .lss), [.t 28, .t 27]⟩]) (.seq (.cond (.t 29) .skip (.exit 0)) (.seq (.blk 1 [] (.seq (.reg [⟨(some 30), none, (.ixS 2), [.t 26, .t 28]⟩, ⟨(some 31), none, (.ldn 2), [.t 30]⟩, ⟨(some 7), none, (.new [(.bool false), .nils] 7), []⟩, ⟨none, none, (.st 2), [.t 7, .t 31]⟩]) (.seq (.reg [⟨(some 32), none, .mv, [.t 5]⟩, ⟨(some 33), none, (.ldn 2), [.t 7]⟩, ⟨(some 34), none, .mv, [.t 1]⟩, ⟨(some 35), none, (.bin .sub), [.t 34, .c (.int .i64 1)]⟩, ⟨(some 36), none, (.call F_ident_count 0), [.t 33, .t 35]⟩, ⟨(some 37), none, (.bin .add), [.t 32, .t 36]⟩, ⟨(some 5), none, .mv, [.t 37]⟩]) (.seq (.reg [⟨(some 38), none, .mv, [.t 5]⟩, ⟨(some 39), none, (.bin .gtr), [.t 38, .c (.int .i64 60)]⟩]) (.cond (.t 39) (.seq (.reg [⟨(some 4), none, .mv, [.c (.int .i64 61)]⟩]) .ret) .skip))))) (.reg [⟨(some 40), none, (.bin .add), [.t 28, .c (.int .i64 1)]⟩, ⟨(some 28), none, .mv, [.t 40]⟩]))))
def wb_ident_count_0 : List Bool := [true, true, true, true, true, false, true, true, true, true, true, true, true, true, true, true, true, true, true, true, true, true, true, true, true, true, true, true, true, true, true, true, true, true, true, true, true, true, true, true, true, true]
abbrev e_ident_count_0 (t5 : AV) : List AV := [.any, .any, .any, .any, .any, t5, .any, .any, .any, .any, .any, .any, .any, .any, .any, .any, .any, .any, .any, .any, .any, .any, .any, .any, .any, .any, .any, .any, .any, .any, .any, .any, .any, .any, .any, .any, .any, .any, .any, .any, .any, .any]
abbrev i_ident_count_0 : List It := [.lp wl_ident_count_0 c_ident_count_l0, .blk 0 wb_ident_count_0]
def c_ident_count_k0 : Cd := (.seq (.reg [⟨(some 41), none, .mv, [.t 5]⟩, ⟨(some 4), none, .mv, [.t 41]⟩]) .ret)
def c_ident_count : Cd := (.seq (.reg [⟨(some 2), none, .box, [.t 0]⟩, ⟨(some 4), none, .mv, [.c (.int .i64 0)]⟩]) (.seq (.seq (.reg [⟨(some 8), none, .mv, [.t 1]⟩, ⟨(some 9), none, (.bin .lss), [.t 8, .c (.int .i64 1)]⟩, ⟨(some 10), none, .mv, [.t 9]⟩, ⟨(some 11), (some (10, false)), (.ldn 2), [.t 2]⟩, ⟨(some 12), (some (10, false)), (.call F_ident_leaf 0), [.t 11]⟩, ⟨(some 13), (some (10, false)), .not, [.t 12]⟩, ⟨(some 14), (some (10, false)), .mv, [.t 13]⟩, ⟨(some 15), (some (14, true)), (.fa 1), [.t 2]⟩, ⟨(some 16), (some (14, true)), .ld1, [.t 15]⟩, ⟨(some 17), (some (14, true)), .len, [.t 16]⟩, ⟨(some 18), (some (14, true)), (.bin .neq), [.t 17, .c (.int .i64 2)]⟩, ⟨(some 19), (some (14, true)), .mv, [.t 18]⟩, ⟨(some 20), (some (19, false)), (.fa 0), [.t 2]⟩, ⟨(some 21), (some (19, false)), .ld1, [.t 20]⟩, ⟨(some 22), (some (14, true)), .pick, [.t 19, .c (.bool true), .t 21]⟩, ⟨(some 23), (some (10, false)), .pick, [.t 14, .t 22, .c (.bool false)]⟩, ⟨(some 24), none, .pick, [.t 10, .c (.bool true), .t 23]⟩]) (.cond (.t 24) (.seq (.reg [⟨(some 4), none, .mv, [.c (.int .i64 61)]⟩]) .ret) .skip)) (.seq (.reg [⟨(some 5), none, .mv, [.c (.int .i64 1)]⟩]) (.seq (.seq (.reg [⟨(some 25), none, (.fa 1), [.t 2]⟩, ⟨(some 26), none, .ld1, [.t 25]⟩, ⟨(some 27), none, .len, [.t 26]⟩, ⟨(some 28), none, .mv, [.c (.int .i64 0)]⟩]) (.blk 0 wb_ident_count_0 (.loop wl_ident_count_0 c_ident_count_l0))) c_ident_count_k0))))
theorem comp_ident_count : compF Try.prog (mset [] [] []) (cset [] [] []) (wset [(0, wl_ident_count_0, wb_ident_count_0)] []) Try.f140 = some c_ident_count := by kernel_rfl
theorem ok_ident_count : fnOk Try.prog F_ident_count = true := by kernel_rfl
theorem calls_ident_count {args : List AV} {r : AV} (h : RunsX Try.prog 0 (Gives [.t 4] r) [.c c_ident_count] (args ++ List.replicate (42 - args.length) (.tup [])) [] zeroC) : PCalls Try.prog F_ident_count args r :=
  pcallsF Try.checked.mixed Try.func140 ok_ident_count comp_ident_count rfl (rs := [.t 4]) (by kernel_rfl) h
theorem hcalls_ident_count {args : List AV} {Hin Hout : Heap} {nx nx2 : Ctr} {r : AV} (φ : Nat) (ks : List (Nat × Nat)) (h : RunsX Try.prog φ (GivesH ks [.t 4] r Hout nx2) [.c c_ident_count] (args ++ List.replicate (42 - args.length) (.tup [])) Hin nx) : HCalls Try.prog F_ident_count args Hin nx r Hout nx2 :=
  hcallsF Try.checked.mixed Try.func140 ok_ident_count comp_ident_count rfl (rs := [.t 4]) (by kernel_rfl) φ ks h

/-- pedlar/ident.short: parameters [24], results [.t 2], calls ident_leaf, ident_short -/
def c_ident_short : Cd := (.seq (.reg [⟨(some 1), none, .box, [.t 0]⟩, ⟨(some 2), none, .mv, [.c (.bool false)]⟩]) (.seq (.seq (.reg [⟨(some 5), none, (.ldn 2), [.t 1]⟩, ⟨(some 6), none, (.call F_ident_leaf 0), [.t 5]⟩]) (.cond (.t 6) (.seq (.reg [⟨(some 2), none, .mv, [.c (.bool true)]⟩]) .ret) .skip)) (.seq (.reg [⟨(some 7), none, (.fa 1), [.t 1]⟩, ⟨(some 8), none, .ld1r, [.t 7]⟩, ⟨(some 9), none, (.ixS 2), [.t 8, .c (.int .i64 0)]⟩, ⟨(some 10), none, (.ldnr 2), [.t 9]⟩, ⟨(some 11), none, (.fa 1), [.t 1]⟩, ⟨(some 12), none, .ld1r, [.t 11]⟩, ⟨(some 13), none, (.ixS 2), [.t 12, .c (.int .i64 1)]⟩, ⟨(some 14), none, (.ldnr 2), [.t 13]⟩, ⟨(some 3), none, (.new [(.bool false), .nils] 3), []⟩, ⟨(some 4), none, (.new [(.bool false), .nils] 4), []⟩, ⟨none, none, (.stk 2 3), [.t 3, .t 10]⟩, ⟨none, none, (.stk 2 4), [.t 4, .t 14]⟩]) (.seq (.reg [⟨(some 15), none, (.ldn 2), [.t 3]⟩, ⟨(some 16), none, (.call F_ident_short 0), [.t 15]⟩, ⟨(some 17), none, .mv, [.t 16]⟩, ⟨(some 18), (some (17, true)), (.ldn 2), [.t 4]⟩, ⟨(some 19), (some (17, true)), (.call F_ident_short 0), [.t 18]⟩, ⟨(some 20), none, .pick, [.t 17, .t 19, .c (.bool false)]⟩, ⟨(some 21), none, .mv, [.t 20]⟩, ⟨(some 22), (some (21, true)), (.ldn 2), [.t 3]⟩, ⟨(some 23), (some (21, true)), (.call F_ident_leaf 0), [.t 22]⟩, ⟨(some 24), (some (21, true)), .mv, [.t 23]⟩, ⟨(some 25), (some (24, true)), (.ldn 2), [.t 4]⟩, ⟨(some 26), (some (24, true)), (.call F_ident_leaf 0), [.t 25]⟩, ⟨(some 27), (some (21, true)), .pick, [.t 24, .t 26, .c (.bool false)]⟩, ⟨(some 28), (some (21, true)), .mv, [.t 27]⟩, ⟨(some 29), (some (28, true)), (.fa 0), [.t 3]⟩, ⟨(some 30), (some (28, true)), .ld1, [.t 29]⟩, ⟨(some 31), (some (28, true)), (.fa 0), [.t 4]⟩, ⟨(some 32), (some (28, true)), .ld1, [.t 31]⟩, ⟨(some 33), (some (28, true)), (.eqb false), [.t 30, .t 32]⟩, ⟨(some 34), (some (21, true)), .pick, [.t 28, .t 33, .c (.bool false)]⟩, ⟨(some 35), (some (21, true)), .not, [.t 34]⟩, ⟨(some 36), none, .pick, [.t 21, .t 35, .c (.bool false)]⟩, ⟨(some 2), none, .mv, [.t 36]⟩]) .ret))))
theorem comp_ident_short : compF Try.prog (mset [] [8, 10, 12, 14] [3, 4]) (cset [] [] []) (wset [] []) Try.f141 = some c_ident_short := by kernel_rfl
theorem ok_ident_short : fnOk Try.prog F_ident_short = true := by kernel_rfl
theorem calls_ident_short {args : List AV} {r : AV} (h : RunsX Try.prog 0 (Gives [.t 2] r) [.c c_ident_short] (args ++ List.replicate (37 - args.length) (.tup [])) [] zeroC) : PCalls Try.prog F_ident_short args r :=
  pcallsF Try.checked.mixed Try.func141 ok_ident_short comp_ident_short rfl (rs := [.t 2]) (by kernel_rfl) h
theorem hcalls_ident_short {args : List AV} {Hin Hout : Heap} {nx nx2 : Ctr} {r : AV} (φ : Nat) (ks : List (Nat × Nat)) (h : RunsX Try.prog φ (GivesH ks [.t 2] r Hout nx2) [.c c_ident_short] (args ++ List.replicate (37 - args.length) (.tup [])) Hin nx) : HCalls Try.prog F_ident_short args Hin nx r Hout nx2 :=
  hcallsF Try.checked.mixed Try.func141 ok_ident_short comp_ident_short rfl (rs := [.t 2]) (by kernel_rfl) φ ks h

/-- pedlar/ident.leaf: parameters [24], results [.t 2], calls  -/
def c_ident_leaf : Cd := (.seq (.reg [⟨(some 1), none, .box, [.t 0]⟩, ⟨(some 2), none, .mv, [.c (.bool false)]⟩]) (.seq (.reg [⟨(some 3), none, (.fa 1), [.t 1]⟩, ⟨(some 4), none, .ld1, [.t 3]⟩, ⟨(some 5), none, .len, [.t 4]⟩, ⟨(some 6), none, (.bin .eql), [.t 5, .c (.int .i64 0)]⟩, ⟨(some 2), none, .mv, [.t 6]⟩]) .ret))
theorem comp_ident_leaf : compF Try.prog (mset [] [] []) (cset [] [] []) (wset [] []) Try.f89 = some c_ident_leaf := by kernel_rfl
theorem ok_ident_leaf : fnOk Try.prog F_ident_leaf = true := by kernel_rfl
theorem calls_ident_leaf {args : List AV} {r : AV} (h : RunsX Try.prog 0 (Gives [.t 2] r) [.c c_ident_leaf] (args ++ List.replicate (7 - args.length) (.tup [])) [] zeroC) : PCalls Try.prog F_ident_leaf args r :=
  pcallsF Try.checked.mixed Try.func89 ok_ident_leaf comp_ident_leaf rfl (rs := [.t 2]) (by kernel_rfl) h
theorem hcalls_ident_leaf {args : List AV} {Hin Hout : Heap} {nx nx2 : Ctr} {r : AV} (φ : Nat) (ks : List (Nat × Nat)) (h : RunsX Try.prog φ (GivesH ks [.t 2] r Hout nx2) [.c c_ident_leaf] (args ++ List.replicate (7 - args.length) (.tup [])) Hin nx) : HCalls Try.prog F_ident_leaf args Hin nx r Hout nx2 :=
  hcallsF Try.checked.mixed Try.func89 ok_ident_leaf comp_ident_leaf rfl (rs := [.t 2]) (by kernel_rfl) φ ks h

/-- pedlar/ident.Nothing: parameters [24], results [.t 2], calls ident_leaf -/
def c_ident_Nothing : Cd := (.seq (.reg [⟨(some 1), none, .box, [.t 0]⟩, ⟨(some 2), none, .mv, [.c (.bool false)]⟩]) (.seq (.reg [⟨(some 3), none, (.ldn 2), [.t 1]⟩, ⟨(some 4), none, (.call F_ident_leaf 0), [.t 3]⟩, ⟨(some 5), none, .mv, [.t 4]⟩, ⟨(some 6), (some (5, true)), (.fa 0), [.t 1]⟩, ⟨(some 7), (some (5, true)), .ld1, [.t 6]⟩, ⟨(some 8), (some (5, true)), .not, [.t 7]⟩, ⟨(some 9), none, .pick, [.t 5, .t 8, .c (.bool false)]⟩, ⟨(some 2), none, .mv, [.t 9]⟩]) .ret))
theorem comp_ident_Nothing : compF Try.prog (mset [] [] []) (cset [] [] []) (wset [] []) Try.f19 = some c_ident_Nothing := by kernel_rfl
theorem ok_ident_Nothing : fnOk Try.prog F_ident_Nothing = true := by kernel_rfl
theorem calls_ident_Nothing {args : List AV} {r : AV} (h : RunsX Try.prog 0 (Gives [.t 2] r) [.c c_ident_Nothing] (args ++ List.replicate (10 - args.length) (.tup [])) [] zeroC) : PCalls Try.prog F_ident_Nothing args r :=
  pcallsF Try.checked.mixed Try.func19 ok_ident_Nothing comp_ident_Nothing rfl (rs := [.t 2]) (by kernel_rfl) h
theorem hcalls_ident_Nothing {args : List AV} {Hin Hout : Heap} {nx nx2 : Ctr} {r : AV} (φ : Nat) (ks : List (Nat × Nat)) (h : RunsX Try.prog φ (GivesH ks [.t 2] r Hout nx2) [.c c_ident_Nothing] (args ++ List.replicate (10 - args.length) (.tup [])) Hin nx) : HCalls Try.prog F_ident_Nothing args Hin nx r Hout nx2 :=
  hcallsF Try.checked.mixed Try.func19 ok_ident_Nothing comp_ident_Nothing rfl (rs := [.t 2]) (by kernel_rfl) φ ks h

def tab_CdTell : List (Nat × Cd × Nat × List RS) := [(F_law05_awake, c_law05_awake, 16, [.t 0]), (F_law05_EventJoins, c_law05_EventJoins, 94, [.t 4]), (F_event_Tell, c_event_Tell, 36, [.cn 4 2, .t 5]), (F_event_fill, c_event_fill, 90, [.cn 4 2]), (F_event_grow, c_event_grow, 108, [.cn 4 2, .t 5]), (F_event_greatest, c_event_greatest, 21, [.t 2]), (F_ident_Right, c_ident_Right, 10, [.t 2]), (F_ident_count, c_ident_count, 42, [.t 4]), (F_ident_short, c_ident_short, 37, [.t 2]), (F_ident_leaf, c_ident_leaf, 7, [.t 2]), (F_ident_Nothing, c_ident_Nothing, 10, [.t 2])]
theorem tok_CdTell : TabOk Try.prog (tabOf tab_CdTell) := tab_cons calls_law05_awake hcalls_law05_awake (tab_cons calls_law05_EventJoins hcalls_law05_EventJoins (tab_cons calls_event_Tell hcalls_event_Tell (tab_cons calls_event_fill hcalls_event_fill (tab_cons calls_event_grow hcalls_event_grow (tab_cons calls_event_greatest hcalls_event_greatest (tab_cons calls_ident_Right hcalls_ident_Right (tab_cons calls_ident_count hcalls_ident_count (tab_cons calls_ident_short hcalls_ident_short (tab_cons calls_ident_leaf hcalls_ident_leaf (tab_cons calls_ident_Nothing hcalls_ident_Nothing (tab_nil)))))))))))
end Go.Proofs.Ytmokhopjnjecbab
