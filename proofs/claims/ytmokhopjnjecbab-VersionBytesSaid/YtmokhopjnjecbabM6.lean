/- THE LAW VersionBytes: whatever versions and whatever bytes, what Put writes Get takes again: the row's function answers true and leaves memory as it was.
   The walks step through the compiled bodies; here the row's reading of the arguments is opened and the answer shut. -/
import Derived.Test.YtmokhopjnjecbabM5
import Derived.SizedLaws
import Derived.ChangeSlices
import Derived.ProofKit
import Derived.OpenShut
import Derived.ShutString
import Derived.ChangeOld
import Derived.ChangeMaps5
import Derived.Below
-- short
-- fuel 300
namespace Go.Proofs.Ytmokhopjnjecbab
open Go.Ev
set_option linter.unusedVariables false
set_option linter.unusedSimpArgs false
set_option maxRecDepth 100000
set_option maxHeartbeats 3200000
theorem vbtail_calls (most : Nat) (hm : most < 256) (l : List Ver) (hl : l.length ≤ 40) (hv : ∀ v ∈ l, VRt v) (si : InS) (nx : Ctr) :
    RunsX Try.prog 0 (Gives [.t 6] (.bool true)) [.c c_law07_VersionBytes_k0] (e_law07_VersionBytes_2 (.fz 7 (l.map vv) none) (.int .u8 (most : Nat))) [(1, 6, 0, some (inE si))] nx := by
  by_cases h : l = []
  · subst h; exact vtail_none most hm si nx
  · exact vtail_some most hm l hl hv h si nx
theorem vbmid_calls (most : Nat) (hm : most < 256) (l : List Ver) (hl : l.length ≤ 40) (hsz : ∀ v ∈ l, v.event.size < 2 ^ 32) (si : InS) (nx : Ctr) :
    RunsX Try.prog 0 (Gives [.t 6] (.bool true)) [.c c_law07_VersionBytes_k1] (e_law07_VersionBytes_0 (.fz 7 (l.map vv) none) (.int .u8 (most : Nat))) [(1, 6, 0, some (inE si))] nx := by
  refine walk0 (its := [.c c_law07_VersionBytes_k1]) 300 trivial (fun A eA => ?_)
  simp (disch := first | omega | (simp only [avs_len, List.length_cons, List.length_append, List.length_nil, List.length_take, List.length_drop, List.length_map]; omega) | (simp only [cells, scal1, allSz, List.length_cons, List.length_nil, List.length_append, List.length_map, List.all_cons, List.all_nil, avs_len, beq_self_eq_true, Bool.and_self, and_self, or_true, true_or, reduceCtorEq, *]; done) | fail) only [c_law07_VersionBytes, wl_law07_VersionBytes_0, s_law07_VersionBytes_0, c_law07_VersionBytes_l0, wb_law07_VersionBytes_0, wl_law07_VersionBytes_2, s_law07_VersionBytes_2, c_law07_VersionBytes_l2, wb_law07_VersionBytes_2, c_law07_VersionBytes_k0, c_law07_VersionBytes_k1, go_sem, Nat.reduceAdd, Nat.reduceSub, Nat.reduceMul, Nat.reduceLT, Nat.reduceLeDiff, Int.reduceToNat, Nat.reduceEqDiff, Nat.reduceBEq, ↓reduceIte, reduceCtorEq, eA, scal1, List.length_map]
  exact lloop most l (by omega) hsz si [.c c_law07_VersionBytes_k0] trivial (fun hv nx => vbtail_calls most hm l hl hv si nx) l [] rfl (by simp) _
theorem vb_few (l : List Ver) (hl0 : l.length < 2 ^ 63) (B : List Nat) (most : Nat) (h : ¬ (fewL 0 l = true ∧ B.length ≤ 500)) : PCalls Try.prog F_law07_VersionBytes [.fz 7 (l.map vv) none, bv B, .int .u8 (most : Nat)] (.bool true) := by
  have ca := vFew_calls l none hl0
  cases f1 : fewL 0 l with
  | true =>
    have f2 : ¬ B.length ≤ 500 := fun f2 => h ⟨f1, f2⟩
    rw [f1] at ca
    refine calls_law07_VersionBytes (walk0 300 trivial (fun A eA => ?_))
    simp (disch := first | omega | (simp only [avs_len, List.length_cons, List.length_append, List.length_nil, List.length_take, List.length_drop, List.length_map]; omega) | (simp only [cells, scal1, allSz, List.length_cons, List.length_nil, List.length_append, List.length_map, List.all_cons, List.all_nil, avs_len, beq_self_eq_true, Bool.and_self, and_self, or_true, true_or, reduceCtorEq, *]; done) | fail) only [c_law07_VersionBytes, wl_law07_VersionBytes_0, s_law07_VersionBytes_0, c_law07_VersionBytes_l0, wb_law07_VersionBytes_0, wl_law07_VersionBytes_2, s_law07_VersionBytes_2, c_law07_VersionBytes_l2, wb_law07_VersionBytes_2, c_law07_VersionBytes_k0, c_law07_VersionBytes_k1, go_sem, Nat.reduceAdd, Nat.reduceSub, Nat.reduceMul, Nat.reduceLT, Nat.reduceLeDiff, Int.reduceToNat, Nat.reduceEqDiff, Nat.reduceBEq, ↓reduceIte, reduceCtorEq, eA, scal1, avs_len]
    repeat ((first | refine call0 300 trivial trivial (by first | exact vawake_calls | exact ca) (by first | exact .inl rfl | exact .inr rfl) (fun A eA => ?_) | refine call1 300 trivial trivial (by first | exact vawake_calls | exact ca) (fun A eA => ?_)); simp (disch := first | omega | (simp only [avs_len, List.length_cons, List.length_append, List.length_nil, List.length_take, List.length_drop, List.length_map]; omega) | (simp only [cells, scal1, allSz, List.length_cons, List.length_nil, List.length_append, List.length_map, List.all_cons, List.all_nil, avs_len, beq_self_eq_true, Bool.and_self, and_self, or_true, true_or, reduceCtorEq, *]; done) | fail) only [c_law07_VersionBytes, wl_law07_VersionBytes_0, s_law07_VersionBytes_0, c_law07_VersionBytes_l0, wb_law07_VersionBytes_0, wl_law07_VersionBytes_2, s_law07_VersionBytes_2, c_law07_VersionBytes_l2, wb_law07_VersionBytes_2, c_law07_VersionBytes_k0, c_law07_VersionBytes_k1, go_sem, Nat.reduceAdd, Nat.reduceSub, Nat.reduceMul, Nat.reduceLT, Nat.reduceLeDiff, Int.reduceToNat, Nat.reduceEqDiff, Nat.reduceBEq, ↓reduceIte, reduceCtorEq, eA, scal1, avs_len])
    exact doneG rfl
  | false =>
    rw [f1] at ca
    refine calls_law07_VersionBytes (walk0 300 trivial (fun A eA => ?_))
    simp (disch := first | omega | (simp only [avs_len, List.length_cons, List.length_append, List.length_nil, List.length_take, List.length_drop, List.length_map]; omega) | (simp only [cells, scal1, allSz, List.length_cons, List.length_nil, List.length_append, List.length_map, List.all_cons, List.all_nil, avs_len, beq_self_eq_true, Bool.and_self, and_self, or_true, true_or, reduceCtorEq, *]; done) | fail) only [c_law07_VersionBytes, wl_law07_VersionBytes_0, s_law07_VersionBytes_0, c_law07_VersionBytes_l0, wb_law07_VersionBytes_0, wl_law07_VersionBytes_2, s_law07_VersionBytes_2, c_law07_VersionBytes_l2, wb_law07_VersionBytes_2, c_law07_VersionBytes_k0, c_law07_VersionBytes_k1, go_sem, Nat.reduceAdd, Nat.reduceSub, Nat.reduceMul, Nat.reduceLT, Nat.reduceLeDiff, Int.reduceToNat, Nat.reduceEqDiff, Nat.reduceBEq, ↓reduceIte, reduceCtorEq, eA, scal1, avs_len]
    repeat ((first | refine call0 300 trivial trivial (by first | exact vawake_calls | exact ca) (by first | exact .inl rfl | exact .inr rfl) (fun A eA => ?_) | refine call1 300 trivial trivial (by first | exact vawake_calls | exact ca) (fun A eA => ?_)); simp (disch := first | omega | (simp only [avs_len, List.length_cons, List.length_append, List.length_nil, List.length_take, List.length_drop, List.length_map]; omega) | (simp only [cells, scal1, allSz, List.length_cons, List.length_nil, List.length_append, List.length_map, List.all_cons, List.all_nil, avs_len, beq_self_eq_true, Bool.and_self, and_self, or_true, true_or, reduceCtorEq, *]; done) | fail) only [c_law07_VersionBytes, wl_law07_VersionBytes_0, s_law07_VersionBytes_0, c_law07_VersionBytes_l0, wb_law07_VersionBytes_0, wl_law07_VersionBytes_2, s_law07_VersionBytes_2, c_law07_VersionBytes_l2, wb_law07_VersionBytes_2, c_law07_VersionBytes_k0, c_law07_VersionBytes_k1, go_sem, Nat.reduceAdd, Nat.reduceSub, Nat.reduceMul, Nat.reduceLT, Nat.reduceLeDiff, Int.reduceToNat, Nat.reduceEqDiff, Nat.reduceBEq, ↓reduceIte, reduceCtorEq, eA, scal1, avs_len])
    exact doneG rfl
theorem verbytes_calls (l : List Ver) (hl0 : l.length < 2 ^ 63) (B : List Nat) (hB : ∀ b ∈ B, b < 256) (most : Nat) (hm : most < 256) : PCalls Try.prog F_law07_VersionBytes [.fz 7 (l.map vv) none, bv B, .int .u8 (most : Nat)] (.bool true) := by
  by_cases f : fewL 0 l = true ∧ B.length ≤ 500
  case neg => exact vb_few l hl0 B most f
  obtain ⟨f1, f2⟩ := f
  have ca := vFew_calls l none hl0
  rw [f1] at ca
  obtain ⟨m1, m2⟩ := fewL_mem f1
  have hFr := inE_free
  have w2 : IntKind.i64.wrap ((most : Nat) : Int) = ((most : Nat) : Int) := wrap64 (by omega) (by omega)
  have hs : OkIn (some B) := by intro r hr; cases hr; exact ⟨hB, by omega⟩
  have e1 : lenIn (some B) = B.length := rfl
  have cn := newIn_h B (by omega) 1 zeroC
  obtain ⟨e2, nx1, he2, cg⟩ := verGet_h most (by omega) 1 0 (by omega) hs (by omega) (bump zeroC 6)
  have hsp := getVs_spec (lenIn (some B) + 1) most [] (some B) (by omega) (Nat.zero_le _) (by simp) (by simp)
  obtain ⟨y, s2, hy⟩ : ∃ y s2, getVs (lenIn (some B) + 1) most [] (some B) = (y, s2) := ⟨_, _, rfl⟩
  rw [hy] at cg he2 hsp
  simp only at cg he2 hsp
  obtain ⟨y1, y2, y3⟩ := hsp
  have hsz : ∀ v ∈ l, v.event.size < 2 ^ 32 := fun v hv => by have := (m2 v hv).2.2; omega
  have hy0 : y = [] → ∀ nx, RunsX Try.prog 0 (Gives [.t 6] (.bool true)) (i_law07_VersionBytes_0 ++ [.c c_law07_VersionBytes_k1]) (s_law07_VersionBytes_0 (.fz 7 (l.map vv) none) (.int .u8 (most : Nat)) (.ptr 1 6 0 0) (.fz 7 [] none) (.int .i64 0) (.int .i64 0)) [(1, 6, 0, some (inE s2))] nx := by
    intro _ nx
    refine round (its := [.blk 0 wb_law07_VersionBytes_0]) 300 trivial trivial (fun A eA => ?_)
    simp (disch := first | omega | (simp only [avs_len, List.length_cons, List.length_append, List.length_nil, List.length_take, List.length_drop, List.length_map]; omega) | (simp only [cells, scal1, allSz, List.length_cons, List.length_nil, List.length_append, List.length_map, List.all_cons, List.all_nil, avs_len, beq_self_eq_true, Bool.and_self, and_self, or_true, true_or, reduceCtorEq, *]; done) | fail) only [c_law07_VersionBytes, wl_law07_VersionBytes_0, s_law07_VersionBytes_0, c_law07_VersionBytes_l0, wb_law07_VersionBytes_0, wl_law07_VersionBytes_2, s_law07_VersionBytes_2, c_law07_VersionBytes_l2, wb_law07_VersionBytes_2, c_law07_VersionBytes_k0, c_law07_VersionBytes_k1, go_sem, Nat.reduceAdd, Nat.reduceSub, Nat.reduceMul, Nat.reduceLT, Nat.reduceLeDiff, Int.reduceToNat, Nat.reduceEqDiff, Nat.reduceBEq, ↓reduceIte, reduceCtorEq, eA, scal1]
    exact vbmid_calls most hm l (by omega) hsz s2 _
  cases e2 with
  | none =>
    obtain rfl := he2 rfl
    simp only [accV, accE, vcat, List.length_nil] at cg
    refine calls_law07_VersionBytes (walk0 300 trivial (fun A eA => ?_))
    simp (disch := first | omega | (simp only [avs_len, List.length_cons, List.length_append, List.length_nil, List.length_take, List.length_drop, List.length_map]; omega) | (simp only [cells, scal1, allSz, List.length_cons, List.length_nil, List.length_append, List.length_map, List.all_cons, List.all_nil, avs_len, beq_self_eq_true, Bool.and_self, and_self, or_true, true_or, reduceCtorEq, *]; done) | fail) only [c_law07_VersionBytes, wl_law07_VersionBytes_0, s_law07_VersionBytes_0, c_law07_VersionBytes_l0, wb_law07_VersionBytes_0, wl_law07_VersionBytes_2, s_law07_VersionBytes_2, c_law07_VersionBytes_l2, wb_law07_VersionBytes_2, c_law07_VersionBytes_k0, c_law07_VersionBytes_k1, go_sem, Nat.reduceAdd, Nat.reduceSub, Nat.reduceMul, Nat.reduceLT, Nat.reduceLeDiff, Int.reduceToNat, Nat.reduceEqDiff, Nat.reduceBEq, ↓reduceIte, reduceCtorEq, eA, scal1, avs_len]
    repeat ((first | refine call0 300 trivial trivial (by first | exact vawake_calls | exact ca) (by first | exact .inl rfl | exact .inr rfl) (fun A eA => ?_) | refine call1 300 trivial trivial (by first | exact vawake_calls | exact ca) (fun A eA => ?_)); simp (disch := first | omega | (simp only [avs_len, List.length_cons, List.length_append, List.length_nil, List.length_take, List.length_drop, List.length_map]; omega) | (simp only [cells, scal1, allSz, List.length_cons, List.length_nil, List.length_append, List.length_map, List.all_cons, List.all_nil, avs_len, beq_self_eq_true, Bool.and_self, and_self, or_true, true_or, reduceCtorEq, *]; done) | fail) only [c_law07_VersionBytes, wl_law07_VersionBytes_0, s_law07_VersionBytes_0, c_law07_VersionBytes_l0, wb_law07_VersionBytes_0, wl_law07_VersionBytes_2, s_law07_VersionBytes_2, c_law07_VersionBytes_l2, wb_law07_VersionBytes_2, c_law07_VersionBytes_k0, c_law07_VersionBytes_k1, go_sem, Nat.reduceAdd, Nat.reduceSub, Nat.reduceMul, Nat.reduceLT, Nat.reduceLeDiff, Int.reduceToNat, Nat.reduceEqDiff, Nat.reduceBEq, ↓reduceIte, reduceCtorEq, eA, scal1, avs_len])
    refine call2 300 trivial trivial [] rfl rfl cn (.inl rfl) (fun A eA => ?_)
    simp (disch := first | omega | (simp only [avs_len, List.length_cons, List.length_append, List.length_nil, List.length_take, List.length_drop, List.length_map]; omega) | (simp only [cells, scal1, allSz, List.length_cons, List.length_nil, List.length_append, List.length_map, List.all_cons, List.all_nil, avs_len, beq_self_eq_true, Bool.and_self, and_self, or_true, true_or, reduceCtorEq, *]; done) | fail) only [c_law07_VersionBytes, wl_law07_VersionBytes_0, s_law07_VersionBytes_0, c_law07_VersionBytes_l0, wb_law07_VersionBytes_0, wl_law07_VersionBytes_2, s_law07_VersionBytes_2, c_law07_VersionBytes_l2, wb_law07_VersionBytes_2, c_law07_VersionBytes_k0, c_law07_VersionBytes_k1, go_sem, Nat.reduceAdd, Nat.reduceSub, Nat.reduceMul, Nat.reduceLT, Nat.reduceLeDiff, Int.reduceToNat, Nat.reduceEqDiff, Nat.reduceBEq, ↓reduceIte, reduceCtorEq, eA, scal1, w2]
    refine call2 300 trivial trivial [(1, 6)] rfl rfl cg (.inl rfl) (fun A eA => ?_)
    simp (disch := first | omega | (simp only [avs_len, List.length_cons, List.length_append, List.length_nil, List.length_take, List.length_drop, List.length_map]; omega) | (simp only [cells, scal1, allSz, List.length_cons, List.length_nil, List.length_append, List.length_map, List.all_cons, List.all_nil, avs_len, beq_self_eq_true, Bool.and_self, and_self, or_true, true_or, reduceCtorEq, *]; done) | fail) only [c_law07_VersionBytes, wl_law07_VersionBytes_0, s_law07_VersionBytes_0, c_law07_VersionBytes_l0, wb_law07_VersionBytes_0, wl_law07_VersionBytes_2, s_law07_VersionBytes_2, c_law07_VersionBytes_l2, wb_law07_VersionBytes_2, c_law07_VersionBytes_k0, c_law07_VersionBytes_k1, go_sem, Nat.reduceAdd, Nat.reduceSub, Nat.reduceMul, Nat.reduceLT, Nat.reduceLeDiff, Int.reduceToNat, Nat.reduceEqDiff, Nat.reduceBEq, ↓reduceIte, reduceCtorEq, eA, scal1]
    refine RunsX.wkT ?_ (Wk.at1 (Wk1.nils 7) [_, .any, _, .any, .any, .any, .any, _] _) (hy0 rfl _)
    trivial
  | some g2 =>
    simp only [accV, accE] at cg
    have hT : (vcat y).take (y.length * 7) = vcat y := List.take_of_length_le (by rw [vcat_len]; omega)
    have hP : (0 + y.length) * 7 ≤ y.length * 7 := by omega
    have hC : chunkN 7 y.length (vcat y) = y.map vv := by have := chunk_vcat y; simp only [chunk] at this; rwa [if_neg (by omega)] at this
    refine calls_law07_VersionBytes (walk0 300 trivial (fun A eA => ?_))
    simp (disch := first | omega | (simp only [avs_len, List.length_cons, List.length_append, List.length_nil, List.length_take, List.length_drop, List.length_map]; omega) | (simp only [cells, scal1, allSz, List.length_cons, List.length_nil, List.length_append, List.length_map, List.all_cons, List.all_nil, avs_len, beq_self_eq_true, Bool.and_self, and_self, or_true, true_or, reduceCtorEq, *]; done) | fail) only [c_law07_VersionBytes, wl_law07_VersionBytes_0, s_law07_VersionBytes_0, c_law07_VersionBytes_l0, wb_law07_VersionBytes_0, wl_law07_VersionBytes_2, s_law07_VersionBytes_2, c_law07_VersionBytes_l2, wb_law07_VersionBytes_2, c_law07_VersionBytes_k0, c_law07_VersionBytes_k1, go_sem, Nat.reduceAdd, Nat.reduceSub, Nat.reduceMul, Nat.reduceLT, Nat.reduceLeDiff, Int.reduceToNat, Nat.reduceEqDiff, Nat.reduceBEq, ↓reduceIte, reduceCtorEq, eA, scal1, avs_len]
    repeat ((first | refine call0 300 trivial trivial (by first | exact vawake_calls | exact ca) (by first | exact .inl rfl | exact .inr rfl) (fun A eA => ?_) | refine call1 300 trivial trivial (by first | exact vawake_calls | exact ca) (fun A eA => ?_)); simp (disch := first | omega | (simp only [avs_len, List.length_cons, List.length_append, List.length_nil, List.length_take, List.length_drop, List.length_map]; omega) | (simp only [cells, scal1, allSz, List.length_cons, List.length_nil, List.length_append, List.length_map, List.all_cons, List.all_nil, avs_len, beq_self_eq_true, Bool.and_self, and_self, or_true, true_or, reduceCtorEq, *]; done) | fail) only [c_law07_VersionBytes, wl_law07_VersionBytes_0, s_law07_VersionBytes_0, c_law07_VersionBytes_l0, wb_law07_VersionBytes_0, wl_law07_VersionBytes_2, s_law07_VersionBytes_2, c_law07_VersionBytes_l2, wb_law07_VersionBytes_2, c_law07_VersionBytes_k0, c_law07_VersionBytes_k1, go_sem, Nat.reduceAdd, Nat.reduceSub, Nat.reduceMul, Nat.reduceLT, Nat.reduceLeDiff, Int.reduceToNat, Nat.reduceEqDiff, Nat.reduceBEq, ↓reduceIte, reduceCtorEq, eA, scal1, avs_len])
    refine call2 300 trivial trivial [] rfl rfl cn (.inl rfl) (fun A eA => ?_)
    simp (disch := first | omega | (simp only [avs_len, List.length_cons, List.length_append, List.length_nil, List.length_take, List.length_drop, List.length_map]; omega) | (simp only [cells, scal1, allSz, List.length_cons, List.length_nil, List.length_append, List.length_map, List.all_cons, List.all_nil, avs_len, beq_self_eq_true, Bool.and_self, and_self, or_true, true_or, reduceCtorEq, *]; done) | fail) only [c_law07_VersionBytes, wl_law07_VersionBytes_0, s_law07_VersionBytes_0, c_law07_VersionBytes_l0, wb_law07_VersionBytes_0, wl_law07_VersionBytes_2, s_law07_VersionBytes_2, c_law07_VersionBytes_l2, wb_law07_VersionBytes_2, c_law07_VersionBytes_k0, c_law07_VersionBytes_k1, go_sem, Nat.reduceAdd, Nat.reduceSub, Nat.reduceMul, Nat.reduceLT, Nat.reduceLeDiff, Int.reduceToNat, Nat.reduceEqDiff, Nat.reduceBEq, ↓reduceIte, reduceCtorEq, eA, scal1, w2]
    refine call2 300 trivial trivial [(1, 6)] rfl rfl cg (.inl rfl) (fun A eA => ?_)
    simp (disch := first | omega | (simp only [avs_len, List.length_cons, List.length_append, List.length_nil, List.length_take, List.length_drop, List.length_map]; omega) | (simp only [cells, scal1, allSz, List.length_cons, List.length_nil, List.length_append, List.length_map, List.all_cons, List.all_nil, avs_len, beq_self_eq_true, Bool.and_self, and_self, or_true, true_or, reduceCtorEq, *]; done) | fail) only [c_law07_VersionBytes, wl_law07_VersionBytes_0, s_law07_VersionBytes_0, c_law07_VersionBytes_l0, wb_law07_VersionBytes_0, wl_law07_VersionBytes_2, s_law07_VersionBytes_2, c_law07_VersionBytes_l2, wb_law07_VersionBytes_2, c_law07_VersionBytes_k0, c_law07_VersionBytes_k1, go_sem, Nat.reduceAdd, Nat.reduceSub, Nat.reduceMul, Nat.reduceLT, Nat.reduceLeDiff, Int.reduceToNat, Nat.reduceEqDiff, Nat.reduceBEq, ↓reduceIte, reduceCtorEq, eA, scal1, Nat.sub_zero, chunk, vcat_len, Nat.zero_mul, List.drop_zero, hT, hP, ↓frz_vcat, hC, List.length_map]
    by_cases hye : y = []
    · subst hye
      exact hy0 rfl _
    · exact yloop _ most hm s2 (y3 hye) y y1 y2 [.c c_law07_VersionBytes_k1] trivial (fun nx => vbmid_calls most hm l (by omega) hsz s2 nx) y [] rfl _
theorem verbytes_law (l : List Ver) (hl : l.length ≤ maxLen) (B : List Nat) (hB : ∀ b ∈ B, b < 256) (most : Nat) (hm : most < 256) : PCalls Try.prog F_law07_VersionBytes [.fz 7 (l.map vv) none, bv B, .int .u8 (most : Nat)] (.bool true) :=
  verbytes_calls l (by unfold maxLen at hl; omega) B hB most hm
end Go.Proofs.Ytmokhopjnjecbab
/- Rows of bytes out of a row's reading of the arguments. -/
namespace Go.Proofs.Ytmokhopjnjecbab.Sized
open Go.ChangeShapes Go.WideShapes Go.RowKit
open Go.Ev (PCalls Rep Reps none4 zeroC avs avs_get avs_len add_mk)
set_option linter.unusedVariables false
set_option linter.unusedSimpArgs false
/-- A slice of whole numbers, opened. -/
def IsRow (k : IntKind) (w : World) (a : Option Addr) (len cap : Nat) (zs : List Int) : Prop :=
  (a = none ∧ len = 0 ∧ cap = 0 ∧ zs = []) ∨
  ∃ x, a = some x ∧ len ≤ cap ∧ cap ≤ maxLen ∧ zs.length = cap ∧ (∀ i, i < zs.length → w.cell? (x.add i) = some (.int k (zs.getD i 0))) ∧ ∀ n ∈ zs, (Lit.int k n).wf = true
theorem rep_bytes {w : World} {a : Option Addr} {len cap : Nat} {zs : List Int} (h : IsRow .u8 w a len cap zs) :
    ∃ bs : List Nat, (∀ b ∈ bs, b < 256) ∧ bs.length = len ∧ Rep none4 (fun _ => False) zeroC w true (.fz 1 (avs bs) none) (.slice a len cap) := by
  rcases h with ⟨rfl, rfl, rfl, rfl⟩ | ⟨x, rfl, hl, hm, hz, hcell, hwf⟩
  · exact ⟨[], by simp, rfl, .fz0 (by simp) (fun _ => ⟨rfl, rfl⟩)⟩
  · have hrange : ∀ n ∈ zs, 0 ≤ n ∧ n < 256 := by
      intro n hn
      have := hwf n hn
      simp [Lit.wf, IntKind.min, IntKind.max, IntKind.signed, IntKind.bits] at this
      omega
    have hlen : ((zs.take len).map Int.toNat).length = len := by simp; omega
    refine ⟨(zs.take len).map Int.toNat, ?_, hlen, ?_⟩
    · intro b hb
      obtain ⟨n, hn, rfl⟩ := List.mem_map.1 hb
      have := hrange n (List.mem_of_mem_take hn)
      omega
    · by_cases h0 : len = 0
      · subst h0
        simp only [List.take_zero, List.map_nil, avs]
        exact .fz0 (by simp) (fun e => by cases e)
      · have hal : (avs ((zs.take len).map Int.toNat)).length = len := by rw [avs_len]; exact hlen
        have hsl : (Value.slice (some x) len cap) = .slice (some x) (avs ((zs.take len).map Int.toNat)).length cap := by rw [hal]
        rw [hsl]
        have hget : ∀ (i : Nat) e, (avs ((zs.take len).map Int.toNat))[i]? = some e → i < zs.length ∧ e = .int .u8 (zs.getD i 0) := by
          intro i e hi
          have hlt : i < len := by have := (List.getElem?_eq_some_iff.1 hi).1; omega
          rw [avs_get, List.getElem?_map, List.getElem?_take_of_lt hlt, List.getElem?_eq_getElem (by omega)] at hi
          simp at hi
          subst hi
          refine ⟨by omega, ?_⟩
          have := hrange zs[i] (List.getElem_mem (by omega))
          have e2 : zs.getD i 0 = zs[i] := by simp [List.getD, show i < zs.length by omega]
          rw [e2]
          congr 1
          omega
        refine .fz (fun i _ => .int .u8 (zs.getD i 0)) (fun e => by rw [e] at hal; simp at hal; omega) (by omega) (by simp) (fun i e hi => ?_) (fun i e j y hi hj => ?_) (fun i e j y hi hj => ?_) (fun i e j y hi hj => rfl) ⟨fun _ _ _ h => h, fun h => h, ?_⟩
        · obtain ⟨_, rfl⟩ := hget i e hi; rfl
        · obtain ⟨hlt, rfl⟩ := hget i e hi
          cases j with
          | succ j => simp [Ev.cells] at hj
          | zero => rw [Nat.mul_one, Nat.add_zero]; exact hcell i hlt
        · obtain ⟨hlt, rfl⟩ := hget i e hi
          cases j with
          | succ j => simp [Ev.cells] at hj
          | zero => simp [Ev.cells] at hj; subst hj; exact .int
        · have := hcell 0 (by omega)
          have := World.block_lt_of_cell? w _ this
          rwa [Ev.add_block] at this
/-- A slice of rows of bytes, opened. -/
theorem rep_rows {H : Type} {enc : TypeId × Value → H} {P : Program} {w : World} {base : Nat} {held : Bool} {fuel : Nat} {t e b : TypeId} {a : Option Addr} {len cap : Nat} {x : DataW H × List MemPlace}
    (ht : P.underlying t = some (.slice e)) (he : P.underlying e = some (.slice b)) (hb : P.underlying b = some (.int .u8)) (hc1 : P.cellsOf e = 1) (hc2 : P.cellsOf b = 1)
    (h : DataW.trod enc P w base (fun _ => true) held fuel t [.slice a len cap] = some x) :
    ∃ ls : List (List Nat), ls.length = len ∧ (∀ l ∈ ls, ∀ b ∈ l, b < 256) ∧ Rep none4 (fun _ => False) zeroC w true (.fz 1 (ls.map fun l => .fz 1 (avs l) none) none) (.slice a len cap) := by
  rcases DataW.trod_slice ht h with ⟨hcs, _⟩ | ⟨a', len', cap', elems, rest, n, _, hcs, rfl, hbb, hl, hm, hlen, hel, _, _⟩
  · simp only [List.cons.injEq, Value.slice.injEq, and_true] at hcs
    obtain ⟨rfl, rfl, rfl⟩ := hcs
    exact ⟨[], rfl, by simp, .fz0 (by simp) (fun _ => ⟨rfl, rfl⟩)⟩
  · simp only [List.cons.injEq, Value.slice.injEq, and_true] at hcs
    obtain ⟨rfl, rfl, rfl⟩ := hcs
    have each : ∀ i, i < len → ∃ (bs : List Nat) (v : Value), (∀ b ∈ bs, b < 256) ∧ w.cell? (a'.add i) = some v ∧ Rep none4 (fun _ => False) zeroC w true (.fz 1 (avs bs) none) v ∧ v.oneCell' = true := by
      intro i hi
      have h1 := hel i hi
      rw [List.getElem?_eq_getElem (by omega), hc1, Nat.mul_one, Option.bind_eq_some_iff] at h1
      obtain ⟨cs', h2, h3⟩ := h1
      have row : ∃ a1 l1 c1 zs, cs' = [.slice a1 l1 c1] ∧ IsRow .u8 w a1 l1 c1 zs := by
        rcases open_ints he hb hc2 h3 with ⟨rfl, _⟩ | ⟨x1, l1, c1, zs, rfl, _, hl1, hm1, hz, _, hcell, hwz⟩
        · exact ⟨none, 0, 0, [], rfl, .inl ⟨rfl, rfl, rfl, rfl⟩⟩
        · exact ⟨some x1, l1, c1, zs, rfl, .inr ⟨x1, rfl, hl1, hm1, by simpa using hz, hcell, hwz⟩⟩
      obtain ⟨a1, l1, c1, zs, rfl, hrow⟩ := row
      obtain ⟨bs, hbs, _, hrep⟩ := rep_bytes hrow
      exact ⟨bs, _, hbs, cell_of_cells?_one h2, hrep, rfl⟩
    obtain ⟨f, hf⟩ : ∃ f : Nat → List Nat × Value, ∀ i, i < len → (∀ b ∈ (f i).1, b < 256) ∧ w.cell? (a'.add i) = some (f i).2 ∧ Rep none4 (fun _ => False) zeroC w true (.fz 1 (avs (f i).1) none) (f i).2 ∧ (f i).2.oneCell' = true :=
      ⟨fun i => if hi : i < len then (Classical.choose (each i hi), Classical.choose (Classical.choose_spec (each i hi))) else ([], undef), fun i hi => by
        simp only [dif_pos hi]
        exact Classical.choose_spec (Classical.choose_spec (each i hi))⟩
    clear each
    refine ⟨(List.range len).map fun i => (f i).1, by simp, ?_, ?_⟩
    · intro l hl'
      obtain ⟨i, hi, rfl⟩ := List.mem_map.1 hl'
      exact (hf i (List.mem_range.1 hi)).1
    · by_cases h0 : len = 0
      · subst h0
        exact .fz0 (by simp) (fun e => by cases e)
      · have hget : ∀ (i : Nat) y, (((List.range len).map fun i => (f i).1).map fun l => Ev.AV.fz 1 (avs l) none)[i]? = some y → i < len ∧ y = .fz 1 (avs (f i).1) none := by
          intro i y hy
          have hi : i < len := by have := (List.getElem?_eq_some_iff.1 hy).1; simpa using this
          simp [List.getElem?_map, hi] at hy
          exact ⟨hi, hy.symm⟩
        have hsl : (Value.slice (some a') len cap) = .slice (some a') (((List.range len).map fun i => (f i).1).map fun l => Ev.AV.fz 1 (avs l) none).length cap := by simp
        rw [hsl]
        refine .fz (fun i _ => (f i).2) (fun e => by have := congrArg List.length e; simp at this; omega) (by simpa using hl) (by simp) (fun i y hy => ?_) (fun i y j z hy hj => ?_) (fun i y j z hy hj => ?_) (fun i y j z hy hj => ?_) ⟨fun _ _ _ h => h, fun h => h, ?_⟩
        · obtain ⟨hi, rfl⟩ := hget i y hy; rfl
        · obtain ⟨hi, rfl⟩ := hget i y hy
          cases j with
          | succ j => simp [Ev.cells] at hj
          | zero => rw [Nat.mul_one, Nat.add_zero]; exact (hf i hi).2.1
        · obtain ⟨hi, rfl⟩ := hget i y hy
          cases j with
          | succ j => simp [Ev.cells] at hj
          | zero =>
            simp [Ev.cells] at hj; subst hj
            exact (hf i hi).2.2.1
        · obtain ⟨hi, rfl⟩ := hget i y hy
          exact (hf i hi).2.2.2
        · have := World.block_lt_of_cell? w _ (hf 0 (by omega)).2.1
          rwa [Ev.add_block] at this
/-- A row's slice of whole numbers is no longer than its weight allows. -/
theorem sized_ints {H : Type} {enc : TypeId × Value → H} {P : Program} {W : World} {base : Nat} {spare : Nat → Bool} {held : Bool} {t e : TypeId} {k : IntKind} {a : Option Addr} {len cap : Nat} {d : DataW H} {ps : List MemPlace} {ts : List TypeId} {ds : List (DataW H)} {j : Nat}
    (hsz : (DataW.weightsEach P ts ds).all (· ≤ reachBytes) = true) (ht : ts[j]? = some t) (hd : ds[j]? = some d) (hu : P.underlying t = some (.slice e)) (he : P.underlying e = some (.int k)) (hc : P.cellsOf e = 1) {B : Nat} (hB : P.bytesOf e = B)
    (h : DataW.Trod enc P W base spare held t (.slice a len cap) d ps) : len * B ≤ 140737488351232 := by
  obtain ⟨fuel, hf⟩ := h
  rcases open_ints hu he hc hf with ⟨hcs, _⟩ | ⟨x, l, c, zs, hcs, _, hl, _, hz, hx, _, _⟩
  · simp [Value.cells] at hcs
    obtain ⟨rfl, rfl, rfl⟩ := hcs
    simp
  · simp [Value.cells] at hcs
    obtain ⟨rfl, rfl, rfl⟩ := hcs
    obtain ⟨hx, _⟩ := Prod.mk.inj hx
    subst hx
    have z := sized_slice hsz ht hd hu
    rw [hB] at z
    have hl2 : len ≤ zs.length := by
      rw [hz]
      split
      · exact hl
      · exact Nat.le_refl _
    have h1 : (lits (H := H) k (zs.take len)).length + (lits (H := H) k (zs.drop len)).length = zs.length := by
      simp [lits]
      omega
    rw [h1] at z
    exact Nat.le_trans (Nat.mul_le_mul_right _ hl2) z
end Go.Proofs.Ytmokhopjnjecbab.Sized
/- Whatever data a row reads as an argument: its cells by their types, as abstract values. -/
namespace Go.Ev
open Go.ChangeShapes Go.WideShapes Go.RowKit
set_option linter.unusedVariables false
set_option linter.unusedSimpArgs false
/-- The types of cells. -/
inductive Sh where
  | int (k : IntKind) | bool | str | sl (e : TypeId)
def shFields (P : Program) (f : TypeId → Option (List Sh)) : Nat → List Field → Option (List Sh)
  | _, [] => some []
  | o, fd :: l => if fd.offset = o then (match f fd.type with
    | some a => if P.cellsOf fd.type = a.length then (match shFields P f (o + a.length) l with
      | some b => some (a ++ b)
      | none => none) else none
    | none => none) else none
def shapes (P : Program) : Nat → TypeId → Option (List Sh)
  | 0, _ => none
  | n + 1, t => match P.underlying t with
    | some (.int k) => some [.int k]
    | some .bool => some [.bool]
    | some .string => some [.str]
    | some (.slice e) => some [.sl e]
    | some (.struct fs) => (match shFields P (shapes P n) 0 fs.toList with
      | some ss => if P.cellsOf t = ss.length then some ss else none
      | none => none)
    | _ => none
/-- Structs are told as their cells. -/
def mkE (P : Program) (e : TypeId) (xs : List AV) : AV := match P.underlying e with
  | some (.struct _) => .agg xs
  | _ => xs.headD .any
inductive CellOk (P : Program) : Sh → AV → Prop
  | int {k n} (h : (Lit.int k n).wf = true) : CellOk P (.int k) (.int k n)
  | bool {b} : CellOk P .bool (.bool b)
  | str {s : ByteArray} (h : s.size ≤ maxLen) : CellOk P .str (.str s)
  | sl {e ss es} (hs : shapes P 9 e = some ss) (hlen : es.length ≤ maxLen) (hl : ∀ y ∈ es, (cells y).length = ss.length) (hf : ∀ y ∈ es, y = mkE P e (cells y))
      (h : ∀ y ∈ es, ∀ (j : Nat) s c, ss[j]? = some s → (cells y)[j]? = some c → CellOk P s c) : CellOk P (.sl e) (.fz ss.length es none)
/-- Cell by cell: typed, and standing for that value. -/
inductive All3 (P : Program) (w : World) : List Sh → List AV → List Value → Prop
  | nil : All3 P w [] [] []
  | cons {s c v ss xs vs} (hc : CellOk P s c) (hr : Rep none4 (fun _ => False) zeroC w true c v) (h1 : v.oneCell' = true) (t : All3 P w ss xs vs) : All3 P w (s :: ss) (c :: xs) (v :: vs)
section
variable {P : Program} {w : World}
theorem All3.append {ss xs vs ss' xs' vs'} (h : All3 P w ss xs vs) (h' : All3 P w ss' xs' vs') : All3 P w (ss ++ ss') (xs ++ xs') (vs ++ vs') := by
  induction h with
  | nil => exact h'
  | cons a b c t ih => exact .cons a b c ih
theorem All3.len {ss xs vs} (h : All3 P w ss xs vs) : xs.length = ss.length ∧ vs.length = ss.length := by
  induction h with
  | nil => exact ⟨rfl, rfl⟩
  | cons a b c t ih => simp only [List.length_cons]; omega
theorem All3.get {ss xs vs} (h : All3 P w ss xs vs) : ∀ (j : Nat) x, xs[j]? = some x → ∃ s v, ss[j]? = some s ∧ vs[j]? = some v ∧ CellOk P s x ∧ Rep none4 (fun _ => False) zeroC w true x v ∧ v.oneCell' = true := by
  induction h with
  | nil => intro j x hx; simp at hx
  | cons a b c t ih =>
    intro j x hx
    cases j with
    | zero => simp at hx; subst hx; exact ⟨_, _, rfl, rfl, a, b, c⟩
    | succ j => simp at hx; simpa using ih j x hx
theorem CellOk.one {s : Sh} {c : AV} (h : CellOk P s c) : cells c = [c] := by cases h <;> rfl
theorem shapes_scalar {n : Nat} {t : TypeId} {ss : List Sh} (h : shapes P (n + 1) t = some ss) (hn : ∀ fs, P.underlying t ≠ some (.struct fs)) : ss.length = 1 := by
  simp only [shapes] at h
  split at h
  · simp at h; subst h; rfl
  · simp at h; subst h; rfl
  · simp at h; subst h; rfl
  · simp at h; subst h; rfl
  · rename_i fs hf; exact absurd hf (hn fs)
  · cases h
theorem cells_mkE {e : TypeId} {ss : List Sh} (hs : shapes P 9 e = some ss) {xs : List AV} {vs : List Value} (h : All3 P w ss xs vs) : cells (mkE P e xs) = xs := by
  unfold mkE
  split
  · rfl
  · rename_i hn
    have h1 := shapes_scalar hs (fun fs hf => hn fs hf)
    have hl := h.len.1
    match xs, hl with
    | [c], _ =>
      obtain ⟨s, v, _, _, hc, _⟩ := h.get 0 c rfl
      exact hc.one
    | [], hl => simp at hl; omega
    | _ :: _ :: _, hl => simp at hl; omega
/-- The types of elements, all with shapes, closed. -/
def okEs (P : Program) (Es : List TypeId) : Bool := Es.all fun e => match shapes P 9 e with
  | some ss => P.cellsOf e == ss.length && (ss.length != 0 && ss.all (fun s => match s with | .sl e' => Es.contains e' | _ => true))
  | none => false
def inEs (Es : List TypeId) (ss : List Sh) : Prop := ∀ e, Sh.sl e ∈ ss → e ∈ Es
theorem okEs_get {Es : List TypeId} (h : okEs P Es = true) {e : TypeId} (he : e ∈ Es) : ∃ ss, shapes P 9 e = some ss ∧ P.cellsOf e = ss.length ∧ 0 < ss.length ∧ inEs Es ss := by
  have := List.all_eq_true.1 h e he
  split at this
  · rename_i ss hs
    simp only [Bool.and_eq_true, beq_iff_eq, bne_iff_ne, ne_eq, List.all_eq_true] at this
    refine ⟨ss, hs, this.1, by omega, fun e' he' => ?_⟩
    simpa using this.2.2 _ he'
  · cases this
theorem fields_cells {H : Type} {enc : TypeId × Value → H} {base : Nat} {held : Bool} {Es : List TypeId} {n m : Nat} {cs : List Value}
    (ih : ∀ (t : TypeId) (ss : List Sh) (cs : List Value) (x : DataW H × List MemPlace), shapes P n t = some ss → inEs Es ss → DataW.trod enc P w base (fun _ => true) held m t cs = some x → ∃ xs, All3 P w ss xs cs) :
    ∀ (l : List Field) (o : Nat) (ss : List Sh), shFields P (shapes P n) o l = some ss → inEs Es ss → o + ss.length ≤ cs.length →
      (∀ f ∈ l, ∃ x, DataW.trod enc P w base (fun _ => true) held m f.type ((cs.drop f.offset).take (P.cellsOf f.type)) = some x) → ∃ xs, All3 P w ss xs ((cs.drop o).take ss.length)
  | [], o, ss, h, _, _, _ => by simp [shFields] at h; subst h; exact ⟨[], by simpa using All3.nil⟩
  | f :: l, o, ss, h, hE, hlen, hf => by
    simp only [shFields] at h
    split at h
    case isFalse => cases h
    rename_i ho
    split at h
    case h_2 => cases h
    rename_i a ha
    split at h
    case isFalse => cases h
    rename_i hc
    split at h
    case h_2 => cases h
    rename_i b hb
    simp only [Option.some.injEq] at h
    subst h
    rw [List.length_append] at hlen ⊢
    obtain ⟨x, hx⟩ := hf f List.mem_cons_self
    rw [ho, hc] at hx
    obtain ⟨ys, hys⟩ := ih _ _ _ _ ha (fun e he => hE e (List.mem_append_left _ he)) hx
    obtain ⟨zs, hzs⟩ := fields_cells ih l (o + a.length) b hb (fun e he => hE e (List.mem_append_right _ he)) (by omega) (fun g hg => hf g (List.mem_cons_of_mem _ hg))
    refine ⟨ys ++ zs, ?_⟩
    have := hys.append hzs
    rwa [← List.drop_drop, ← List.take_add] at this
theorem rep_cells {H : Type} {enc : TypeId × Value → H} {base : Nat} {held : Bool} {Es : List TypeId} (hEs : okEs P Es = true) :
    ∀ (fuel n : Nat) (t : TypeId) (ss : List Sh) (cs : List Value) (x : DataW H × List MemPlace), shapes P n t = some ss → inEs Es ss → DataW.trod enc P w base (fun _ => true) held fuel t cs = some x → ∃ xs, All3 P w ss xs cs := by
  intro fuel
  induction fuel using Nat.strongRecOn with
  | ind fuel ih =>
    intro n t ss cs x hs hE h
    cases n with
    | zero => simp [shapes] at hs
    | succ n =>
      simp only [shapes] at hs
      split at hs
      · rename_i k hu
        simp only [Option.some.injEq] at hs; subst hs
        obtain ⟨z, rfl, _, hw⟩ := DataW.trod_int hu h
        exact ⟨[.int k z], .cons (.int hw) .int rfl .nil⟩
      · rename_i hu
        simp only [Option.some.injEq] at hs; subst hs
        obtain ⟨b, rfl, _⟩ := DataW.trod_bool hu h
        exact ⟨[.bool b], .cons .bool .bool rfl .nil⟩
      · rename_i hu
        simp only [Option.some.injEq] at hs; subst hs
        obtain ⟨b, rfl, _, hb⟩ := DataW.trod_string hu h
        exact ⟨[.str b], .cons (.str hb) .str rfl .nil⟩
      · rename_i e hu
        simp only [Option.some.injEq] at hs; subst hs
        obtain ⟨se, hse, hce, hpos, hEe⟩ := okEs_get hEs (hE e List.mem_cons_self)
        rcases DataW.trod_slice hu h with ⟨hcs, _⟩ | ⟨a', len, cap, elems, rest, m, hm, hcs, _, hbb, hl, hmx, hle, hel, _, _⟩
        · subst hcs
          exact ⟨[.fz se.length [] none], .cons (.sl hse (by simp) (by simp) (by simp) (by simp)) (.fz0 (by simp) (fun _ => ⟨rfl, rfl⟩)) rfl .nil⟩
        · subst hcs
          have each : ∀ i, i < len → ∃ q : List AV × List Value, All3 P w se q.1 q.2 ∧ ∀ (j : Nat) v, q.2[j]? = some v → w.cell? (a'.add (i * se.length + j)) = some v := by
            intro i hi
            have h1 := hel i hi
            rw [List.getElem?_eq_getElem (by omega), hce, Option.bind_eq_some_iff] at h1
            obtain ⟨cs', h3, h4⟩ := h1
            obtain ⟨xs, hx⟩ := ih m (by omega) 9 e se cs' _ hse hEe h4
            refine ⟨(xs, cs'), hx, fun j v hv => ?_⟩
            have hc := (World.cells?_some h3).2.2
            have hv' : cs'[j]? = some v := hv
            have hj : j < se.length := by have := (List.getElem?_eq_some_iff.1 hv').1; have := hx.len.2; omega
            have g := hc j hj
            rw [Ev.add_add] at g
            rw [g]; exact hv
          obtain ⟨f, hf⟩ : ∃ f : Nat → List AV × List Value, ∀ i, i < len → All3 P w se (f i).1 (f i).2 ∧ ∀ (j : Nat) v, (f i).2[j]? = some v → w.cell? (a'.add (i * se.length + j)) = some v :=
            ⟨fun i => if hi : i < len then Classical.choose (each i hi) else ([], []), fun i hi => by
              simp only [dif_pos hi]
              exact Classical.choose_spec (each i hi)⟩
          have hcE : ∀ i, i < len → cells (mkE P e (f i).1) = (f i).1 := fun i hi => cells_mkE hse (hf i hi).1
          obtain ⟨es, hes⟩ : ∃ es, es = (List.range len).map fun i => mkE P e (f i).1 := ⟨_, rfl⟩
          have hlen2 : es.length = len := by rw [hes]; simp
          have hget : ∀ (i : Nat) y, es[i]? = some y → i < len ∧ y = mkE P e (f i).1 := by
            intro i y hy
            have hi : i < len := by have := (List.getElem?_eq_some_iff.1 hy).1; omega
            rw [hes, List.getElem?_map, List.getElem?_range hi] at hy
            simp only [Option.map_some, Option.some.injEq] at hy
            exact ⟨hi, hy.symm⟩
          have hmem : ∀ y ∈ es, ∃ i, i < len ∧ y = mkE P e (f i).1 := by
            intro y hy
            obtain ⟨i, hi⟩ := List.mem_iff_getElem?.1 hy
            exact ⟨i, hget i y hi⟩
          refine ⟨[.fz se.length es none], .cons (.sl hse (by omega) (fun y hy => ?_) (fun y hy => ?_) (fun y hy j s c h1 h2 => ?_)) ?_ rfl .nil⟩
          · obtain ⟨i, hi, rfl⟩ := hmem y hy
            rw [hcE i hi]; exact (hf i hi).1.len.1
          · obtain ⟨i, hi, rfl⟩ := hmem y hy
            rw [hcE i hi]
          · obtain ⟨i, hi, rfl⟩ := hmem y hy
            rw [hcE i hi] at h2
            obtain ⟨s', v, h3, _, h4, _⟩ := (hf i hi).1.get j c h2
            rw [h1] at h3; cases h3
            exact h4
          · by_cases h0 : len = 0
            · subst h0
              have : es = [] := List.eq_nil_of_length_eq_zero hlen2
              subst this
              exact .fz0 (by simp) (fun e => by cases e)
            · have hsl : (Value.slice (some a') len cap) = .slice (some a') es.length cap := by rw [hlen2]
              rw [hsl]
              have one : ∀ (i : Nat) y (j : Nat) z, es[i]? = some y → (cells y)[j]? = some z → ∃ v, (f i).2[j]? = some v ∧ w.cell? (a'.add (i * se.length + j)) = some v ∧ Rep none4 (fun _ => False) zeroC w true z v ∧ v.oneCell' = true := by
                intro i y j z hy hj
                obtain ⟨hi, rfl⟩ := hget i y hy
                rw [hcE i hi] at hj
                obtain ⟨s', v, _, h3, _, h5, h6⟩ := (hf i hi).1.get j z hj
                exact ⟨v, h3, (hf i hi).2 j v h3, h5, h6⟩
              refine .fz (fun i j => ((f i).2[j]?).getD undef) (fun e => by rw [e] at hlen2; simp at hlen2; omega) (by omega) (by simp) (fun i y hy => ?_) (fun i y j z hy hj => ?_) (fun i y j z hy hj => ?_) (fun i y j z hy hj => ?_) ⟨fun _ _ _ h => h, fun h => h, ?_⟩
              · obtain ⟨hi, rfl⟩ := hget i y hy
                rw [hcE i hi]; exact (hf i hi).1.len.1
              · obtain ⟨v, h1, h2, _⟩ := one i y j z hy hj
                rw [h1]; exact h2
              · obtain ⟨v, h1, _, h2, _⟩ := one i y j z hy hj
                rw [h1]; exact h2
              · obtain ⟨v, h1, _, _, h2⟩ := one i y j z hy hj
                rw [h1]; exact h2
              · have hl2 := (hf 0 (by omega)).1.len.2
                have := World.block_lt_of_cell? w _ ((hf 0 (by omega)).2 0 _ (List.getElem?_eq_getElem (by omega)))
                rwa [Ev.add_block] at this
      · rename_i fs hu
        split at hs
        case h_2 => cases hs
        rename_i ss' hsf
        split at hs
        case isFalse => cases hs
        rename_i hct
        simp only [Option.some.injEq] at hs; subst hs
        obtain ⟨xs, m, hm, rfl, hl, hlen, hf⟩ := DataW.trod_struct hu h
        have hl' : cs.length = ss'.length := by omega
        obtain ⟨ys, hys⟩ := fields_cells (Es := Es) (n := n) (m := m) (cs := cs) (fun t ss cs x h1 h2 h3 => ih m (by omega) n t ss cs x h1 h2 h3) fs.toList 0 ss' hsf hE (by omega) (fun f hmemf => by
          obtain ⟨i, hi⟩ := List.mem_iff_getElem?.1 hmemf
          have hi' : fs[i]? = some f := by simpa using hi
          have h1 := hf i f hi'
          have hlt : i < xs.length := by have := (List.getElem?_eq_some_iff.1 hi).1; simp at this; omega
          rw [List.getElem?_eq_getElem hlt] at h1
          exact ⟨_, h1⟩)
        refine ⟨ys, ?_⟩
        rw [List.drop_zero, List.take_of_length_le (by omega)] at hys
        exact hys
      · cases hs
/-- An argument of a struct type. -/
theorem rep_struct {H : Type} {enc : TypeId × Value → H} {base : Nat} {held : Bool} (Es : List TypeId) {t : TypeId} {ss : List Sh} {vs : Array Value} {d : DataW H} {ps : List MemPlace}
    (hEs : okEs P Es = true) (hs : shapes P 9 t = some ss) (hE : inEs Es ss) (h : DataW.Trod enc P w base (fun _ => true) held t (.agg vs) d ps) :
    ∃ xs, xs.length = ss.length ∧ (∀ (j : Nat) s x, ss[j]? = some s → xs[j]? = some x → CellOk P s x) ∧ Rep none4 (fun _ => False) zeroC w true (.agg xs) (.agg vs) := by
  obtain ⟨fuel, hf⟩ := h
  obtain ⟨xs, hx⟩ := rep_cells hEs fuel 9 t ss _ _ hs hE hf
  have hcs : (Value.agg vs).cells.toList = vs.toList := rfl
  rw [hcs] at hx
  have hl := hx.len
  refine ⟨xs, hl.1, fun j s x h1 h2 => ?_, .agg (by rw [← Array.length_toList]; omega) (fun j x hj => ?_)⟩
  · obtain ⟨s', v, h3, _, h4, _⟩ := hx.get j x h2
    rw [h1] at h3; cases h3
    exact h4
  · obtain ⟨s', v, _, h3, _, h4, _⟩ := hx.get j x hj
    have : vs.getD j undef = v := by
      rw [Array.getElem?_toList] at h3
      rw [Array.getD_eq_getD_getElem?, h3]; rfl
    rw [this]; exact h4
/-- An argument of a slice's type. -/
theorem rep_slice {H : Type} {enc : TypeId × Value → H} {base : Nat} {held : Bool} (Es : List TypeId) {t e : TypeId} {a : Option Addr} {len cap : Nat} {d : DataW H} {ps : List MemPlace}
    (hEs : okEs P Es = true) (hs : P.underlying t = some (.slice e)) (hE : e ∈ Es) (h : DataW.Trod enc P w base (fun _ => true) held t (.slice a len cap) d ps) :
    ∃ x, CellOk P (.sl e) x ∧ Rep none4 (fun _ => False) zeroC w true x (.slice a len cap) := by
  obtain ⟨fuel, hf⟩ := h
  have hsh : shapes P 9 t = some [.sl e] := by simp only [shapes, hs]
  obtain ⟨xs, hx⟩ := rep_cells hEs fuel 9 t _ _ _ hsh (fun e' he' => by simp at he'; subst he'; exact hE) hf
  have hcs : (Value.slice a len cap).cells.toList = [.slice a len cap] := rfl
  rw [hcs] at hx
  have hl := hx.len
  match xs, hl with
  | [x], _ =>
    obtain ⟨s', v, h1, h3, h2, h4, _⟩ := hx.get 0 x rfl
    simp at h1 h3; subst h1 h3
    exact ⟨x, h2, h4⟩
  | [], hl => simp at hl
  | _ :: _ :: _, hl => simp at hl
end
end Go.Ev
/- Cells of known types, told as plain things: events, rows of bytes. -/
namespace Go.Ev
set_option linter.unusedVariables false
theorem CellOk.int_inv {P : Program} {k : IntKind} {x : AV} (h : CellOk P (.int k) x) : ∃ n, x = .int k n ∧ (Lit.int k n).wf = true := by
  cases h with | int h => exact ⟨_, rfl, h⟩
theorem CellOk.bool_inv {P : Program} {x : AV} (h : CellOk P .bool x) : ∃ b, x = .bool b := by
  cases h; exact ⟨_, rfl⟩
theorem CellOk.str_inv {P : Program} {x : AV} (h : CellOk P .str x) : ∃ s, x = .str s ∧ s.size ≤ maxLen := by
  cases h with | str h => exact ⟨_, rfl, h⟩
/-- Each element of a row of structs, by its cells. -/
theorem CellOk.sl_inv {P : Program} {e : TypeId} {ss : List Sh} {x : AV} (h : CellOk P (.sl e) x) (hs : shapes P 9 e = some ss) : ∃ es : List AV, x = .fz ss.length es none ∧ es.length ≤ maxLen ∧ ∀ y ∈ es, y = mkE P e (cells y) ∧ (cells y).length = ss.length ∧ ∀ (j : Nat) s c, ss[j]? = some s → (cells y)[j]? = some c → CellOk P s c := by
  cases h with
  | @sl _ ss' es hs' hlen hl hf h =>
    rw [hs] at hs'; cases hs'
    exact ⟨es, rfl, hlen, fun y hy => ⟨hf y hy, hl y hy, h y hy⟩⟩
theorem mkE_struct {P : Program} {e : TypeId} {fs : Array Field} (hu : P.underlying e = some (.struct fs)) (xs : List AV) : mkE P e xs = .agg xs := by simp [mkE, hu]
/-- A row whose elements are each told so. -/
theorem list_of {α : Type} (f : α → AV) : ∀ (es : List AV), (∀ y ∈ es, ∃ a, y = f a) → ∃ l : List α, es = l.map f
  | [], _ => ⟨[], rfl⟩
  | y :: es, h => by
    obtain ⟨a, rfl⟩ := h y List.mem_cons_self
    obtain ⟨l, rfl⟩ := list_of f es (fun z hz => h z (List.mem_cons_of_mem _ hz))
    exact ⟨a :: l, rfl⟩
theorem xtavs_map : ∀ ps : List ET, xtavs ps = ps.map xtv
  | [] => by simp [xtavs]
  | p :: ps => by simp only [xtavs, xtav_tv, List.map_cons, xtavs_map ps]
theorem dec_ets {P : Program} {tE : TypeId} {fs : Array Field} (hu : P.underlying tE = some (.struct fs)) (hs : shapes P 9 tE = some [.int .i64, .sl tE]) : ∀ {s : Sh} {x : AV}, CellOk P s x → s = .sl tE → ∃ ps : List ET, x = .fz 2 (xtavs ps) none := by
  intro s x h
  induction h with
  | int => intro e; cases e
  | bool => intro e; cases e
  | str => intro e; cases e
  | @sl e ss es hs' hlen hl hf h ih =>
    intro e0
    cases e0
    rw [hs] at hs'; cases hs'
    obtain ⟨l, hl2⟩ := list_of xtv es (fun y hy => by
      have h1 := hl y hy
      have h2 := hf y hy
      rw [mkE_struct hu] at h2
      match hc : cells y, h1 with
      | [c0, c1], _ =>
        obtain ⟨n, rfl, _⟩ := (h y hy 0 _ c0 rfl (by rw [hc]; rfl)).int_inv
        obtain ⟨ps, rfl⟩ := ih y hy 1 _ c1 rfl (by rw [hc]; rfl) rfl
        rw [hc] at h2
        exact ⟨.mk n ps, h2⟩
      | [], h1 => simp at h1
      | [_], h1 => simp at h1
      | _ :: _ :: _ :: _, h1 => simp at h1)
    exact ⟨l, by rw [xtavs_map, ← hl2]; rfl⟩
theorem dec_ecells {P : Program} {tE : TypeId} {fs : Array Field} (hu : P.underlying tE = some (.struct fs)) (hs : shapes P 9 tE = some [.int .i64, .sl tE]) {xs : List AV} (hl : xs.length = 2)
    (h : ∀ (j : Nat) s x, ([.int .i64, .sl tE] : List Sh)[j]? = some s → xs[j]? = some x → CellOk P s x) : ∃ e : ET, xs = [.int .i64 e.n, .fz 2 (xtavs e.ps) none] := by
  match xs, hl with
  | [x0, x1], _ =>
    obtain ⟨n0, rfl, _⟩ := (h 0 _ x0 rfl rfl).int_inv
    obtain ⟨ps, rfl⟩ := dec_ets hu hs (h 1 _ x1 rfl rfl) rfl
    exact ⟨.mk n0 ps, rfl⟩
theorem dec_bytes {P : Program} {tB : TypeId} (hu : P.underlying tB = some (.int .u8)) {x : AV} (h : CellOk P (.sl tB) x) : ∃ bs : List Nat, x = .fz 1 (avs bs) none ∧ ∀ b ∈ bs, b < 256 := by
  have hs : shapes P 9 tB = some [.int .u8] := by simp only [shapes, hu]
  obtain ⟨es, rfl, _, he⟩ := h.sl_inv hs
  have key : ∀ y ∈ es, ∃ b : Nat, y = .int .u8 (b : Nat) ∧ b < 256 := by
    intro y hy
    obtain ⟨h1, h2, h3⟩ := he y hy
    match hc : cells y, h2 with
    | [c0], _ =>
      obtain ⟨n, rfl, hw⟩ := (h3 0 _ c0 rfl (by rw [hc]; rfl)).int_inv
      rw [hc] at h1
      simp [Lit.wf, IntKind.min, IntKind.max, IntKind.signed, IntKind.bits] at hw
      refine ⟨n.toNat, ?_, by omega⟩
      rw [h1]; simp only [mkE, hu, List.headD]; congr 1; omega
    | [], h2 => simp at h2
    | _ :: _ :: _, h2 => simp at h2
  obtain ⟨l, rfl⟩ := list_of (fun b : {b : Nat // b < 256} => AV.int .u8 ((b.1 : Nat) : Int)) es (fun y hy => by
    obtain ⟨b, h1, h2⟩ := key y hy
    exact ⟨⟨b, h2⟩, h1⟩)
  refine ⟨l.map (·.1), by simp [avs], ?_⟩
  intro b hb
  obtain ⟨a, _, rfl⟩ := List.mem_map.1 hb
  exact a.2
end Go.Ev
/- Versions out of a row's reading of the arguments. -/
namespace Go.Proofs.Ytmokhopjnjecbab
open Go.Ev
set_option linter.unusedVariables false
/-- The cells of a version. -/
theorem dec_vcells {P : Program} {tE : TypeId} {fs : Array Field} (hu : P.underlying tE = some (.struct fs)) (hs : shapes P 9 tE = some [.int .i64, .sl tE]) {xs : List AV} (hl : xs.length = 7)
    (h : ∀ (j : Nat) s x, ([.int .i64, .int .i64, .str, .str, .bool, .int .i64, .sl tE] : List Sh)[j]? = some s → xs[j]? = some x → CellOk P s x) : ∃ v : Ver, xs = vcs v := by
  match xs, hl with
  | [x0, x1, x2, x3, x4, x5, x6], _ =>
    obtain ⟨n0, rfl, _⟩ := (h 0 _ x0 rfl rfl).int_inv
    obtain ⟨n1, rfl, _⟩ := (h 1 _ x1 rfl rfl).int_inv
    obtain ⟨s2, rfl, _⟩ := (h 2 _ x2 rfl rfl).str_inv
    obtain ⟨s3, rfl, _⟩ := (h 3 _ x3 rfl rfl).str_inv
    obtain ⟨b4, rfl⟩ := (h 4 _ x4 rfl rfl).bool_inv
    obtain ⟨n5, rfl, _⟩ := (h 5 _ x5 rfl rfl).int_inv
    obtain ⟨ps, rfl⟩ := dec_ets hu hs (h 6 _ x6 rfl rfl) rfl
    exact ⟨⟨n0, n1, s2, s3, b4, .mk n5 ps⟩, rfl⟩
theorem dec_vers {P : Program} {tE tV : TypeId} {fs fs2 : Array Field} (hu : P.underlying tE = some (.struct fs)) (hs : shapes P 9 tE = some [.int .i64, .sl tE]) (hu2 : P.underlying tV = some (.struct fs2))
    (hs2 : shapes P 9 tV = some [.int .i64, .int .i64, .str, .str, .bool, .int .i64, .sl tE]) {x : AV} (h : CellOk P (.sl tV) x) : ∃ l : List Ver, x = .fz 7 (l.map vv) none ∧ l.length ≤ maxLen := by
  obtain ⟨es, rfl, hlen, he⟩ := h.sl_inv hs2
  obtain ⟨l, rfl⟩ := list_of vv es (fun y hy => by
    obtain ⟨h1, h2, h3⟩ := he y hy
    rw [mkE_struct hu2] at h1
    obtain ⟨v, hv⟩ := dec_vcells hu hs (xs := cells y) h2 h3
    exact ⟨v, by rw [h1, hv]⟩)
  exact ⟨l, rfl, by simpa using hlen⟩
end Go.Proofs.Ytmokhopjnjecbab
/- THE LAW VersionBytes: whatever versions and whatever bytes, what Put writes Get takes again: the row's function answers true and leaves memory as it was.
   The walks step through the compiled bodies; here the row's reading of the arguments is opened and the answer shut. -/
namespace Go.Proofs.Ytmokhopjnjecbab.versionBytes
open Go.ChangeShapes Go.WideShapes Go.ChangeAt Go.RowKit
open Go.Ev (PCalls Rep Reps none4 avs)
set_option linter.unusedVariables false
set_option maxRecDepth 100000
theorem own : ownKnob Try.prog.godebug = none := by kernel_rfl
theorem laidOut : laidOutB Try.prog = true := by kernel_rfl
theorem lifted (os : Os) (started : os.Started) (H : Type) (enc : TypeId × Value → H) :
    ReturnsInHanded {} Try.checked os 7 .any (Rows.versionBytesSpec.pre6 enc Try.prog Try.f7 Rows.versionBytesRow.domain false) (Rows.versionBytesSpec.post enc Try.prog Try.f7 false true false false) := by
  refine returnsInHanded_of_change_sized (C := Try.checked) own started (by kernel_rfl) Try.func7
    (ChangeSpec.witness6 (enc := enc) (C := Try.checked) false ⟨#[], #[.slice none 0 0, .slice none 0 0, .int .u8 0], []⟩ 8 (by kernel_rfl) (by kernel_rfl) (by kernel_rfl) (by kernel_rfl)) ?_
  intro W base args ds gs before hval0 hW hcnd hsz0 _
  have hval : ∀ (j : Nat) t v, Try.f7.params[j]? = some t → args[j]? = some v → Value.okWide Try.prog W .any base t v := hval0
  have hW' := hW
  obtain ⟨p, q, hA0, hV, rfl, hfz, hnd⟩ := hW
  have hA : DataW.TrodAll enc Try.prog W 0 (fun _ => true) true Try.f7.params.toList args.toList ds p := hA0
  rw [Try.params7] at hA hval
  obtain ⟨v0, vs0, d0, ds0, p0, q0, hargs, rfl, rfl, h0, r0⟩ := trodAll_cons hA
  obtain ⟨v1, vs1, d1, ds1, p1, q1, rfl, rfl, rfl, h1, r1⟩ := trodAll_cons r0
  obtain ⟨v2, vs2, d2, ds2, p2, q2, rfl, rfl, rfl, h2, r2⟩ := trodAll_cons r1
  obtain ⟨rfl, rfl, rfl⟩ := trodAll_nil r2
  obtain rfl : args = #[v0, v1, v2] := by cases args; simp_all
  obtain ⟨rfl, rfl⟩ := trodVars_none hV
  have k0 := h0
  have lt0 : ∀ x ∈ p0, x.block < W.heap.size := by obtain ⟨m, hm⟩ := k0; exact DataW.trod_lt m _ _ _ hm
  obtain ⟨a0, len0, cap0, rfl⟩ := okWide_slice Try.underlying37 (hval 0 37 v0 rfl rfl)
  obtain ⟨x0, hxc0, hrep0⟩ := Go.Ev.rep_slice [44,42] (by kernel_rfl) Try.underlying37 (by decide) h0
  obtain ⟨z0, hz0⟩ := dec_vers Try.underlying42 (by kernel_rfl) Try.underlying44 (by kernel_rfl) hxc0
  obtain ⟨hz0, hy0⟩ := hz0
  rw [hz0] at hrep0
  have k1 := h1
  have lt1 : ∀ x ∈ p1, x.block < W.heap.size := by obtain ⟨m, hm⟩ := k1; exact DataW.trod_lt m _ _ _ hm
  obtain ⟨a1, len1, cap1, rfl⟩ := okWide_slice Try.underlying76 (hval 1 76 v1 rfl rfl)
  obtain ⟨x1, hxc1, hrep1⟩ := Go.Ev.rep_slice [5] (by kernel_rfl) Try.underlying76 (by decide) h1
  obtain ⟨z1, hz1⟩ := Go.Ev.dec_bytes Try.underlying5 hxc1
  obtain ⟨hz1, hy1⟩ := hz1
  rw [hz1] at hrep1
  have k2 := h2
  have lt2 : ∀ x ∈ p2, x.block < W.heap.size := by obtain ⟨m, hm⟩ := k2; exact DataW.trod_lt m _ _ _ hm
  obtain ⟨n2, rfl, _, _, hwf2⟩ := open_int Try.underlying5 (hval 2 5 v2 rfl rfl) h2
  obtain ⟨m2, rfl, hm2⟩ : ∃ m : Nat, n2 = (m : Int) ∧ m < 256 := by
    simp [Lit.wf, IntKind.min, IntKind.max, IntKind.signed, IntKind.bits] at hwf2
    exact ⟨n2.toNat, by omega, by omega⟩
  refine ((verbytes_law z0 hy0 z1 hy1 m2 hm2).calls (fun _ => False) W [.slice a0 len0 cap0, .slice a1 len1 cap1, .int .u8 (m2 : Int)] (fun _ h => h.elim) (.cons hrep0 (.cons hrep1 (.cons .int .nil)))).mono fun e W' he => ?_
  obtain ⟨v, rfl, bel, hv⟩ := he
  cases hv
  exact ⟨_, rfl, _, _, _, [], _, [], hW', trodAll_mk1 (shut_bool Try.underlying4 _), (trodAll_cons_mk (Below.trod laidOut (by kernel_rfl) (of_decide_eq_true (by kernel_rfl)) k0 bel lt0) (trodAll_cons_mk (Below.trod laidOut (by kernel_rfl) (of_decide_eq_true (by kernel_rfl)) k1 bel lt1) (trodAll_cons_mk (Below.trod laidOut (by kernel_rfl) (of_decide_eq_true (by kernel_rfl)) k2 bel lt2) trodAll_mk0))), rfl, bel.frame _, fun h => by cases h⟩
theorem over : Rows.versionBytesRow.holds Try.pinned (OpenSpec.ofChange Rows.versionBytesSpec) :=
  OpenClaim.holds_of_wide 7 Try.f7 rfl rfl rfl rfl rfl rfl rfl ⟨rfl, rfl, rfl, rfl, rfl⟩ rfl rfl rfl rfl rfl (by kernel_rfl) Try.func7 (by kernel_rfl)
    (of_decide_eq_true (by kernel_rfl)) (by unfold Func.isWrapper; first | (rw [if_pos (by decide +kernel)]; kernel_rfl) | (rw [if_neg (by decide +kernel)]; exact ⟨rfl, rfl⟩))
    (fun os started H enc _ => lifted os started H enc)
theorem proved : Rows.VersionBytesSaid := over
#print axioms proved
end Go.Proofs.Ytmokhopjnjecbab.versionBytes
namespace Go.Proofs.Ytmokhopjnjecbab
/-- The row, under a short name, for the claim. -/
theorem versionBytes_holds : Rows.VersionBytesSaid := versionBytes.proved
end Go.Proofs.Ytmokhopjnjecbab
