/- THE LAW NetPlays: what is sent is under way till it is taken; it may be doubled and spoilt, nothing else: the row's function answers true and leaves memory as it was.
   The walks step through the compiled bodies; here the row's reading of the arguments is opened and the answer shut. -/
import Derived.Test.YtmokhopjnjecbaaM3
import Derived.ProofKit
import Derived.OpenShut
import Derived.ShutString
import Derived.ChangeOld
import Derived.ChangeMaps5
import Derived.Below
import Derived.SizedLaws
-- short
-- fuel 300
namespace Go.Proofs.Ytmokhopjnjecbaa
open Go.Ev
set_option linter.unusedVariables false
set_option linter.unusedSimpArgs false
set_option maxRecDepth 100000
set_option maxHeartbeats 3200000
theorem net_double_full (L pre post : List NAct) (k : Nat) (a : Int) (v : Nat) (p : Prc) (A0 B0 : List Prc) (q : Prc) (hf : 40 ≤ (A0 ++ q :: B0).length) (hL : L = pre ++ ⟨k, (A0.length : Nat), a, v, p⟩ :: post) (hx : NActOk ⟨k, (A0.length : Nat), a, v, p⟩) (hb : p.b.length ≤ 500) (hk : k % 4 = 2) (ho : PrcsOk (A0 ++ q :: B0)) (hLl : L.length ≤ 1000) (h : ∀ nx, NLoop L (pre.length + 1) (A0 ++ q :: B0) nx) (nx : Ctr) : NLoop L pre.length (A0 ++ q :: B0) nx := by
  have hlt : pre.length < L.length := by rw [hL]; simp
  have g0 : (L.map actv)[((pre.length : Nat) : Int).toNat]? = some (actv ⟨k, (A0.length : Nat), a, v, p⟩) := by
    rw [Int.toNat_natCast, hL, List.getElem?_map, List.getElem?_append_right (Nat.le_refl _), Nat.sub_self]; rfl
  have w1 : IntKind.i64.wrap ((pre.length : Int) + 1) = ((pre.length + 1 : Nat) : Int) := by rw [wrap64 (by omega) (by omega)]; omega
  have em := kmod hk
  try simp only [Int.ofNat_zero, Int.ofNat_one] at em
  have ho1 := ho.1
  simp only [List.length_append, List.length_cons, List.length_nil] at ho1
  have hqm : q ∈ A0 ++ q :: B0 := by simp
  have hq := ho.2 q hqm
  have hlN : (A0 ++ q :: B0).length = A0.length + (B0.length + 1) := by simp
  have k0 : ¬ ((A0.length : Nat) : Int) < 0 := by omega
  have k1 : ((A0.length : Nat) : Int) < ((A0.length + (B0.length + 1) : Nat) : Int) := by omega
  have k3 : ¬ A0.length + (B0.length + 1) = 0 := by omega
  have g1 : ((A0 ++ q :: B0).map pav)[((A0.length : Nat) : Int).toNat]? = some (pav q) := by
    rw [Int.toNat_natCast, List.getElem?_map, List.getElem?_append_right (Nat.le_refl _), Nat.sub_self]; rfl
  have hcl := pcs_cat (A0 ++ q :: B0)
  have hPl : (pcs (A0 ++ q :: B0)).length = (A0.length + (B0.length + 1)) * 2 := by rw [pcs_len, hlN]
  rw [hlN] at hf
  have cs := same_calls (A0 ++ q :: B0) (by rw [hlN]; omega) (fun p hp => (ho.2 p hp).2)
  have cl := fun nx => len_h (A0 ++ q :: B0) nx
  obtain ⟨g, nx2, ca⟩ := all_some (A0 ++ q :: B0) (by rw [hlN]; omega) (fun p hp => (ho.2 p hp).1) (by simp) (bump nx 6)
  have cd := double_full A0 B0 q (by rw [hlN]; exact hf) (bump nx 6)
  have hT : (pcs (A0 ++ q :: B0)).take ((A0.length + (B0.length + 1)) * 2) = pcs (A0 ++ q :: B0) := List.take_of_length_le (by rw [pcs_len]; simp; try omega)
  have hC : chunk 2 (A0.length + (B0.length + 1)) (pcs (A0 ++ q :: B0)) = (A0 ++ q :: B0).map pav := by
    have := chunk_pcs (A0 ++ q :: B0); rwa [show (A0 ++ q :: B0).length = A0.length + (B0.length + 1) by simp; try omega] at this
  have hP : (pcs (A0 ++ q :: B0)).length = (A0.length + (B0.length + 1)) * 2 := by rw [pcs_len]; simp; try omega
  simp only [List.length_append, List.length_cons] at ca cl
  have hh := h
  refine round (its := [.blk 0 wb_law19_NetPlays_0]) (k0 := [.c c_law19_NetPlays_k0]) 300 trivial trivial (fun A eA => ?_)
  simp (disch := first | omega | (simp only [avs_len, List.length_cons, List.length_append, List.length_nil, List.length_take, List.length_drop, List.length_map]; omega) | (simp only [cells, scal1, allSz, List.length_cons, List.length_nil, List.length_append, List.length_map, List.all_cons, List.all_nil, avs_len, beq_self_eq_true, Bool.and_self, and_self, or_true, true_or, reduceCtorEq, *]; done) | fail) only [c_law19_NetPlays, wl_law19_NetPlays_0, s_law19_NetPlays_0, c_law19_NetPlays_l0, wb_law19_NetPlays_0, c_law19_NetPlays_k0, go_sem, Nat.reduceAdd, Nat.reduceSub, Nat.reduceMul, Nat.reduceLT, Nat.reduceLeDiff, Int.reduceToNat, Nat.reduceEqDiff, Nat.reduceBEq, ↓reduceIte, reduceCtorEq, eA, scal1, List.all_cons, List.all_nil, Bool.and_self, ↓optI_of g0, avs_len, em, k0, k1, List.length_map, List.length_append, List.length_cons, List.length_nil]
  refine call2 300 trivial trivial [(0, 3)] rfl rfl cd (.inr ⟨rfl, rfl⟩) (fun A eA => ?_)
  simp (disch := first | omega | (simp only [avs_len, List.length_cons, List.length_append, List.length_nil, List.length_take, List.length_drop, List.length_map]; omega) | (simp only [cells, scal1, allSz, List.length_cons, List.length_nil, List.length_append, List.length_map, List.all_cons, List.all_nil, avs_len, beq_self_eq_true, Bool.and_self, and_self, or_true, true_or, reduceCtorEq, *]; done) | fail) only [c_law19_NetPlays, wl_law19_NetPlays_0, s_law19_NetPlays_0, c_law19_NetPlays_l0, wb_law19_NetPlays_0, c_law19_NetPlays_k0, go_sem, Nat.reduceAdd, Nat.reduceSub, Nat.reduceMul, Nat.reduceLT, Nat.reduceLeDiff, Int.reduceToNat, Nat.reduceEqDiff, Nat.reduceBEq, ↓reduceIte, reduceCtorEq, eA, scal1, List.all_cons, List.all_nil, Bool.and_self, List.length_map, List.length_append, List.length_cons, List.length_nil]
  refine call2 300 trivial trivial [(0, 3)] rfl rfl ca (.inr ⟨rfl, by simp only [heapFree, pcs_free, Bool.and_self]; rfl⟩) (fun A eA => ?_)
  simp (disch := first | omega | (simp only [avs_len, List.length_cons, List.length_append, List.length_nil, List.length_take, List.length_drop, List.length_map]; omega) | (simp only [cells, scal1, allSz, List.length_cons, List.length_nil, List.length_append, List.length_map, List.all_cons, List.all_nil, avs_len, beq_self_eq_true, Bool.and_self, and_self, or_true, true_or, reduceCtorEq, *]; done) | fail) only [c_law19_NetPlays, wl_law19_NetPlays_0, s_law19_NetPlays_0, c_law19_NetPlays_l0, wb_law19_NetPlays_0, c_law19_NetPlays_k0, go_sem, Nat.reduceAdd, Nat.reduceSub, Nat.reduceMul, Nat.reduceLT, Nat.reduceLeDiff, Int.reduceToNat, Nat.reduceEqDiff, Nat.reduceBEq, ↓reduceIte, reduceCtorEq, eA, scal1, List.all_cons, List.all_nil, Bool.and_self, hT, hC, hP, ↓frz_pcs]
  refine call3 300 trivial trivial cs (fun A eA => ?_)
  simp (disch := first | omega | (simp only [avs_len, List.length_cons, List.length_append, List.length_nil, List.length_take, List.length_drop, List.length_map]; omega) | (simp only [cells, scal1, allSz, List.length_cons, List.length_nil, List.length_append, List.length_map, List.all_cons, List.all_nil, avs_len, beq_self_eq_true, Bool.and_self, and_self, or_true, true_or, reduceCtorEq, *]; done) | fail) only [c_law19_NetPlays, wl_law19_NetPlays_0, s_law19_NetPlays_0, c_law19_NetPlays_l0, wb_law19_NetPlays_0, c_law19_NetPlays_k0, go_sem, Nat.reduceAdd, Nat.reduceSub, Nat.reduceMul, Nat.reduceLT, Nat.reduceLeDiff, Int.reduceToNat, Nat.reduceEqDiff, Nat.reduceBEq, ↓reduceIte, reduceCtorEq, eA, scal1, List.all_cons, List.all_nil, Bool.and_self, hT, hC, hP, ↓frz_pcs]
  refine call2 300 trivial trivial [(0, 3)] rfl rfl (cl _) (.inr ⟨rfl, rfl⟩) (fun A eA => ?_)
  simp (disch := first | omega | (simp only [avs_len, List.length_cons, List.length_append, List.length_nil, List.length_take, List.length_drop, List.length_map]; omega) | (simp only [cells, scal1, allSz, List.length_cons, List.length_nil, List.length_append, List.length_map, List.all_cons, List.all_nil, avs_len, beq_self_eq_true, Bool.and_self, and_self, or_true, true_or, reduceCtorEq, *]; done) | fail) only [c_law19_NetPlays, wl_law19_NetPlays_0, s_law19_NetPlays_0, c_law19_NetPlays_l0, wb_law19_NetPlays_0, c_law19_NetPlays_k0, go_sem, Nat.reduceAdd, Nat.reduceSub, Nat.reduceMul, Nat.reduceLT, Nat.reduceLeDiff, Int.reduceToNat, Nat.reduceEqDiff, Nat.reduceBEq, ↓reduceIte, reduceCtorEq, eA, scal1, List.all_cons, List.all_nil, Bool.and_self, List.length_map, List.length_append, List.length_cons, List.length_nil, w1]
  exact hh _
theorem net_double_ok (L pre post : List NAct) (k : Nat) (a : Int) (v : Nat) (p : Prc) (A0 B0 : List Prc) (q : Prc) (hf : (A0 ++ q :: B0).length < 40) (hL : L = pre ++ ⟨k, (A0.length : Nat), a, v, p⟩ :: post) (hx : NActOk ⟨k, (A0.length : Nat), a, v, p⟩) (hb : p.b.length ≤ 500) (hk : k % 4 = 2) (ho : PrcsOk (A0 ++ q :: B0)) (hLl : L.length ≤ 1000) (h : ∀ nx, NLoop L (pre.length + 1) ((A0 ++ q :: B0) ++ [q]) nx) (nx : Ctr) : NLoop L pre.length (A0 ++ q :: B0) nx := by
  have hlt : pre.length < L.length := by rw [hL]; simp
  have g0 : (L.map actv)[((pre.length : Nat) : Int).toNat]? = some (actv ⟨k, (A0.length : Nat), a, v, p⟩) := by
    rw [Int.toNat_natCast, hL, List.getElem?_map, List.getElem?_append_right (Nat.le_refl _), Nat.sub_self]; rfl
  have w1 : IntKind.i64.wrap ((pre.length : Int) + 1) = ((pre.length + 1 : Nat) : Int) := by rw [wrap64 (by omega) (by omega)]; omega
  have em := kmod hk
  try simp only [Int.ofNat_zero, Int.ofNat_one] at em
  have ho1 := ho.1
  simp only [List.length_append, List.length_cons, List.length_nil] at ho1
  have hqm : q ∈ A0 ++ q :: B0 := by simp
  have hq := ho.2 q hqm
  have hlN : (A0 ++ q :: B0).length = A0.length + (B0.length + 1) := by simp
  have k0 : ¬ ((A0.length : Nat) : Int) < 0 := by omega
  have k1 : ((A0.length : Nat) : Int) < ((A0.length + (B0.length + 1) : Nat) : Int) := by omega
  have k3 : ¬ A0.length + (B0.length + 1) = 0 := by omega
  have g1 : ((A0 ++ q :: B0).map pav)[((A0.length : Nat) : Int).toNat]? = some (pav q) := by
    rw [Int.toNat_natCast, List.getElem?_map, List.getElem?_append_right (Nat.le_refl _), Nat.sub_self]; rfl
  have hcl := pcs_cat (A0 ++ q :: B0)
  have hPl : (pcs (A0 ++ q :: B0)).length = (A0.length + (B0.length + 1)) * 2 := by rw [pcs_len, hlN]
  obtain ⟨nx1, cd⟩ := double_ok A0 B0 q hf hq.1 (bump nx 6)
  rw [hlN] at hf
  obtain ⟨l2, hl2⟩ : ∃ l2, l2 = (A0 ++ q :: B0) ++ [q] := ⟨_, rfl⟩
  have hl2n : l2.length = A0.length + (B0.length + 1) + 1 := by rw [hl2]; simp; omega
  have hall : ∀ p ∈ l2, p.b.length ≤ 500 ∧ ∀ b ∈ p.b, b < 256 := by
    intro p hp
    rw [hl2] at hp
    rcases List.mem_append.1 hp with hp | hp
    · exact ho.2 p hp
    · rw [List.mem_singleton] at hp; subst hp; exact hq
  have hap : pcs (A0 ++ q :: B0) ++ [.int .i64 q.n, bv q.b] = pcs l2 := by rw [hl2]; exact pcs_app (A0 ++ q :: B0) [q]
  have hT : (pcs l2).take ((A0.length + (B0.length + 1) + 1) * 2) = pcs l2 := List.take_of_length_le (by rw [pcs_len, hl2n]; omega)
  have hC : chunk 2 (A0.length + (B0.length + 1) + 1) (pcs l2) = l2.map pav := by rw [← hl2n]; exact chunk_pcs l2
  have hP : (pcs l2).length = (A0.length + (B0.length + 1) + 1) * 2 := by rw [pcs_len, hl2n]
  have cs := same_calls l2 (by omega) (fun p hp => (hall p hp).2)
  have cl := fun nx => len_h l2 nx
  obtain ⟨g, nx2, ca⟩ := all_some l2 (by omega) (fun p hp => (hall p hp).1) (by rw [hl2]; simp) (bump (bump nx1 192) 192)
  rw [hl2n] at ca
  simp only [hl2n] at cl
  rw [← hl2] at cd h
  refine round (its := [.blk 0 wb_law19_NetPlays_0]) (k0 := [.c c_law19_NetPlays_k0]) 300 trivial trivial (fun A eA => ?_)
  simp (disch := first | omega | (simp only [avs_len, List.length_cons, List.length_append, List.length_nil, List.length_take, List.length_drop, List.length_map]; omega) | (simp only [cells, scal1, allSz, List.length_cons, List.length_nil, List.length_append, List.length_map, List.all_cons, List.all_nil, avs_len, beq_self_eq_true, Bool.and_self, and_self, or_true, true_or, reduceCtorEq, *]; done) | fail) only [c_law19_NetPlays, wl_law19_NetPlays_0, s_law19_NetPlays_0, c_law19_NetPlays_l0, wb_law19_NetPlays_0, c_law19_NetPlays_k0, go_sem, Nat.reduceAdd, Nat.reduceSub, Nat.reduceMul, Nat.reduceLT, Nat.reduceLeDiff, Int.reduceToNat, Nat.reduceEqDiff, Nat.reduceBEq, ↓reduceIte, reduceCtorEq, eA, scal1, List.all_cons, List.all_nil, Bool.and_self, ↓optI_of g0, avs_len, em, k0, k1, List.length_map, List.length_append, List.length_cons, List.length_nil]
  refine call2 300 trivial trivial [(0, 3)] rfl rfl cd (.inr ⟨rfl, rfl⟩) (fun A eA => ?_)
  simp (disch := first | omega | (simp only [avs_len, List.length_cons, List.length_append, List.length_nil, List.length_take, List.length_drop, List.length_map]; omega) | (simp only [cells, scal1, allSz, List.length_cons, List.length_nil, List.length_append, List.length_map, List.all_cons, List.all_nil, avs_len, beq_self_eq_true, Bool.and_self, and_self, or_true, true_or, reduceCtorEq, *]; done) | fail) only [c_law19_NetPlays, wl_law19_NetPlays_0, s_law19_NetPlays_0, c_law19_NetPlays_l0, wb_law19_NetPlays_0, c_law19_NetPlays_k0, go_sem, Nat.reduceAdd, Nat.reduceSub, Nat.reduceMul, Nat.reduceLT, Nat.reduceLeDiff, Int.reduceToNat, Nat.reduceEqDiff, Nat.reduceBEq, ↓reduceIte, reduceCtorEq, eA, scal1, List.all_cons, List.all_nil, Bool.and_self, ↓optI_of g1, k0, k1, k3, List.length_map, List.length_append, List.length_cons, List.length_nil, catCells, ↓appK, allSz, beq_self_eq_true, hcl, hPl, hap]
  refine call2 300 trivial trivial [(0, 3)] rfl rfl ca (.inr ⟨rfl, by simp only [heapFree, pcs_free, Bool.and_self]; rfl⟩) (fun A eA => ?_)
  simp (disch := first | omega | (simp only [avs_len, List.length_cons, List.length_append, List.length_nil, List.length_take, List.length_drop, List.length_map]; omega) | (simp only [cells, scal1, allSz, List.length_cons, List.length_nil, List.length_append, List.length_map, List.all_cons, List.all_nil, avs_len, beq_self_eq_true, Bool.and_self, and_self, or_true, true_or, reduceCtorEq, *]; done) | fail) only [c_law19_NetPlays, wl_law19_NetPlays_0, s_law19_NetPlays_0, c_law19_NetPlays_l0, wb_law19_NetPlays_0, c_law19_NetPlays_k0, go_sem, Nat.reduceAdd, Nat.reduceSub, Nat.reduceMul, Nat.reduceLT, Nat.reduceLeDiff, Int.reduceToNat, Nat.reduceEqDiff, Nat.reduceBEq, ↓reduceIte, reduceCtorEq, eA, scal1, List.all_cons, List.all_nil, Bool.and_self, hT, hC, hP, ↓frz_pcs]
  refine call3 300 trivial trivial cs (fun A eA => ?_)
  simp (disch := first | omega | (simp only [avs_len, List.length_cons, List.length_append, List.length_nil, List.length_take, List.length_drop, List.length_map]; omega) | (simp only [cells, scal1, allSz, List.length_cons, List.length_nil, List.length_append, List.length_map, List.all_cons, List.all_nil, avs_len, beq_self_eq_true, Bool.and_self, and_self, or_true, true_or, reduceCtorEq, *]; done) | fail) only [c_law19_NetPlays, wl_law19_NetPlays_0, s_law19_NetPlays_0, c_law19_NetPlays_l0, wb_law19_NetPlays_0, c_law19_NetPlays_k0, go_sem, Nat.reduceAdd, Nat.reduceSub, Nat.reduceMul, Nat.reduceLT, Nat.reduceLeDiff, Int.reduceToNat, Nat.reduceEqDiff, Nat.reduceBEq, ↓reduceIte, reduceCtorEq, eA, scal1, List.all_cons, List.all_nil, Bool.and_self, hT, hC, hP, ↓frz_pcs]
  refine call2 300 trivial trivial [(0, 3)] rfl rfl (cl _) (.inr ⟨rfl, rfl⟩) (fun A eA => ?_)
  simp (disch := first | omega | (simp only [avs_len, List.length_cons, List.length_append, List.length_nil, List.length_take, List.length_drop, List.length_map]; omega) | (simp only [cells, scal1, allSz, List.length_cons, List.length_nil, List.length_append, List.length_map, List.all_cons, List.all_nil, avs_len, beq_self_eq_true, Bool.and_self, and_self, or_true, true_or, reduceCtorEq, *]; done) | fail) only [c_law19_NetPlays, wl_law19_NetPlays_0, s_law19_NetPlays_0, c_law19_NetPlays_l0, wb_law19_NetPlays_0, c_law19_NetPlays_k0, go_sem, Nat.reduceAdd, Nat.reduceSub, Nat.reduceMul, Nat.reduceLT, Nat.reduceLeDiff, Int.reduceToNat, Nat.reduceEqDiff, Nat.reduceBEq, ↓reduceIte, reduceCtorEq, eA, scal1, List.all_cons, List.all_nil, Bool.and_self, List.length_map, List.length_append, List.length_cons, List.length_nil, hl2n, w1]
  exact h _
theorem net_spoil_nil (L pre post : List NAct) (k : Nat) (a : Int) (v : Nat) (p : Prc) (A0 B0 : List Prc) (q : Prc) (hne : q.b = []) (hL : L = pre ++ ⟨k, (A0.length : Nat), a, v, p⟩ :: post) (hx : NActOk ⟨k, (A0.length : Nat), a, v, p⟩) (hb : p.b.length ≤ 500) (hk : k % 4 = 3) (ho : PrcsOk (A0 ++ q :: B0)) (hLl : L.length ≤ 1000) (h : ∀ nx, NLoop L (pre.length + 1) (A0 ++ q :: B0) nx) (nx : Ctr) : NLoop L pre.length (A0 ++ q :: B0) nx := by
  have hlt : pre.length < L.length := by rw [hL]; simp
  have g0 : (L.map actv)[((pre.length : Nat) : Int).toNat]? = some (actv ⟨k, (A0.length : Nat), a, v, p⟩) := by
    rw [Int.toNat_natCast, hL, List.getElem?_map, List.getElem?_append_right (Nat.le_refl _), Nat.sub_self]; rfl
  have w1 : IntKind.i64.wrap ((pre.length : Int) + 1) = ((pre.length + 1 : Nat) : Int) := by rw [wrap64 (by omega) (by omega)]; omega
  have em := kmod hk
  try simp only [Int.ofNat_zero, Int.ofNat_one] at em
  have ho1 := ho.1
  simp only [List.length_append, List.length_cons, List.length_nil] at ho1
  have hqm : q ∈ A0 ++ q :: B0 := by simp
  have hq := ho.2 q hqm
  have hlN : (A0 ++ q :: B0).length = A0.length + (B0.length + 1) := by simp
  have k0 : ¬ ((A0.length : Nat) : Int) < 0 := by omega
  have k1 : ((A0.length : Nat) : Int) < ((A0.length + (B0.length + 1) : Nat) : Int) := by omega
  have k3 : ¬ A0.length + (B0.length + 1) = 0 := by omega
  have g1 : ((A0 ++ q :: B0).map pav)[((A0.length : Nat) : Int).toNat]? = some (pav q) := by
    rw [Int.toNat_natCast, List.getElem?_map, List.getElem?_append_right (Nat.le_refl _), Nat.sub_self]; rfl
  have hcl := pcs_cat (A0 ++ q :: B0)
  have hPl : (pcs (A0 ++ q :: B0)).length = (A0.length + (B0.length + 1)) * 2 := by rw [pcs_len, hlN]
  have cs := same_calls (A0 ++ q :: B0) (by rw [hlN]; omega) (fun p hp => (ho.2 p hp).2)
  have cl := fun nx => len_h (A0 ++ q :: B0) nx
  obtain ⟨nx1, cd⟩ := spoil_nil A0 B0 q (by rw [hlN]; omega) hne a v (bump nx 6)
  obtain ⟨g, nx2, ca⟩ := all_some (A0 ++ q :: B0) (by rw [hlN]; omega) (fun p hp => (ho.2 p hp).1) (by simp) nx1
  have hT : (pcs (A0 ++ q :: B0)).take ((A0.length + (B0.length + 1)) * 2) = pcs (A0 ++ q :: B0) := List.take_of_length_le (by rw [pcs_len]; simp; try omega)
  have hC : chunk 2 (A0.length + (B0.length + 1)) (pcs (A0 ++ q :: B0)) = (A0 ++ q :: B0).map pav := by
    have := chunk_pcs (A0 ++ q :: B0); rwa [show (A0 ++ q :: B0).length = A0.length + (B0.length + 1) by simp; try omega] at this
  have hP : (pcs (A0 ++ q :: B0)).length = (A0.length + (B0.length + 1)) * 2 := by rw [pcs_len]; simp; try omega
  have hz : (avs q.b).length = 0 := by rw [avs_len, hne]; rfl
  simp only [List.length_append, List.length_cons] at ca cl
  have hh := h
  refine round (its := [.blk 0 wb_law19_NetPlays_0]) (k0 := [.c c_law19_NetPlays_k0]) 300 trivial trivial (fun A eA => ?_)
  simp (disch := first | omega | (simp only [avs_len, List.length_cons, List.length_append, List.length_nil, List.length_take, List.length_drop, List.length_map]; omega) | (simp only [cells, scal1, allSz, List.length_cons, List.length_nil, List.length_append, List.length_map, List.all_cons, List.all_nil, avs_len, beq_self_eq_true, Bool.and_self, and_self, or_true, true_or, reduceCtorEq, *]; done) | fail) only [c_law19_NetPlays, wl_law19_NetPlays_0, s_law19_NetPlays_0, c_law19_NetPlays_l0, wb_law19_NetPlays_0, c_law19_NetPlays_k0, go_sem, Nat.reduceAdd, Nat.reduceSub, Nat.reduceMul, Nat.reduceLT, Nat.reduceLeDiff, Int.reduceToNat, Nat.reduceEqDiff, Nat.reduceBEq, ↓reduceIte, reduceCtorEq, eA, scal1, List.all_cons, List.all_nil, Bool.and_self, ↓optI_of g0, avs_len, em, k0, k1, List.length_map, List.length_append, List.length_cons, List.length_nil]
  refine call2 300 trivial trivial [(0, 3)] rfl rfl cd (.inr ⟨rfl, rfl⟩) (fun A eA => ?_)
  simp (disch := first | omega | (simp only [avs_len, List.length_cons, List.length_append, List.length_nil, List.length_take, List.length_drop, List.length_map]; omega) | (simp only [cells, scal1, allSz, List.length_cons, List.length_nil, List.length_append, List.length_map, List.all_cons, List.all_nil, avs_len, beq_self_eq_true, Bool.and_self, and_self, or_true, true_or, reduceCtorEq, *]; done) | fail) only [c_law19_NetPlays, wl_law19_NetPlays_0, s_law19_NetPlays_0, c_law19_NetPlays_l0, wb_law19_NetPlays_0, c_law19_NetPlays_k0, go_sem, Nat.reduceAdd, Nat.reduceSub, Nat.reduceMul, Nat.reduceLT, Nat.reduceLeDiff, Int.reduceToNat, Nat.reduceEqDiff, Nat.reduceBEq, ↓reduceIte, reduceCtorEq, eA, scal1, List.all_cons, List.all_nil, Bool.and_self, ↓optI_of g1, k0, hz, List.length_map, List.length_append, List.length_cons, List.length_nil]
  refine call2 300 trivial trivial [(0, 3)] rfl rfl ca (.inr ⟨rfl, by simp only [heapFree, pcs_free, Bool.and_self]; rfl⟩) (fun A eA => ?_)
  simp (disch := first | omega | (simp only [avs_len, List.length_cons, List.length_append, List.length_nil, List.length_take, List.length_drop, List.length_map]; omega) | (simp only [cells, scal1, allSz, List.length_cons, List.length_nil, List.length_append, List.length_map, List.all_cons, List.all_nil, avs_len, beq_self_eq_true, Bool.and_self, and_self, or_true, true_or, reduceCtorEq, *]; done) | fail) only [c_law19_NetPlays, wl_law19_NetPlays_0, s_law19_NetPlays_0, c_law19_NetPlays_l0, wb_law19_NetPlays_0, c_law19_NetPlays_k0, go_sem, Nat.reduceAdd, Nat.reduceSub, Nat.reduceMul, Nat.reduceLT, Nat.reduceLeDiff, Int.reduceToNat, Nat.reduceEqDiff, Nat.reduceBEq, ↓reduceIte, reduceCtorEq, eA, scal1, List.all_cons, List.all_nil, Bool.and_self, hT, hC, hP, ↓frz_pcs]
  refine call3 300 trivial trivial cs (fun A eA => ?_)
  simp (disch := first | omega | (simp only [avs_len, List.length_cons, List.length_append, List.length_nil, List.length_take, List.length_drop, List.length_map]; omega) | (simp only [cells, scal1, allSz, List.length_cons, List.length_nil, List.length_append, List.length_map, List.all_cons, List.all_nil, avs_len, beq_self_eq_true, Bool.and_self, and_self, or_true, true_or, reduceCtorEq, *]; done) | fail) only [c_law19_NetPlays, wl_law19_NetPlays_0, s_law19_NetPlays_0, c_law19_NetPlays_l0, wb_law19_NetPlays_0, c_law19_NetPlays_k0, go_sem, Nat.reduceAdd, Nat.reduceSub, Nat.reduceMul, Nat.reduceLT, Nat.reduceLeDiff, Int.reduceToNat, Nat.reduceEqDiff, Nat.reduceBEq, ↓reduceIte, reduceCtorEq, eA, scal1, List.all_cons, List.all_nil, Bool.and_self, hT, hC, hP, ↓frz_pcs]
  refine call2 300 trivial trivial [(0, 3)] rfl rfl (cl _) (.inr ⟨rfl, rfl⟩) (fun A eA => ?_)
  simp (disch := first | omega | (simp only [avs_len, List.length_cons, List.length_append, List.length_nil, List.length_take, List.length_drop, List.length_map]; omega) | (simp only [cells, scal1, allSz, List.length_cons, List.length_nil, List.length_append, List.length_map, List.all_cons, List.all_nil, avs_len, beq_self_eq_true, Bool.and_self, and_self, or_true, true_or, reduceCtorEq, *]; done) | fail) only [c_law19_NetPlays, wl_law19_NetPlays_0, s_law19_NetPlays_0, c_law19_NetPlays_l0, wb_law19_NetPlays_0, c_law19_NetPlays_k0, go_sem, Nat.reduceAdd, Nat.reduceSub, Nat.reduceMul, Nat.reduceLT, Nat.reduceLeDiff, Int.reduceToNat, Nat.reduceEqDiff, Nat.reduceBEq, ↓reduceIte, reduceCtorEq, eA, scal1, List.all_cons, List.all_nil, Bool.and_self, List.length_map, List.length_append, List.length_cons, List.length_nil, w1]
  exact hh _
theorem net_spoil_ok (L pre post : List NAct) (k : Nat) (a : Int) (v : Nat) (p : Prc) (A0 B0 : List Prc) (q : Prc) (hne : q.b ≠ []) (hL : L = pre ++ ⟨k, (A0.length : Nat), a, v, p⟩ :: post) (hx : NActOk ⟨k, (A0.length : Nat), a, v, p⟩) (hb : p.b.length ≤ 500) (hk : k % 4 = 3) (ho : PrcsOk (A0 ++ q :: B0)) (hLl : L.length ≤ 1000) (h : ∀ nx, NLoop L (pre.length + 1) (A0 ++ ⟨q.n, turnB q.b (a % q.b.length).toNat v⟩ :: B0) nx) (nx : Ctr) : NLoop L pre.length (A0 ++ q :: B0) nx := by
  have hlt : pre.length < L.length := by rw [hL]; simp
  have g0 : (L.map actv)[((pre.length : Nat) : Int).toNat]? = some (actv ⟨k, (A0.length : Nat), a, v, p⟩) := by
    rw [Int.toNat_natCast, hL, List.getElem?_map, List.getElem?_append_right (Nat.le_refl _), Nat.sub_self]; rfl
  have w1 : IntKind.i64.wrap ((pre.length : Int) + 1) = ((pre.length + 1 : Nat) : Int) := by rw [wrap64 (by omega) (by omega)]; omega
  have em := kmod hk
  try simp only [Int.ofNat_zero, Int.ofNat_one] at em
  have ho1 := ho.1
  simp only [List.length_append, List.length_cons, List.length_nil] at ho1
  have hqm : q ∈ A0 ++ q :: B0 := by simp
  have hq := ho.2 q hqm
  have hlN : (A0 ++ q :: B0).length = A0.length + (B0.length + 1) := by simp
  have k0 : ¬ ((A0.length : Nat) : Int) < 0 := by omega
  have k1 : ((A0.length : Nat) : Int) < ((A0.length + (B0.length + 1) : Nat) : Int) := by omega
  have k3 : ¬ A0.length + (B0.length + 1) = 0 := by omega
  have g1 : ((A0 ++ q :: B0).map pav)[((A0.length : Nat) : Int).toNat]? = some (pav q) := by
    rw [Int.toNat_natCast, List.getElem?_map, List.getElem?_append_right (Nat.le_refl _), Nat.sub_self]; rfl
  have hcl := pcs_cat (A0 ++ q :: B0)
  have hPl : (pcs (A0 ++ q :: B0)).length = (A0.length + (B0.length + 1)) * 2 := by rw [pcs_len, hlN]
  have ha : -9223372036854775808 ≤ a ∧ a < 9223372036854775808 := hx.2.2.1
  have hv : v < 256 := hx.2.2.2.1
  obtain ⟨nx1, cd⟩ := spoil_ok A0 B0 q (by rw [hlN]; omega) hq.1 hq.2 hne a ha v hv (bump nx 6)
  have hpos : 0 < q.b.length := List.length_pos_iff.2 hne
  obtain ⟨m, hm⟩ : ∃ m, m = q.b.length := ⟨_, rfl⟩
  obtain ⟨j, hj⟩ : ∃ j : Nat, (a % q.b.length) = (j : Int) := ⟨(a % q.b.length).toNat, by have := Int.emod_nonneg a (b := (q.b.length : Int)) (by omega); omega⟩
  have hjm : j < m := by have := Int.emod_lt_of_pos a (b := (q.b.length : Int)) (by omega); omega
  rw [hj, Int.toNat_natCast] at cd h
  have hj' : a % (m : Int) = j := by rw [hm]; exact hj
  have hq1 := hq.1
  rw [← hm] at hpos hq1
  have hlm : (avs q.b).length = m := by rw [avs_len, hm]
  have r0 : ¬ ((m : Int) = 0) := by omega
  have r3 : (0 : Int) < (m : Int) := by omega
  have r4 : ¬ m = 0 := by omega
  have k4 : A0.length < A0.length + (B0.length + 1) := by omega
  have k5 : ¬ ((j : Int) < 0) := by omega
  have hd : (avs q.b).drop j = .int .u8 ((q.b.getD j 0 : Nat) : Int) :: (avs q.b).drop (j + 1) := by
    rw [List.drop_eq_getElem_cons (by rw [avs_len]; omega)]
    congr 1
    have hg : (avs q.b)[j]? = some (.int .u8 ((q.b.getD j 0 : Nat) : Int)) := by rw [avs_get, List.getElem?_eq_getElem (by omega)]; simp [show j < q.b.length by omega]
    rw [List.getElem?_eq_getElem (by rw [avs_len]; omega)] at hg
    exact Option.some.inj hg
  have hxr : ibits .xor .u8 ((q.b.getD j 0 : Nat) : Int) (v : Int) = ((q.b.getD j 0 ^^^ v : Nat) : Int) := ibits_xor .u8 rfl _ _ (getD_lt hq.2 j) hv
  have hs := avs_set q.b j (q.b.getD j 0 ^^^ v) (by omega)
  obtain ⟨b2, hb2⟩ : ∃ b2, b2 = q.b.set j (q.b.getD j 0 ^^^ v) := ⟨_, rfl⟩
  rw [← hb2] at hs
  have hbl : b2.length = m := by rw [hb2]; simp [hm]
  have hb256 : ∀ x ∈ b2, x < 256 := by
    intro x hx1
    rw [hb2] at hx1
    rcases List.mem_or_eq_of_mem_set hx1 with h1 | h1
    · exact hq.2 x h1
    · rw [h1]; exact Nat.xor_lt_two_pow (n := 8) (getD_lt hq.2 j) hv
  obtain ⟨l2, hl2⟩ : ∃ l2, l2 = A0 ++ (⟨q.n, b2⟩ : Prc) :: B0 := ⟨_, rfl⟩
  have htb : turnB q.b j v = b2 := by rw [hb2]; rfl
  rw [htb, ← hl2] at cd h
  have hl2n : l2.length = A0.length + (B0.length + 1) := by rw [hl2]; simp
  have hall : ∀ p ∈ l2, p.b.length ≤ 500 ∧ ∀ b ∈ p.b, b < 256 := by
    intro p hp
    rw [hl2] at hp
    rcases List.mem_append.1 hp with hp | hp
    · exact ho.2 p (by simp [hp])
    · rcases List.mem_cons.1 hp with hp | hp
      · subst hp; exact ⟨by show b2.length ≤ 500; omega, hb256⟩
      · exact ho.2 p (by simp [hp])
  have cs := same_calls l2 (by omega) (fun p hp => (hall p hp).2)
  have cl := fun nx => len_h l2 nx
  obtain ⟨g, nx2, ca⟩ := all_some l2 (by omega) (fun p hp => (hall p hp).1) (by rw [hl2]; simp) (bump (bump nx1 115) 128)
  rw [hl2n] at ca
  simp only [hl2n] at cl
  have hT : (pcs l2).take ((A0.length + (B0.length + 1)) * 2) = pcs l2 := List.take_of_length_le (by rw [pcs_len, hl2n]; omega)
  have hC : chunk 2 (A0.length + (B0.length + 1)) (pcs l2) = l2.map pav := by rw [← hl2n]; exact chunk_pcs l2
  have hP : (pcs l2).length = (A0.length + (B0.length + 1)) * 2 := by rw [pcs_len, hl2n]
  have hA0 := pcs_len A0
  have hB0 := pcs_len B0
  have T1 : (pcs (A0 ++ q :: B0)).take (A0.length * 2 + 1) = pcs A0 ++ [.int .i64 q.n] := by
    rw [← pcs_app, List.take_append, hA0, List.take_of_length_le (by omega), show A0.length * 2 + 1 - A0.length * 2 = 1 by omega]; rfl
  have D1 : (pcs (A0 ++ q :: B0)).drop (A0.length * 2 + 1 + 1) = pcs B0 := by rw [show A0.length * 2 + 1 + 1 = (A0.length + 1) * 2 by omega, pcs_drop]; simp
  have hM2 : ∀ y : AV, (pcs A0 ++ [AV.int .i64 q.n] ++ [y] ++ pcs B0) = pcs A0 ++ [.int .i64 q.n, y] ++ pcs B0 := by intro y; simp
  have hM : ∀ y : AV, (pcs A0 ++ [AV.int .i64 q.n, y] ++ pcs B0).length = (A0.length + (B0.length + 1)) * 2 := by
    intro y; simp only [List.length_append, hA0, hB0, List.length_cons, List.length_nil]; omega
  have hMT : ∀ y : AV, (pcs A0 ++ [AV.int .i64 q.n, y] ++ pcs B0).take ((A0.length + (B0.length + 1)) * 2) = pcs A0 ++ [.int .i64 q.n, y] ++ pcs B0 := fun y => List.take_of_length_le (by rw [hM]; omega)
  have hK : ∀ (α : Type) (ok : List AV → List (Nat × Nat) → α) (bd : α), mapK (frzK 8 [(0, 3, 0, some [netV l2]), (1, 21, g, some (pcs l2)), (0, 6, nx 6, some [.int .u8 (k : Nat), .int .i64 ((A0.length : Nat) : Int), .int .i64 a, .int .u8 (v : Nat), .int .i64 p.n, bv p.b]), (0, 115, nx1 115, some (avs b2)), (0, 128, nx1 128, some (pcs A0 ++ [.int .i64 q.n, .sl 0 115 (nx1 115) 1 0 m] ++ pcs B0))])
      (pcs A0 ++ [.int .i64 q.n, .sl 0 115 (nx1 115) 1 0 m] ++ pcs B0) ok bd = ok (pcs l2) [(0, 115)] :=
    fun α ok bd => by rw [hl2]; exact frz_mid 6 _ A0 B0 q.n 0 115 _ m b2 hbl.symm (by simp [find]) ok bd
  have t1 : a.tmod m = (j : Int) ∨ (a.tmod m < 0 ∧ IntKind.i64.wrap (a.tmod m + m) = (j : Int)) := by
    have h1 := Int.tmod_lt_of_pos a (b := (m : Int)) (by omega)
    have h2 := Int.lt_tmod_of_pos a (b := (m : Int)) (by omega)
    have h3 := Int.tmod_eq_emod (a := a) (b := (m : Int))
    rw [hj', Int.natAbs_natCast] at h3
    split at h3
    · left; simpa using h3
    · right; exact ⟨by omega, by rw [wrap64 (by omega) (by omega)]; omega⟩
  rcases t1 with t1 | ⟨t2, t1⟩
  all_goals
    refine round (its := [.blk 0 wb_law19_NetPlays_0]) (k0 := [.c c_law19_NetPlays_k0]) 300 trivial trivial (fun A eA => ?_)
    simp (disch := first | omega | (simp only [avs_len, List.length_cons, List.length_append, List.length_nil, List.length_take, List.length_drop, List.length_map]; omega) | (simp only [cells, scal1, allSz, List.length_cons, List.length_nil, List.length_append, List.length_map, List.all_cons, List.all_nil, avs_len, beq_self_eq_true, Bool.and_self, and_self, or_true, true_or, reduceCtorEq, *]; done) | fail) only [c_law19_NetPlays, wl_law19_NetPlays_0, s_law19_NetPlays_0, c_law19_NetPlays_l0, wb_law19_NetPlays_0, c_law19_NetPlays_k0, go_sem, Nat.reduceAdd, Nat.reduceSub, Nat.reduceMul, Nat.reduceLT, Nat.reduceLeDiff, Int.reduceToNat, Nat.reduceEqDiff, Nat.reduceBEq, ↓reduceIte, reduceCtorEq, eA, scal1, List.all_cons, List.all_nil, Bool.and_self, ↓optI_of g0, avs_len, em, k0, k1, List.length_map, List.length_append, List.length_cons, List.length_nil]
    refine call2 300 trivial trivial [(0, 3)] rfl rfl cd (.inr ⟨rfl, rfl⟩) (fun A eA => ?_)
    simp (disch := first | omega | (simp only [avs_len, List.length_cons, List.length_append, List.length_nil, List.length_take, List.length_drop, List.length_map]; omega) | (simp only [cells, scal1, allSz, List.length_cons, List.length_nil, List.length_append, List.length_map, List.all_cons, List.all_nil, avs_len, beq_self_eq_true, Bool.and_self, and_self, or_true, true_or, reduceCtorEq, *]; done) | fail) only [c_law19_NetPlays, wl_law19_NetPlays_0, s_law19_NetPlays_0, c_law19_NetPlays_l0, wb_law19_NetPlays_0, c_law19_NetPlays_k0, go_sem, Nat.reduceAdd, Nat.reduceSub, Nat.reduceMul, Nat.reduceLT, Nat.reduceLeDiff, Int.reduceToNat, Nat.reduceEqDiff, Nat.reduceBEq, ↓reduceIte, reduceCtorEq, eA, scal1, List.all_cons, List.all_nil, Bool.and_self, ↓optI_of g1, k0, k1, k3, k4, k5, r0, r3, r4, t1, List.length_map, List.length_append, List.length_cons, List.length_nil, Int.toNat_natCast, catCells, catCells_avs, ↓appK, allSz, beq_self_eq_true, hcl, hPl, hlm, hd, hxr, hs, T1, D1, hM2, hM]
    refine call2 300 trivial trivial [(0, 3)] rfl rfl ca (.inr ⟨rfl, by simp only [heapFree, pcs_free, Bool.and_self]; rfl⟩) (fun A eA => ?_)
    simp (disch := first | omega | (simp only [avs_len, List.length_cons, List.length_append, List.length_nil, List.length_take, List.length_drop, List.length_map]; omega) | (simp only [cells, scal1, allSz, List.length_cons, List.length_nil, List.length_append, List.length_map, List.all_cons, List.all_nil, avs_len, beq_self_eq_true, Bool.and_self, and_self, or_true, true_or, reduceCtorEq, *]; done) | fail) only [c_law19_NetPlays, wl_law19_NetPlays_0, s_law19_NetPlays_0, c_law19_NetPlays_l0, wb_law19_NetPlays_0, c_law19_NetPlays_k0, go_sem, Nat.reduceAdd, Nat.reduceSub, Nat.reduceMul, Nat.reduceLT, Nat.reduceLeDiff, Int.reduceToNat, Nat.reduceEqDiff, Nat.reduceBEq, ↓reduceIte, reduceCtorEq, eA, scal1, List.all_cons, List.all_nil, Bool.and_self, hT, hC, hP, ↓frz_pcs, hMT, hM, ↓hK]
    refine call3 300 trivial trivial cs (fun A eA => ?_)
    simp (disch := first | omega | (simp only [avs_len, List.length_cons, List.length_append, List.length_nil, List.length_take, List.length_drop, List.length_map]; omega) | (simp only [cells, scal1, allSz, List.length_cons, List.length_nil, List.length_append, List.length_map, List.all_cons, List.all_nil, avs_len, beq_self_eq_true, Bool.and_self, and_self, or_true, true_or, reduceCtorEq, *]; done) | fail) only [c_law19_NetPlays, wl_law19_NetPlays_0, s_law19_NetPlays_0, c_law19_NetPlays_l0, wb_law19_NetPlays_0, c_law19_NetPlays_k0, go_sem, Nat.reduceAdd, Nat.reduceSub, Nat.reduceMul, Nat.reduceLT, Nat.reduceLeDiff, Int.reduceToNat, Nat.reduceEqDiff, Nat.reduceBEq, ↓reduceIte, reduceCtorEq, eA, scal1, List.all_cons, List.all_nil, Bool.and_self, hT, hC, hP, ↓frz_pcs, hMT, hM, ↓hK]
    refine call2 300 trivial trivial [(0, 3)] rfl rfl (cl _) (.inr ⟨rfl, rfl⟩) (fun A eA => ?_)
    simp (disch := first | omega | (simp only [avs_len, List.length_cons, List.length_append, List.length_nil, List.length_take, List.length_drop, List.length_map]; omega) | (simp only [cells, scal1, allSz, List.length_cons, List.length_nil, List.length_append, List.length_map, List.all_cons, List.all_nil, avs_len, beq_self_eq_true, Bool.and_self, and_self, or_true, true_or, reduceCtorEq, *]; done) | fail) only [c_law19_NetPlays, wl_law19_NetPlays_0, s_law19_NetPlays_0, c_law19_NetPlays_l0, wb_law19_NetPlays_0, c_law19_NetPlays_k0, go_sem, Nat.reduceAdd, Nat.reduceSub, Nat.reduceMul, Nat.reduceLT, Nat.reduceLeDiff, Int.reduceToNat, Nat.reduceEqDiff, Nat.reduceBEq, ↓reduceIte, reduceCtorEq, eA, scal1, List.all_cons, List.all_nil, Bool.and_self, List.length_map, List.length_append, List.length_cons, List.length_nil, hl2n, w1]
    exact h _
end Go.Proofs.Ytmokhopjnjecbaa
/- The law NetPlays: its loop, joined. -/
-- short
-- fuel 300
namespace Go.Proofs.Ytmokhopjnjecbaa
open Go.Ev
set_option linter.unusedVariables false
set_option linter.unusedSimpArgs false
set_option maxRecDepth 100000
set_option maxHeartbeats 3200000
theorem turn_len (b : List Nat) (j v : Nat) : (turnB b j v).length = b.length := by simp [turnB]
theorem turn_256 {b : List Nat} (h : ∀ x ∈ b, x < 256) (j : Nat) {v : Nat} (hv : v < 256) : ∀ x ∈ turnB b j v, x < 256 := by
  intro x hx
  rcases List.mem_or_eq_of_mem_set hx with h1 | h1
  · exact h x h1
  · rw [h1]; exact Nat.xor_lt_two_pow (n := 8) (getD_lt h j) hv
theorem nloop (L : List NAct) (hLl : L.length ≤ 1000) (hok : ∀ x ∈ L, NActOk x) : ∀ (post pre : List NAct), L = pre ++ post → ∀ (l : List Prc), PrcsOk l → ∀ nx, NLoop L pre.length l nx := by
  intro post
  induction post with
  | nil =>
    intro pre hL l ho nx
    rw [List.append_nil] at hL
    subst hL
    exact net_end L l nx
  | cons x post ih =>
    intro pre hL l ho nx
    have hx := hok x (by rw [hL]; simp)
    by_cases hb : x.p.b.length ≤ 500
    case neg => exact net_long L pre post x hL (by omega) l nx
    have ih : ∀ l, PrcsOk l → ∀ nx, NLoop L (pre.length + 1) l nx := by
      intro l ho nx
      have := ih (pre ++ [x]) (by rw [hL]; simp) l ho nx
      rwa [show (pre ++ [x]).length = pre.length + 1 by simp] at this
    have hk4 : x.k % 4 = 0 ∨ x.k % 4 = 1 ∨ x.k % 4 = 2 ∨ x.k % 4 = 3 := by omega
    by_cases hk0 : x.k % 4 = 0
    · by_cases hf : l.length < 40
      · have hs : PrcsOk (l ++ [x.p]) := by
          refine ⟨by simp; omega, fun p hp => ?_⟩
          rcases List.mem_append.1 hp with hp | hp
          · exact ho.2 p hp
          · rw [List.mem_singleton] at hp; subst hp; exact ⟨hb, hx.2.2.2.2.2⟩
        by_cases he : l = []
        · exact net_send_ok0 L pre post x hL hx hb hk0 l ho hf he hLl (ih _ hs) nx
        · exact net_send_ok1 L pre post x hL hx hb hk0 l ho hf he hLl (ih _ hs) nx
      · exact net_send_full L pre post x hL hb hk0 l ho (by omega) hLl (ih l ho) nx
    by_cases hr : 0 ≤ x.n ∧ x.n < l.length
    case neg =>
      have hr' : x.n < 0 ∨ (0 ≤ x.n ∧ (l.length : Int) ≤ x.n) := by omega
      by_cases he : l = []
      · rcases hk4 with hk | hk | hk | hk
        · exact absurd hk hk0
        · exact net_take_out0 L pre post x hL hb hk l ho hr' he hLl (ih l ho) nx
        · exact net_double_out0 L pre post x hL hb hk l ho hr' he hLl (ih l ho) nx
        · exact net_spoil_out0 L pre post x hL hb hk l ho hr' he hLl (ih l ho) nx
      · rcases hk4 with hk | hk | hk | hk
        · exact absurd hk hk0
        · exact net_take_out1 L pre post x hL hb hk l ho hr' he hLl (ih l ho) nx
        · exact net_double_out1 L pre post x hL hb hk l ho hr' he hLl (ih l ho) nx
        · exact net_spoil_out1 L pre post x hL hb hk l ho hr' he hLl (ih l ho) nx
    obtain ⟨A0, q, B0, hl, hA⟩ : ∃ A0 q B0, l = A0 ++ q :: B0 ∧ x.n = (A0.length : Nat) := by
      have hlt : x.n.toNat < l.length := by omega
      refine ⟨l.take x.n.toNat, l[x.n.toNat], l.drop (x.n.toNat + 1), ?_, ?_⟩
      · rw [← List.drop_eq_getElem_cons hlt, List.take_append_drop]
      · rw [List.length_take]; omega
    subst hl
    obtain ⟨k, n, a, v, p⟩ := x
    simp only at hA hk0 hk4 hb
    subst hA
    have hqm := ho.2 q (by simp)
    have hlN : (A0 ++ q :: B0).length = A0.length + B0.length + 1 := by simp; omega
    have hsub : PrcsOk (A0 ++ B0) := by
      refine ⟨by have := ho.1; simp only [List.length_append, List.length_cons] at this ⊢; omega, fun p hp => ho.2 p ?_⟩
      rcases List.mem_append.1 hp with h | h <;> simp [h]
    rcases hk4 with hk | hk | hk | hk
    · exact absurd hk hk0
    · by_cases hA : A0 = []
      · by_cases hB : B0 = []
        · exact net_take_a L pre post k a v p A0 B0 q hA hB hL hx hb hk ho hLl (ih _ ⟨by simp, by simp⟩) nx
        · refine net_take_b L pre post k a v p A0 B0 q hA hB hL hx hb hk ho hLl (ih _ ?_) nx
          rw [hA] at hsub; exact hsub
      · exact net_take_c L pre post k a v p A0 B0 q hA hL hx hb hk ho hLl (ih _ hsub) nx
    · by_cases hf : (A0 ++ q :: B0).length < 40
      · refine net_double_ok L pre post k a v p A0 B0 q hf hL hx hb hk ho hLl (ih _ ⟨by simp only [List.length_append, List.length_cons, List.length_nil] at hf ⊢; omega, fun p hp => ?_⟩) nx
        rcases List.mem_append.1 hp with hp | hp
        · exact ho.2 p hp
        · rw [List.mem_singleton] at hp; subst hp; exact hqm
      · exact net_double_full L pre post k a v p A0 B0 q (by omega) hL hx hb hk ho hLl (ih _ ho) nx
    · by_cases hne : q.b = []
      · exact net_spoil_nil L pre post k a v p A0 B0 q hne hL hx hb hk ho hLl (ih _ ho) nx
      · refine net_spoil_ok L pre post k a v p A0 B0 q hne hL hx hb hk ho hLl (ih _ ⟨by have := ho.1; simp only [List.length_append, List.length_cons] at this ⊢; omega, fun p hp => ?_⟩) nx
        rcases List.mem_append.1 hp with hp | hp
        · exact ho.2 p (by simp [hp])
        · rcases List.mem_cons.1 hp with hp | hp
          · subst hp; exact ⟨by show (turnB _ _ _).length ≤ 500; rw [turn_len]; exact hqm.1, turn_256 hqm.2 _ hx.2.2.2.1⟩
          · exact ho.2 p (by simp [hp])
theorem nloop_start (L : List NAct) (hLl : L.length ≤ 1000) (hok : ∀ x ∈ L, NActOk x) (nx : Ctr) :
    RunsX Try.prog 0 (Gives [.t 2] (.bool true)) (i_law19_NetPlays_0 ++ [.c c_law19_NetPlays_k0]) (s_law19_NetPlays_0 (.fz 6 (L.map actv) none) (.ptr 0 3 0 0) .nils (.int .i64 (L.length : Nat)) (.int .i64 0)) [(0, 3, 0, some [.nils])] nx :=
  RunsX.wkHeap trivial (WkH.cell (pre := []) (post := []) (Wk1.nils 2)) (RunsX.wkT trivial (Wk.at1 (Wk1.nils 2) [_, .any, .any, _] _) (nloop L hLl hok L [] rfl [] ⟨by simp, by simp⟩ nx))
theorem netplays_calls (L : List NAct) (hok : ∀ x ∈ L, NActOk x) : PCalls Try.prog F_law19_NetPlays [.fz 6 (L.map actv) none] (.bool true) := by
  by_cases hl : L.length ≤ 100
  · refine calls_law19_NetPlays (walk0 300 trivial (fun A eA => ?_))
    simp (disch := first | omega | (simp only [avs_len, List.length_cons, List.length_append, List.length_nil, List.length_take, List.length_drop, List.length_map]; omega) | (simp only [cells, scal1, allSz, List.length_cons, List.length_nil, List.length_append, List.length_map, List.all_cons, List.all_nil, avs_len, beq_self_eq_true, Bool.and_self, and_self, or_true, true_or, reduceCtorEq, *]; done) | fail) only [c_law19_NetPlays, wl_law19_NetPlays_0, s_law19_NetPlays_0, c_law19_NetPlays_l0, wb_law19_NetPlays_0, c_law19_NetPlays_k0, go_sem, Nat.reduceAdd, Nat.reduceSub, Nat.reduceMul, Nat.reduceLT, Nat.reduceLeDiff, Int.reduceToNat, Nat.reduceEqDiff, Nat.reduceBEq, ↓reduceIte, reduceCtorEq, eA, scal1, List.length_map]
    repeat ((first | refine call0 300 trivial trivial (by first | exact nawake_calls) (by first | exact .inl rfl | exact .inr rfl) (fun A eA => ?_) | refine call1 300 trivial trivial (by first | exact nawake_calls) (fun A eA => ?_)); simp (disch := first | omega | (simp only [avs_len, List.length_cons, List.length_append, List.length_nil, List.length_take, List.length_drop, List.length_map]; omega) | (simp only [cells, scal1, allSz, List.length_cons, List.length_nil, List.length_append, List.length_map, List.all_cons, List.all_nil, avs_len, beq_self_eq_true, Bool.and_self, and_self, or_true, true_or, reduceCtorEq, *]; done) | fail) only [c_law19_NetPlays, wl_law19_NetPlays_0, s_law19_NetPlays_0, c_law19_NetPlays_l0, wb_law19_NetPlays_0, c_law19_NetPlays_k0, go_sem, Nat.reduceAdd, Nat.reduceSub, Nat.reduceMul, Nat.reduceLT, Nat.reduceLeDiff, Int.reduceToNat, Nat.reduceEqDiff, Nat.reduceBEq, ↓reduceIte, reduceCtorEq, eA, scal1, List.length_map])
    exact nloop_start L (by omega) hok _
  · refine calls_law19_NetPlays (walk0 300 trivial (fun A eA => ?_))
    simp (disch := first | omega | (simp only [avs_len, List.length_cons, List.length_append, List.length_nil, List.length_take, List.length_drop, List.length_map]; omega) | (simp only [cells, scal1, allSz, List.length_cons, List.length_nil, List.length_append, List.length_map, List.all_cons, List.all_nil, avs_len, beq_self_eq_true, Bool.and_self, and_self, or_true, true_or, reduceCtorEq, *]; done) | fail) only [c_law19_NetPlays, wl_law19_NetPlays_0, s_law19_NetPlays_0, c_law19_NetPlays_l0, wb_law19_NetPlays_0, c_law19_NetPlays_k0, go_sem, Nat.reduceAdd, Nat.reduceSub, Nat.reduceMul, Nat.reduceLT, Nat.reduceLeDiff, Int.reduceToNat, Nat.reduceEqDiff, Nat.reduceBEq, ↓reduceIte, reduceCtorEq, eA, scal1, List.length_map]
    repeat ((first | refine call0 300 trivial trivial (by first | exact nawake_calls) (by first | exact .inl rfl | exact .inr rfl) (fun A eA => ?_) | refine call1 300 trivial trivial (by first | exact nawake_calls) (fun A eA => ?_)); simp (disch := first | omega | (simp only [avs_len, List.length_cons, List.length_append, List.length_nil, List.length_take, List.length_drop, List.length_map]; omega) | (simp only [cells, scal1, allSz, List.length_cons, List.length_nil, List.length_append, List.length_map, List.all_cons, List.all_nil, avs_len, beq_self_eq_true, Bool.and_self, and_self, or_true, true_or, reduceCtorEq, *]; done) | fail) only [c_law19_NetPlays, wl_law19_NetPlays_0, s_law19_NetPlays_0, c_law19_NetPlays_l0, wb_law19_NetPlays_0, c_law19_NetPlays_k0, go_sem, Nat.reduceAdd, Nat.reduceSub, Nat.reduceMul, Nat.reduceLT, Nat.reduceLeDiff, Int.reduceToNat, Nat.reduceEqDiff, Nat.reduceBEq, ↓reduceIte, reduceCtorEq, eA, scal1, List.length_map])
    exact doneG rfl
end Go.Proofs.Ytmokhopjnjecbaa
/- An act's cells, told as a plain thing. -/
namespace Go.Proofs.Ytmokhopjnjecbaa
open Go.Ev
set_option linter.unusedVariables false
theorem dec_nacts {P : Program} {tA tB : TypeId} {fs : Array Field} (hu : P.underlying tA = some (.struct fs)) (hb : P.underlying tB = some (.int .u8)) (hs : shapes P 9 tA = some [.int .u8, .int .i64, .int .i64, .int .u8, .int .i64, .sl tB]) {x : AV} (h : CellOk P (.sl tA) x) : ∃ L : List NAct, x = .fz 6 (L.map actv) none ∧ ∀ y ∈ L, NActOk y := by
  obtain ⟨es, rfl, _, he⟩ := h.sl_inv hs
  have key : ∀ y ∈ es, ∃ i : {i : NAct // NActOk i}, y = actv i.1 := by
    intro y hy
    obtain ⟨h1, h2, h3⟩ := he y hy
    match hc : cells y, h2 with
    | [c0, c1, c2, c3, c4, c5], _ =>
      obtain ⟨n0, rfl, w0⟩ := (h3 0 _ c0 rfl (by rw [hc]; rfl)).int_inv
      obtain ⟨n1, rfl, w1⟩ := (h3 1 _ c1 rfl (by rw [hc]; rfl)).int_inv
      obtain ⟨n2, rfl, w2⟩ := (h3 2 _ c2 rfl (by rw [hc]; rfl)).int_inv
      obtain ⟨n3, rfl, w3⟩ := (h3 3 _ c3 rfl (by rw [hc]; rfl)).int_inv
      obtain ⟨n4, rfl, w4⟩ := (h3 4 _ c4 rfl (by rw [hc]; rfl)).int_inv
      obtain ⟨bs, rfl, w5⟩ := dec_bytes hb (h3 5 _ c5 rfl (by rw [hc]; rfl))
      rw [hc, mkE_struct hu] at h1
      simp [Lit.wf, IntKind.min, IntKind.max, IntKind.signed, IntKind.bits] at w0 w1 w2 w3 w4
      refine ⟨⟨⟨n0.toNat, n1, n2, n3.toNat, ⟨n4, bs⟩⟩, ⟨by show n0.toNat < 256; omega, by show -9223372036854775808 ≤ n1 ∧ n1 < 9223372036854775808; omega, by show -9223372036854775808 ≤ n2 ∧ n2 < 9223372036854775808; omega, by show n3.toNat < 256; omega, by show -9223372036854775808 ≤ n4 ∧ n4 < 9223372036854775808; omega, w5⟩⟩, ?_⟩
      have e0 : ((n0.toNat : Nat) : Int) = n0 := by omega
      have e3 : ((n3.toNat : Nat) : Int) = n3 := by omega
      rw [h1]; simp only [actv, e0, e3]
    | [], h2 => simp at h2
    | [_], h2 => simp at h2
    | [_, _], h2 => simp at h2
    | [_, _, _], h2 => simp at h2
    | [_, _, _, _], h2 => simp at h2
    | [_, _, _, _, _], h2 => simp at h2
    | _ :: _ :: _ :: _ :: _ :: _ :: _ :: _, h2 => simp at h2
  obtain ⟨l, rfl⟩ := list_of (fun i : {i : NAct // NActOk i} => actv i.1) es key
  refine ⟨l.map (·.1), by simp, ?_⟩
  intro y hy
  obtain ⟨a, _, rfl⟩ := List.mem_map.1 hy
  exact a.2
end Go.Proofs.Ytmokhopjnjecbaa
/- THE LAW NetPlays: what is sent is under way till it is taken; it may be doubled and spoilt, nothing else: the row's function answers true and leaves memory as it was.
   The walks step through the compiled bodies; here the row's reading of the arguments is opened and the answer shut. -/
namespace Go.Proofs.Ytmokhopjnjecbaa.netPlays
open Go.ChangeShapes Go.WideShapes Go.ChangeAt Go.RowKit
open Go.Ev (PCalls Rep Reps none4 avs)
set_option linter.unusedVariables false
set_option maxRecDepth 100000
theorem own : ownKnob Try.prog.godebug = none := by kernel_rfl
theorem laidOut : laidOutB Try.prog = true := by kernel_rfl
theorem lifted (os : Os) (started : os.Started) (H : Type) (enc : TypeId × Value → H) :
    ReturnsInHanded {} Try.checked os 10 .any (Rows.netPlaysSpec.pre6 enc Try.prog Try.f10 Rows.netPlaysRow.domain false) (Rows.netPlaysSpec.post enc Try.prog Try.f10 false true false false) := by
  refine returnsInHanded_of_change_sized (C := Try.checked) own started (by kernel_rfl) Try.func10
    (ChangeSpec.witness6 (enc := enc) (C := Try.checked) false ⟨#[], #[.slice none 0 0], []⟩ 8 (by kernel_rfl) (by kernel_rfl) (by kernel_rfl) (by kernel_rfl)) ?_
  intro W base args ds gs before hval0 hW hcnd hsz0 _
  have hval : ∀ (j : Nat) t v, Try.f10.params[j]? = some t → args[j]? = some v → Value.okWide Try.prog W .any base t v := hval0
  have hW' := hW
  obtain ⟨p, q, hA0, hV, rfl, hfz, hnd⟩ := hW
  have hA : DataW.TrodAll enc Try.prog W 0 (fun _ => true) true Try.f10.params.toList args.toList ds p := hA0
  rw [Try.params10] at hA hval
  obtain ⟨v0, vs0, d0, ds0, p0, q0, hargs, rfl, rfl, h0, r0⟩ := trodAll_cons hA
  obtain ⟨rfl, rfl, rfl⟩ := trodAll_nil r0
  obtain rfl : args = #[v0] := by cases args; simp_all
  obtain ⟨rfl, rfl⟩ := trodVars_none hV
  have k0 := h0
  have lt0 : ∀ x ∈ p0, x.block < W.heap.size := by obtain ⟨m, hm⟩ := k0; exact DataW.trod_lt m _ _ _ hm
  obtain ⟨a0, len0, cap0, rfl⟩ := okWide_slice Try.underlying71 (hval 0 71 v0 rfl rfl)
  obtain ⟨x0, hxc0, hrep0⟩ := Go.Ev.rep_slice [78,5] (by kernel_rfl) Try.underlying71 (by decide) h0
  obtain ⟨z0, hz0⟩ := dec_nacts Try.underlying78 Try.underlying5 (by kernel_rfl) hxc0
  obtain ⟨hz0, hy0⟩ := hz0
  rw [hz0] at hrep0
  refine ((netplays_calls z0 hy0).calls (fun _ => False) W [.slice a0 len0 cap0] (fun _ h => h.elim) (.cons hrep0 .nil)).mono fun e W' he => ?_
  obtain ⟨v, rfl, bel, hv⟩ := he
  cases hv
  exact ⟨_, rfl, _, _, _, [], _, [], hW', trodAll_mk1 (shut_bool Try.underlying4 _), (trodAll_cons_mk (Below.trod laidOut (by kernel_rfl) (of_decide_eq_true (by kernel_rfl)) k0 bel lt0) trodAll_mk0), rfl, bel.frame _, fun h => by cases h⟩
theorem over : Rows.netPlaysRow.holds Try.pinned (OpenSpec.ofChange Rows.netPlaysSpec) :=
  OpenClaim.holds_of_wide 10 Try.f10 rfl rfl rfl rfl rfl rfl rfl ⟨rfl, rfl, rfl, rfl, rfl⟩ rfl rfl rfl rfl rfl (by kernel_rfl) Try.func10 (by kernel_rfl)
    (of_decide_eq_true (by kernel_rfl)) (by unfold Func.isWrapper; first | (rw [if_pos (by decide +kernel)]; kernel_rfl) | (rw [if_neg (by decide +kernel)]; exact ⟨rfl, rfl⟩))
    (fun os started H enc _ => lifted os started H enc)
theorem proved : Rows.NetPlaysSaid := over
#print axioms proved
end Go.Proofs.Ytmokhopjnjecbaa.netPlays
namespace Go.Proofs.Ytmokhopjnjecbaa
/-- The row, under a short name, for the claim. -/
theorem netPlays_holds : Rows.NetPlaysSaid := netPlays.proved
end Go.Proofs.Ytmokhopjnjecbaa
