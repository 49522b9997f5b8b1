/- The walk through what gathers bytes: a number. -/
import Derived.Test.YtmokhopjnjecbaaWCodec3
namespace Go.Ev
/-- A number's bytes. -/
def numB (v : Nat) : List Nat := if v < 128 then [v] else (v % 128 + 128) :: numB (v / 128)
theorem numB_lt {v : Nat} (h : v < 128) : numB v = [v] := by rw [numB, if_pos h]
theorem numB_ge {v : Nat} (h : ¬ v < 128) : numB v = (v % 128 + 128) :: numB (v / 128) := by rw [numB, if_neg h]
theorem numB_len : ∀ (n v : Nat), v < 128 ^ (n + 1) → (numB v).length ≤ n + 1
  | 0, v, h => by rw [numB_lt (by omega)]; simp
  | n + 1, v, h => by
    by_cases h1 : v < 128
    · rw [numB_lt h1]; simp
    · rw [numB_ge h1]
      have := numB_len n (v / 128) (by rw [Nat.div_lt_iff_lt_mul (by omega), ← Nat.pow_succ]; exact h)
      simp only [List.length_cons]; omega
theorem or128 : ∀ b : Fin 256, ibits .or .u8 (b.1 : Int) 128 = ((b.1 % 128 + 128 : Nat) : Int) := by decide +kernel
/-- Where an Out keeps its bytes, if it has any. -/
def obV (e : Option (Nat × Nat)) (bs : List Nat) : AV := match e with
  | none => .nils
  | some (key, g) => .sl 1 key g 1 0 bs.length
def obH (e : Option (Nat × Nat)) (bs : List Nat) : Heap := match e with
  | none => []
  | some (key, g) => [(1, key, g, some (avs bs))]
/-- None but in the beginning; names behind those of the owner. -/
def ObOk (d : Nat) (e : Option (Nat × Nat)) (bs : List Nat) : Prop := match e with
  | none => bs = []
  | some (key, _) => d < key ∧ key < 50
end Go.Ev
namespace Go.Proofs.Ytmokhopjnjecbaa
open Go.Ev
set_option linter.unusedVariables false
set_option linter.unusedSimpArgs false
set_option maxRecDepth 100000
set_option maxHeartbeats 1600000

theorem ob_app {α : Type} (K f d g : Nat) (B : Option (List AV)) (hd : d < K ∧ K < 50) (e : Option (Nat × Nat)) (bs : List Nat) (he : ObOk d e bs) (ns : List Nat) (c : Option Nat) (hn : 0 < ns.length) (hlen : bs.length + ns.length ≤ 1099511627776) (nx : Ctr) :
    ∃ key, (d < key ∧ key < 50) ∧ ∀ (ok : AV → Heap → Ctr → α) (bad : α), appK 1 1 K (obV e bs) (.fz 1 (avs ns) c) ((f, d, g, B) :: obH e bs) nx 1 ok bad = ok (.sl 1 key (nx key) 1 0 (bs ++ ns).length) ((f, d, g, B) :: obH (some (key, nx key)) (bs ++ ns)) (bump nx key) := by
  cases e with
  | none =>
    obtain rfl : bs = [] := he
    refine ⟨K, hd, fun ok bad => ?_⟩
    simp only [List.length_nil, Nat.zero_add] at hlen
    have n1 : ¬ ns.length = 0 := by omega
    have n2 : ¬ (d = K ∧ f = 1) := by omega
    have n3 : ¬ K < d := by omega
    have n4 : ns.length * 1 ≤ 1099511627776 ∧ ns.length ≤ 1099511627776 := by omega
    simp only [appK, obV, obH, avs_len, catCells_avs, if_neg n1, if_pos n4, setB, if_neg n2, if_neg n3, List.nil_append, if_true]
  | some p =>
    obtain ⟨key, g'⟩ := p
    have hk : d < key ∧ key < 50 := he
    refine ⟨key, hk, fun ok bad => ?_⟩
    have n2 : ¬ (d = key ∧ f = 1) := by omega
    have n3 : ¬ key < d := by omega
    have n4 : (bs.length + ns.length) * 1 ≤ 1099511627776 ∧ bs.length + ns.length ≤ 1099511627776 := by omega
    have n5 : (avs bs).length = bs.length * 1 := by rw [avs_len]; omega
    simp only [appK, obV, obH, avs_len, catCells_avs, setB, getB, if_neg n2, if_neg n3, and_self, if_true, true_and, if_pos n4, n5, avs_append, List.length_append]
theorem obV_nn (key g : Nat) (bs : List Nat) : obV (some (key, g)) bs = .sl 1 key g 1 0 bs.length := rfl
theorem ob_cells (e : Option (Nat × Nat)) (bs : List Nat) : cells (obV e bs) = [obV e bs] := by cases e with
  | none => rfl
  | some p => rfl
/-- A walk that falls off a function's end. -/
theorem fallH {φ : Nat} {ks : List (Nat × Nat)} {rs : List RS} {r : AV} {Hout : Heap} {nx' : Ctr} {t : List AV} {H : Heap} {nx : Ctr} (h1 : Ev.sel ks H = Hout) (h2 : getsK rs t H (fun vs => some (retv vs)) none = some r) (h3 : nx = nx') : RunsO Try.prog φ (GivesH ks rs r Hout nx') [] (.fall t H nx) :=
  RunsX.of (.nil (GivesH.of h1 h2 h3))
theorem ob_find (f d g : Nat) (B : Option (List AV)) (H : Heap) : find ((f, d, g, B) :: H) f d = some (g, B) := by simp [find]
theorem ob_get {α : Type} (f d g : Nat) (cs : List AV) (H : Heap) (ok : List AV → α) (bad : α) : getB ((f, d, g, some cs) :: H) f d g ok bad = ok cs := by simp [getB]
theorem ob_set (f d g g2 : Nat) (B B2 : Option (List AV)) (H : Heap) : setB ((f, d, g, B) :: H) f d g2 B2 = (f, d, g2, B2) :: H := by simp [setB]
theorem ob_sel (f d g : Nat) (B : Option (List AV)) (key g' : Nat) (bs : List Nat) (hd : d < key) : Ev.sel [(f, d), (1, key)] ((f, d, g, B) :: obH (some (key, g')) bs) = (f, d, g, B) :: obH (some (key, g')) bs := by
  have n2 : ¬ (d = key ∧ f = 1) := by omega
  simp [Ev.sel, find, obH, n2]
theorem outNum_loop (bd : Bool) (f d g : Nat) (hd : d < 26) : ∀ (n v : Nat), v < 128 ^ (n + 1) → v < 9223372036854775808 → ∀ (e : Option (Nat × Nat)) (bs : List Nat) (nx : Ctr), ObOk d e bs → bs.length + n < 1099511627776 →
    ∃ key g' nx', (d < key ∧ key < 50) ∧ RunsX Try.prog 1 (GivesH [(f, d), (1, key)] [] (.tup []) ((f, d, g, some [obV (some (key, g')) (bs ++ numB v), .bool bd]) :: obH (some (key, g')) (bs ++ numB v)) nx') (i_codec_Out_Num_1 ++ [.c c_codec_Out_Num_k0])
      (s_codec_Out_Num_1 (.ptr f d g 0) (.int .i64 (v : Nat))) ((f, d, g, some [obV e bs, .bool bd]) :: obH e bs) nx := by
  intro n
  induction n with
  | zero =>
    intro v hv hv2 e bs nx he hl
    have h1 : v < 128 := by omega
    have w1 : (v % 256 : Nat) = v := by omega
    obtain ⟨key, hk, hA⟩ := ob_app (α := Out) 37 f d g (some [obV e bs, .bool bd]) (by omega) e bs he [v] (some 1) (by simp) (by simp; omega) nx
    simp only [avs, List.map_cons, List.map_nil] at hA
    refine ⟨key, nx key, bump nx key, hk, ?_⟩
    have i1 : ¬ (128 : Int) ≤ (v : Int) := by omega
    refine round (its := [.blk 1 wb_codec_Out_Num_1]) (k0 := [.c c_codec_Out_Num_k0]) 100 trivial trivial (fun A eA => ?_)
    simp (disch := first | omega | (simp only [avs_len, List.length_cons, List.length_append, List.length_nil, List.length_take, List.length_drop, List.length_map]; omega)) only [c_codec_Out_Num, wl_codec_Out_Num_1, s_codec_Out_Num_1, c_codec_Out_Num_l1, wb_codec_Out_Num_1, c_codec_Out_Num_k0, ↓advStep, ↓execK, ↓opK, ↓binK, ↓intK, ↓strK, evs, ev, getT, setT, put, List.replicate, List.cons_append, List.nil_append, List.length_cons, List.length_nil, ↓mapK, ↓frzK_sl, ↓frzK_agg, ↓frzK_tup, ↓frzK_ifc, ↓frzK_func, ↓frzK_int, ↓frzK_bool, ↓frzK_str, ↓frzK_nilp, ↓frzK_nils, ↓frzK_nilm, ↓frzK_nilf, ↓frzK_nili, ↓frzK_fz, ↓frzK_any, ↓frzK_ptr, ↓frzK_ro, ↓getB, setB, kill, killM, dropK, keysOf, capOf_nn, zeroC, bump, frzT, thaw, gets, putAll, ↓getsK, ↓getR, ↓retK, retv, find, cells, ↓nilpK, ↓nilsK, ↓nilfK, ↓niliK, ↓bndK, ↓cutK, ↓fillK, ↓exitK, List.append_nil, List.drop, List.take, Nat.reduceAdd, Nat.reduceSub, Nat.reduceMul, Nat.reduceLT, Nat.reduceLeDiff, Nat.zero_add, Nat.add_zero, Nat.mul_one, Int.reduceToNat, Nat.reduceEqDiff, Nat.succ_ne_self, Nat.le_refl, Nat.one_ne_zero, Nat.reduceBEq, Nat.lt_irrefl, List.length_append, Int.toNat_zero, Int.toNat_one, List.take_zero, List.drop_zero, Nat.zero_mul, sel, rest, keyIn, ↓reduceIte, ↓if_pos, ↓if_neg, reduceCtorEq, Bool.not_true, Bool.not_false, Bool.false_eq_true, Bool.true_eq_false, and_self, and_true, true_and, false_and, and_false, decide_true, decide_false, decide_eq_true, decide_eq_false, decide_eq_true_eq, decide_eq_false_iff_not, Bool.not_eq_true, Bool.not_eq_false, Bool.not_eq_eq_eq_not, Decidable.not_not, eA, i1]
    refine walk0 (its := [.c c_codec_Out_Num_k0]) 100 trivial (fun A eA => ?_)
    simp (disch := first | omega | (simp only [avs_len, List.length_cons, List.length_append, List.length_nil, List.length_take, List.length_drop, List.length_map]; omega)) only [c_codec_Out_Num, wl_codec_Out_Num_1, s_codec_Out_Num_1, c_codec_Out_Num_l1, wb_codec_Out_Num_1, c_codec_Out_Num_k0, ↓advStep, ↓execK, ↓opK, ↓binK, ↓intK, ↓strK, evs, ev, getT, setT, put, List.replicate, List.cons_append, List.nil_append, List.length_cons, List.length_nil, ↓mapK, ↓frzK_sl, ↓frzK_agg, ↓frzK_tup, ↓frzK_ifc, ↓frzK_func, ↓frzK_int, ↓frzK_bool, ↓frzK_str, ↓frzK_nilp, ↓frzK_nils, ↓frzK_nilm, ↓frzK_nilf, ↓frzK_nili, ↓frzK_fz, ↓frzK_any, ↓frzK_ptr, ↓frzK_ro, ↓getB, setB, kill, killM, dropK, keysOf, capOf_nn, zeroC, bump, frzT, thaw, gets, putAll, ↓getsK, ↓getR, ↓retK, retv, find, cells, ↓nilpK, ↓nilsK, ↓nilfK, ↓niliK, ↓bndK, ↓cutK, ↓fillK, ↓exitK, List.append_nil, List.drop, List.take, Nat.reduceAdd, Nat.reduceSub, Nat.reduceMul, Nat.reduceLT, Nat.reduceLeDiff, Nat.zero_add, Nat.add_zero, Nat.mul_one, Int.reduceToNat, Nat.reduceEqDiff, Nat.succ_ne_self, Nat.le_refl, Nat.one_ne_zero, Nat.reduceBEq, Nat.lt_irrefl, List.length_append, Int.toNat_zero, Int.toNat_one, List.take_zero, List.drop_zero, Nat.zero_mul, sel, rest, keyIn, ↓reduceIte, ↓if_pos, ↓if_neg, reduceCtorEq, Bool.not_true, Bool.not_false, Bool.false_eq_true, Bool.true_eq_false, and_self, and_true, true_and, false_and, and_false, decide_true, decide_false, decide_eq_true, decide_eq_false, decide_eq_true_eq, decide_eq_false_iff_not, Bool.not_eq_true, Bool.not_eq_false, Bool.not_eq_eq_eq_not, Decidable.not_not, eA, ob_find, ob_get, ob_set, wrap_u8, w1, allSz, scal1, List.all_cons, List.all_nil, Bool.and_self, beq_self_eq_true, ↓ob_cells, ↓hA]
    rw [numB_lt h1]
    rw [show obV (some (key, nx key)) (bs ++ [v]) = .sl 1 key (nx key) 1 0 (bs.length + 1) by simp [obV]]; exact fallH (ob_sel f d g _ key _ _ hk.1) rfl rfl
  | succ n ih =>
    intro v hv hv2 e bs nx he hl
    by_cases h1 : v < 128
    · have w1 : (v % 256 : Nat) = v := by omega
      obtain ⟨key, hk, hA⟩ := ob_app (α := Out) 37 f d g (some [obV e bs, .bool bd]) (by omega) e bs he [v] (some 1) (by simp) (by simp; omega) nx
      simp only [avs, List.map_cons, List.map_nil] at hA
      refine ⟨key, nx key, bump nx key, hk, ?_⟩
      have i1 : ¬ (128 : Int) ≤ (v : Int) := by omega
      refine round (its := [.blk 1 wb_codec_Out_Num_1]) (k0 := [.c c_codec_Out_Num_k0]) 100 trivial trivial (fun A eA => ?_)
      simp (disch := first | omega | (simp only [avs_len, List.length_cons, List.length_append, List.length_nil, List.length_take, List.length_drop, List.length_map]; omega)) only [c_codec_Out_Num, wl_codec_Out_Num_1, s_codec_Out_Num_1, c_codec_Out_Num_l1, wb_codec_Out_Num_1, c_codec_Out_Num_k0, ↓advStep, ↓execK, ↓opK, ↓binK, ↓intK, ↓strK, evs, ev, getT, setT, put, List.replicate, List.cons_append, List.nil_append, List.length_cons, List.length_nil, ↓mapK, ↓frzK_sl, ↓frzK_agg, ↓frzK_tup, ↓frzK_ifc, ↓frzK_func, ↓frzK_int, ↓frzK_bool, ↓frzK_str, ↓frzK_nilp, ↓frzK_nils, ↓frzK_nilm, ↓frzK_nilf, ↓frzK_nili, ↓frzK_fz, ↓frzK_any, ↓frzK_ptr, ↓frzK_ro, ↓getB, setB, kill, killM, dropK, keysOf, capOf_nn, zeroC, bump, frzT, thaw, gets, putAll, ↓getsK, ↓getR, ↓retK, retv, find, cells, ↓nilpK, ↓nilsK, ↓nilfK, ↓niliK, ↓bndK, ↓cutK, ↓fillK, ↓exitK, List.append_nil, List.drop, List.take, Nat.reduceAdd, Nat.reduceSub, Nat.reduceMul, Nat.reduceLT, Nat.reduceLeDiff, Nat.zero_add, Nat.add_zero, Nat.mul_one, Int.reduceToNat, Nat.reduceEqDiff, Nat.succ_ne_self, Nat.le_refl, Nat.one_ne_zero, Nat.reduceBEq, Nat.lt_irrefl, List.length_append, Int.toNat_zero, Int.toNat_one, List.take_zero, List.drop_zero, Nat.zero_mul, sel, rest, keyIn, ↓reduceIte, ↓if_pos, ↓if_neg, reduceCtorEq, Bool.not_true, Bool.not_false, Bool.false_eq_true, Bool.true_eq_false, and_self, and_true, true_and, false_and, and_false, decide_true, decide_false, decide_eq_true, decide_eq_false, decide_eq_true_eq, decide_eq_false_iff_not, Bool.not_eq_true, Bool.not_eq_false, Bool.not_eq_eq_eq_not, Decidable.not_not, eA, i1]
      refine walk0 (its := [.c c_codec_Out_Num_k0]) 100 trivial (fun A eA => ?_)
      simp (disch := first | omega | (simp only [avs_len, List.length_cons, List.length_append, List.length_nil, List.length_take, List.length_drop, List.length_map]; omega)) only [c_codec_Out_Num, wl_codec_Out_Num_1, s_codec_Out_Num_1, c_codec_Out_Num_l1, wb_codec_Out_Num_1, c_codec_Out_Num_k0, ↓advStep, ↓execK, ↓opK, ↓binK, ↓intK, ↓strK, evs, ev, getT, setT, put, List.replicate, List.cons_append, List.nil_append, List.length_cons, List.length_nil, ↓mapK, ↓frzK_sl, ↓frzK_agg, ↓frzK_tup, ↓frzK_ifc, ↓frzK_func, ↓frzK_int, ↓frzK_bool, ↓frzK_str, ↓frzK_nilp, ↓frzK_nils, ↓frzK_nilm, ↓frzK_nilf, ↓frzK_nili, ↓frzK_fz, ↓frzK_any, ↓frzK_ptr, ↓frzK_ro, ↓getB, setB, kill, killM, dropK, keysOf, capOf_nn, zeroC, bump, frzT, thaw, gets, putAll, ↓getsK, ↓getR, ↓retK, retv, find, cells, ↓nilpK, ↓nilsK, ↓nilfK, ↓niliK, ↓bndK, ↓cutK, ↓fillK, ↓exitK, List.append_nil, List.drop, List.take, Nat.reduceAdd, Nat.reduceSub, Nat.reduceMul, Nat.reduceLT, Nat.reduceLeDiff, Nat.zero_add, Nat.add_zero, Nat.mul_one, Int.reduceToNat, Nat.reduceEqDiff, Nat.succ_ne_self, Nat.le_refl, Nat.one_ne_zero, Nat.reduceBEq, Nat.lt_irrefl, List.length_append, Int.toNat_zero, Int.toNat_one, List.take_zero, List.drop_zero, Nat.zero_mul, sel, rest, keyIn, ↓reduceIte, ↓if_pos, ↓if_neg, reduceCtorEq, Bool.not_true, Bool.not_false, Bool.false_eq_true, Bool.true_eq_false, and_self, and_true, true_and, false_and, and_false, decide_true, decide_false, decide_eq_true, decide_eq_false, decide_eq_true_eq, decide_eq_false_iff_not, Bool.not_eq_true, Bool.not_eq_false, Bool.not_eq_eq_eq_not, Decidable.not_not, eA, ob_find, ob_get, ob_set, wrap_u8, w1, allSz, scal1, List.all_cons, List.all_nil, Bool.and_self, beq_self_eq_true, ↓ob_cells, ↓hA]
      rw [numB_lt h1]
      rw [show obV (some (key, nx key)) (bs ++ [v]) = .sl 1 key (nx key) 1 0 (bs.length + 1) by simp [obV]]; exact fallH (ob_sel f d g _ key _ _ hk.1) rfl rfl
    · obtain ⟨key, hk, hA⟩ := ob_app (α := Out) 26 f d g (some [obV e bs, .bool bd]) (by omega) e bs he [v % 128 + 128] (some 1) (by simp) (by simp; omega) nx
      simp only [avs, List.map_cons, List.map_nil] at hA
      have hq : v / 128 < 128 ^ (n + 1) := by rw [Nat.div_lt_iff_lt_mul (by omega), ← Nat.pow_succ]; exact hv
      obtain ⟨key2, g2, nx2, hk2, hih⟩ := ih (v / 128) hq (by omega) (some (key, nx key)) (bs ++ [v % 128 + 128]) (bump nx key) hk (by simp; omega)
      refine ⟨key2, g2, nx2, hk2, ?_⟩
      rw [numB_ge h1]
      rw [List.append_assoc, List.singleton_append] at hih
      clear hv hq ih
      have i1 : (128 : Int) ≤ (v : Int) := by omega
      have w1 := or128 ⟨v % 256, by omega⟩
      simp only at w1
      have w2 : v % 256 % 128 = v % 128 := by omega
      rw [w2] at w1
      have e8 : ishr .i64 (v : Int) 7 = ((v / 128 : Nat) : Int) := ishr_nat .i64 .u64 v 7 (by decide)
      refine round (its := [.blk 1 wb_codec_Out_Num_1]) (k0 := [.c c_codec_Out_Num_k0]) 100 trivial trivial (fun A eA => ?_)
      simp (disch := first | omega | (simp only [avs_len, List.length_cons, List.length_append, List.length_nil, List.length_take, List.length_drop, List.length_map]; omega)) only [c_codec_Out_Num, wl_codec_Out_Num_1, s_codec_Out_Num_1, c_codec_Out_Num_l1, wb_codec_Out_Num_1, c_codec_Out_Num_k0, ↓advStep, ↓execK, ↓opK, ↓binK, ↓intK, ↓strK, evs, ev, getT, setT, put, List.replicate, List.cons_append, List.nil_append, List.length_cons, List.length_nil, ↓mapK, ↓frzK_sl, ↓frzK_agg, ↓frzK_tup, ↓frzK_ifc, ↓frzK_func, ↓frzK_int, ↓frzK_bool, ↓frzK_str, ↓frzK_nilp, ↓frzK_nils, ↓frzK_nilm, ↓frzK_nilf, ↓frzK_nili, ↓frzK_fz, ↓frzK_any, ↓frzK_ptr, ↓frzK_ro, ↓getB, setB, kill, killM, dropK, keysOf, capOf_nn, zeroC, bump, frzT, thaw, gets, putAll, ↓getsK, ↓getR, ↓retK, retv, find, cells, ↓nilpK, ↓nilsK, ↓nilfK, ↓niliK, ↓bndK, ↓cutK, ↓fillK, ↓exitK, List.append_nil, List.drop, List.take, Nat.reduceAdd, Nat.reduceSub, Nat.reduceMul, Nat.reduceLT, Nat.reduceLeDiff, Nat.zero_add, Nat.add_zero, Nat.mul_one, Int.reduceToNat, Nat.reduceEqDiff, Nat.succ_ne_self, Nat.le_refl, Nat.one_ne_zero, Nat.reduceBEq, Nat.lt_irrefl, List.length_append, Int.toNat_zero, Int.toNat_one, List.take_zero, List.drop_zero, Nat.zero_mul, sel, rest, keyIn, ↓reduceIte, ↓if_pos, ↓if_neg, reduceCtorEq, Bool.not_true, Bool.not_false, Bool.false_eq_true, Bool.true_eq_false, and_self, and_true, true_and, false_and, and_false, decide_true, decide_false, decide_eq_true, decide_eq_false, decide_eq_true_eq, decide_eq_false_iff_not, Bool.not_eq_true, Bool.not_eq_false, Bool.not_eq_eq_eq_not, Decidable.not_not, eA, i1, ob_find, ob_get, ob_set, wrap_u8, w1, e8, allSz, scal1, List.all_cons, List.all_nil, Bool.and_self, beq_self_eq_true, ↓ob_cells, ↓hA]
      rw [show obV (some (key, nx key)) (bs ++ [v % 128 + 128]) = .sl 1 key (nx key) 1 0 (bs.length + 1) by simp [obV]] at hih
      exact hih
/-- Out.Num of a number, whatever lies in the Out. -/
theorem outNum_h (bd : Bool) (f d g : Nat) (hd : d < 26) (v : Nat) (hv : v < 9223372036854775808) (e : Option (Nat × Nat)) (bs : List Nat) (nx : Ctr) (he : ObOk d e bs) (hl : bs.length < 1099511627700) :
    ∃ key g' nx', (d < key ∧ key < 50) ∧ HCalls Try.prog F_codec_Out_Num [.ptr f d g 0, .int .i64 (v : Nat)] ((f, d, g, some [obV e bs, .bool bd]) :: obH e bs) nx (.tup []) ((f, d, g, some [obV (some (key, g')) (bs ++ numB v), .bool bd]) :: obH (some (key, g')) (bs ++ numB v)) nx' := by
  obtain ⟨key, g', nx', hk, h⟩ := outNum_loop bd f d g hd 8 v (by omega) hv e bs nx he (by omega)
  refine ⟨key, g', nx', hk, hcalls_codec_Out_Num 1 [(f, d), (1, key)] (walk0 100 trivial (fun A eA => ?_))⟩
  have i1 : ¬ ((v : Int) < 0) := by omega
  simp (disch := first | omega | (simp only [avs_len, List.length_cons, List.length_append, List.length_nil, List.length_take, List.length_drop, List.length_map]; omega)) only [c_codec_Out_Num, wl_codec_Out_Num_1, s_codec_Out_Num_1, c_codec_Out_Num_l1, wb_codec_Out_Num_1, c_codec_Out_Num_k0, ↓advStep, ↓execK, ↓opK, ↓binK, ↓intK, ↓strK, evs, ev, getT, setT, put, List.replicate, List.cons_append, List.nil_append, List.length_cons, List.length_nil, ↓mapK, ↓frzK_sl, ↓frzK_agg, ↓frzK_tup, ↓frzK_ifc, ↓frzK_func, ↓frzK_int, ↓frzK_bool, ↓frzK_str, ↓frzK_nilp, ↓frzK_nils, ↓frzK_nilm, ↓frzK_nilf, ↓frzK_nili, ↓frzK_fz, ↓frzK_any, ↓frzK_ptr, ↓frzK_ro, ↓getB, setB, kill, killM, dropK, keysOf, capOf_nn, zeroC, bump, frzT, thaw, gets, putAll, ↓getsK, ↓getR, ↓retK, retv, find, cells, ↓nilpK, ↓nilsK, ↓nilfK, ↓niliK, ↓bndK, ↓cutK, ↓fillK, ↓exitK, List.append_nil, List.drop, List.take, Nat.reduceAdd, Nat.reduceSub, Nat.reduceMul, Nat.reduceLT, Nat.reduceLeDiff, Nat.zero_add, Nat.add_zero, Nat.mul_one, Int.reduceToNat, Nat.reduceEqDiff, Nat.succ_ne_self, Nat.le_refl, Nat.one_ne_zero, Nat.reduceBEq, Nat.lt_irrefl, List.length_append, Int.toNat_zero, Int.toNat_one, List.take_zero, List.drop_zero, Nat.zero_mul, sel, rest, keyIn, ↓reduceIte, ↓if_pos, ↓if_neg, reduceCtorEq, Bool.not_true, Bool.not_false, Bool.false_eq_true, Bool.true_eq_false, and_self, and_true, true_and, false_and, and_false, decide_true, decide_false, decide_eq_true, decide_eq_false, decide_eq_true_eq, decide_eq_false_iff_not, Bool.not_eq_true, Bool.not_eq_false, Bool.not_eq_eq_eq_not, Decidable.not_not, eA, i1]
  exact h
/-- Out.Num of a number below 0. -/
theorem outNum_neg (f d g : Nat) (hd : d < 26) (v : Int) (hv : v < 0) (b : Bool) (e : Option (Nat × Nat)) (bs : List Nat) (nx : Ctr) (he : ObOk d e bs) :
    HCalls Try.prog F_codec_Out_Num [.ptr f d g 0, .int .i64 v] ((f, d, g, some [obV e bs, .bool b]) :: obH e bs) nx (.tup []) ((f, d, g, some [obV e bs, .bool true]) :: obH e bs) nx := by
  cases e with
  | none =>
    refine hcalls_codec_Out_Num 1 [(f, d)] (walk0 100 trivial (fun A eA => ?_))
    simp (disch := first | omega | (simp only [avs_len, List.length_cons, List.length_append, List.length_nil, List.length_take, List.length_drop, List.length_map]; omega)) only [c_codec_Out_Num, wl_codec_Out_Num_1, s_codec_Out_Num_1, c_codec_Out_Num_l1, wb_codec_Out_Num_1, c_codec_Out_Num_k0, ↓advStep, ↓execK, ↓opK, ↓binK, ↓intK, ↓strK, evs, ev, getT, setT, put, List.replicate, List.cons_append, List.nil_append, List.length_cons, List.length_nil, ↓mapK, ↓frzK_sl, ↓frzK_agg, ↓frzK_tup, ↓frzK_ifc, ↓frzK_func, ↓frzK_int, ↓frzK_bool, ↓frzK_str, ↓frzK_nilp, ↓frzK_nils, ↓frzK_nilm, ↓frzK_nilf, ↓frzK_nili, ↓frzK_fz, ↓frzK_any, ↓frzK_ptr, ↓frzK_ro, ↓getB, setB, kill, killM, dropK, keysOf, capOf_nn, zeroC, bump, frzT, thaw, gets, putAll, ↓getsK, ↓getR, ↓retK, retv, find, cells, ↓nilpK, ↓nilsK, ↓nilfK, ↓niliK, ↓bndK, ↓cutK, ↓fillK, ↓exitK, List.append_nil, List.drop, List.take, Nat.reduceAdd, Nat.reduceSub, Nat.reduceMul, Nat.reduceLT, Nat.reduceLeDiff, Nat.zero_add, Nat.add_zero, Nat.mul_one, Int.reduceToNat, Nat.reduceEqDiff, Nat.succ_ne_self, Nat.le_refl, Nat.one_ne_zero, Nat.reduceBEq, Nat.lt_irrefl, List.length_append, Int.toNat_zero, Int.toNat_one, List.take_zero, List.drop_zero, Nat.zero_mul, sel, rest, keyIn, ↓reduceIte, ↓if_pos, ↓if_neg, reduceCtorEq, Bool.not_true, Bool.not_false, Bool.false_eq_true, Bool.true_eq_false, and_self, and_true, true_and, false_and, and_false, decide_true, decide_false, decide_eq_true, decide_eq_false, decide_eq_true_eq, decide_eq_false_iff_not, Bool.not_eq_true, Bool.not_eq_false, Bool.not_eq_eq_eq_not, Decidable.not_not, eA, obV, obH, ob_get, ob_set, scal1]
    exact doneH (by simp only [↓advStep, ↓execK, ↓opK, ↓binK, ↓intK, ↓strK, evs, ev, getT, setT, put, List.replicate, List.cons_append, List.nil_append, List.length_cons, List.length_nil, ↓mapK, ↓frzK_sl, ↓frzK_agg, ↓frzK_tup, ↓frzK_ifc, ↓frzK_func, ↓frzK_int, ↓frzK_bool, ↓frzK_str, ↓frzK_nilp, ↓frzK_nils, ↓frzK_nilm, ↓frzK_nilf, ↓frzK_nili, ↓frzK_fz, ↓frzK_any, ↓frzK_ptr, ↓frzK_ro, ↓getB, setB, kill, killM, dropK, keysOf, capOf_nn, zeroC, bump, frzT, thaw, gets, putAll, ↓getsK, ↓getR, ↓retK, retv, find, cells, ↓nilpK, ↓nilsK, ↓nilfK, ↓niliK, ↓bndK, ↓cutK, ↓fillK, ↓exitK, List.append_nil, List.drop, List.take, Nat.reduceAdd, Nat.reduceSub, Nat.reduceMul, Nat.reduceLT, Nat.reduceLeDiff, Nat.zero_add, Nat.add_zero, Nat.mul_one, Int.reduceToNat, Nat.reduceEqDiff, Nat.succ_ne_self, Nat.le_refl, Nat.one_ne_zero, Nat.reduceBEq, Nat.lt_irrefl, List.length_append, Int.toNat_zero, Int.toNat_one, List.take_zero, List.drop_zero, Nat.zero_mul, sel, rest, keyIn, ↓reduceIte, ↓if_pos, ↓if_neg, reduceCtorEq, Bool.not_true, Bool.not_false, Bool.false_eq_true, Bool.true_eq_false, and_self, and_true, true_and, false_and, and_false, decide_true, decide_false, decide_eq_true, decide_eq_false, decide_eq_true_eq, decide_eq_false_iff_not, Bool.not_eq_true, Bool.not_eq_false, Bool.not_eq_eq_eq_not, Decidable.not_not]) rfl rfl
  | some p =>
    obtain ⟨key, g'⟩ := p
    refine hcalls_codec_Out_Num 1 [(f, d), (1, key)] (walk0 100 trivial (fun A eA => ?_))
    simp (disch := first | omega | (simp only [avs_len, List.length_cons, List.length_append, List.length_nil, List.length_take, List.length_drop, List.length_map]; omega)) only [c_codec_Out_Num, wl_codec_Out_Num_1, s_codec_Out_Num_1, c_codec_Out_Num_l1, wb_codec_Out_Num_1, c_codec_Out_Num_k0, ↓advStep, ↓execK, ↓opK, ↓binK, ↓intK, ↓strK, evs, ev, getT, setT, put, List.replicate, List.cons_append, List.nil_append, List.length_cons, List.length_nil, ↓mapK, ↓frzK_sl, ↓frzK_agg, ↓frzK_tup, ↓frzK_ifc, ↓frzK_func, ↓frzK_int, ↓frzK_bool, ↓frzK_str, ↓frzK_nilp, ↓frzK_nils, ↓frzK_nilm, ↓frzK_nilf, ↓frzK_nili, ↓frzK_fz, ↓frzK_any, ↓frzK_ptr, ↓frzK_ro, ↓getB, setB, kill, killM, dropK, keysOf, capOf_nn, zeroC, bump, frzT, thaw, gets, putAll, ↓getsK, ↓getR, ↓retK, retv, find, cells, ↓nilpK, ↓nilsK, ↓nilfK, ↓niliK, ↓bndK, ↓cutK, ↓fillK, ↓exitK, List.append_nil, List.drop, List.take, Nat.reduceAdd, Nat.reduceSub, Nat.reduceMul, Nat.reduceLT, Nat.reduceLeDiff, Nat.zero_add, Nat.add_zero, Nat.mul_one, Int.reduceToNat, Nat.reduceEqDiff, Nat.succ_ne_self, Nat.le_refl, Nat.one_ne_zero, Nat.reduceBEq, Nat.lt_irrefl, List.length_append, Int.toNat_zero, Int.toNat_one, List.take_zero, List.drop_zero, Nat.zero_mul, sel, rest, keyIn, ↓reduceIte, ↓if_pos, ↓if_neg, reduceCtorEq, Bool.not_true, Bool.not_false, Bool.false_eq_true, Bool.true_eq_false, and_self, and_true, true_and, false_and, and_false, decide_true, decide_false, decide_eq_true, decide_eq_false, decide_eq_true_eq, decide_eq_false_iff_not, Bool.not_eq_true, Bool.not_eq_false, Bool.not_eq_eq_eq_not, Decidable.not_not, eA, obV, obH, ob_get, ob_set, scal1]
    exact doneH (ob_sel f d g _ key _ _ he.1) rfl rfl
theorem bool_num (f d g : Nat) (c : Bool) (X X' : List AV) (H H' : Heap) (ks ks2 : List (Nat × Nat)) (nx nx' : Ctr) (hin : Ev.sel ks ((f, d, g, some X) :: H) = (f, d, g, some X) :: H) (hre : rest ks ((f, d, g, some X) :: H) = []) (hs : Ev.sel ks2 ((f, d, g, some X') :: H') = (f, d, g, some X') :: H')
    (h : HCalls Try.prog F_codec_Out_Num [.ptr f d g 0, .int .i64 (if c = true then 1 else 0)] ((f, d, g, some X) :: H) nx (.tup []) ((f, d, g, some X') :: H') nx') :
    HCalls Try.prog F_codec_Out_Bool [.ptr f d g 0, .bool c] ((f, d, g, some X) :: H) nx (.tup []) ((f, d, g, some X') :: H') nx' := by
  refine hcalls_codec_Out_Bool 2 ks2 (walk0 100 trivial (fun A eA => ?_))
  cases c with
  | true =>
    simp (disch := first | omega | (simp only [avs_len, List.length_cons, List.length_append, List.length_nil, List.length_take, List.length_drop, List.length_map]; omega)) only [c_codec_Out_Bool, ↓advStep, ↓execK, ↓opK, ↓binK, ↓intK, ↓strK, evs, ev, getT, setT, put, List.replicate, List.cons_append, List.nil_append, List.length_cons, List.length_nil, ↓mapK, ↓frzK_sl, ↓frzK_agg, ↓frzK_tup, ↓frzK_ifc, ↓frzK_func, ↓frzK_int, ↓frzK_bool, ↓frzK_str, ↓frzK_nilp, ↓frzK_nils, ↓frzK_nilm, ↓frzK_nilf, ↓frzK_nili, ↓frzK_fz, ↓frzK_any, ↓frzK_ptr, ↓frzK_ro, ↓getB, setB, kill, killM, dropK, keysOf, capOf_nn, zeroC, bump, frzT, thaw, gets, putAll, ↓getsK, ↓getR, ↓retK, retv, find, cells, ↓nilpK, ↓nilsK, ↓nilfK, ↓niliK, ↓bndK, ↓cutK, ↓fillK, ↓exitK, List.append_nil, List.drop, List.take, Nat.reduceAdd, Nat.reduceSub, Nat.reduceMul, Nat.reduceLT, Nat.reduceLeDiff, Nat.zero_add, Nat.add_zero, Nat.mul_one, Int.reduceToNat, Nat.reduceEqDiff, Nat.succ_ne_self, Nat.le_refl, Nat.one_ne_zero, Nat.reduceBEq, Nat.lt_irrefl, List.length_append, Int.toNat_zero, Int.toNat_one, List.take_zero, List.drop_zero, Nat.zero_mul, sel, rest, keyIn, ↓reduceIte, ↓if_pos, ↓if_neg, reduceCtorEq, Bool.not_true, Bool.not_false, Bool.false_eq_true, Bool.true_eq_false, and_self, and_true, true_and, false_and, and_false, decide_true, decide_false, decide_eq_true, decide_eq_false, decide_eq_true_eq, decide_eq_false_iff_not, Bool.not_eq_true, Bool.not_eq_false, Bool.not_eq_eq_eq_not, Decidable.not_not, eA, scal1]
    refine call2 100 trivial trivial ks hin hre h (.inl rfl) (fun A eA => ?_)
    simp (disch := first | omega | (simp only [avs_len, List.length_cons, List.length_append, List.length_nil, List.length_take, List.length_drop, List.length_map]; omega)) only [c_codec_Out_Bool, ↓advStep, ↓execK, ↓opK, ↓binK, ↓intK, ↓strK, evs, ev, getT, setT, put, List.replicate, List.cons_append, List.nil_append, List.length_cons, List.length_nil, ↓mapK, ↓frzK_sl, ↓frzK_agg, ↓frzK_tup, ↓frzK_ifc, ↓frzK_func, ↓frzK_int, ↓frzK_bool, ↓frzK_str, ↓frzK_nilp, ↓frzK_nils, ↓frzK_nilm, ↓frzK_nilf, ↓frzK_nili, ↓frzK_fz, ↓frzK_any, ↓frzK_ptr, ↓frzK_ro, ↓getB, setB, kill, killM, dropK, keysOf, capOf_nn, zeroC, bump, frzT, thaw, gets, putAll, ↓getsK, ↓getR, ↓retK, retv, find, cells, ↓nilpK, ↓nilsK, ↓nilfK, ↓niliK, ↓bndK, ↓cutK, ↓fillK, ↓exitK, List.append_nil, List.drop, List.take, Nat.reduceAdd, Nat.reduceSub, Nat.reduceMul, Nat.reduceLT, Nat.reduceLeDiff, Nat.zero_add, Nat.add_zero, Nat.mul_one, Int.reduceToNat, Nat.reduceEqDiff, Nat.succ_ne_self, Nat.le_refl, Nat.one_ne_zero, Nat.reduceBEq, Nat.lt_irrefl, List.length_append, Int.toNat_zero, Int.toNat_one, List.take_zero, List.drop_zero, Nat.zero_mul, sel, rest, keyIn, ↓reduceIte, ↓if_pos, ↓if_neg, reduceCtorEq, Bool.not_true, Bool.not_false, Bool.false_eq_true, Bool.true_eq_false, and_self, and_true, true_and, false_and, and_false, decide_true, decide_false, decide_eq_true, decide_eq_false, decide_eq_true_eq, decide_eq_false_iff_not, Bool.not_eq_true, Bool.not_eq_false, Bool.not_eq_eq_eq_not, Decidable.not_not, eA, scal1]
    exact doneH hs rfl rfl
  | false =>
    simp (disch := first | omega | (simp only [avs_len, List.length_cons, List.length_append, List.length_nil, List.length_take, List.length_drop, List.length_map]; omega)) only [c_codec_Out_Bool, ↓advStep, ↓execK, ↓opK, ↓binK, ↓intK, ↓strK, evs, ev, getT, setT, put, List.replicate, List.cons_append, List.nil_append, List.length_cons, List.length_nil, ↓mapK, ↓frzK_sl, ↓frzK_agg, ↓frzK_tup, ↓frzK_ifc, ↓frzK_func, ↓frzK_int, ↓frzK_bool, ↓frzK_str, ↓frzK_nilp, ↓frzK_nils, ↓frzK_nilm, ↓frzK_nilf, ↓frzK_nili, ↓frzK_fz, ↓frzK_any, ↓frzK_ptr, ↓frzK_ro, ↓getB, setB, kill, killM, dropK, keysOf, capOf_nn, zeroC, bump, frzT, thaw, gets, putAll, ↓getsK, ↓getR, ↓retK, retv, find, cells, ↓nilpK, ↓nilsK, ↓nilfK, ↓niliK, ↓bndK, ↓cutK, ↓fillK, ↓exitK, List.append_nil, List.drop, List.take, Nat.reduceAdd, Nat.reduceSub, Nat.reduceMul, Nat.reduceLT, Nat.reduceLeDiff, Nat.zero_add, Nat.add_zero, Nat.mul_one, Int.reduceToNat, Nat.reduceEqDiff, Nat.succ_ne_self, Nat.le_refl, Nat.one_ne_zero, Nat.reduceBEq, Nat.lt_irrefl, List.length_append, Int.toNat_zero, Int.toNat_one, List.take_zero, List.drop_zero, Nat.zero_mul, sel, rest, keyIn, ↓reduceIte, ↓if_pos, ↓if_neg, reduceCtorEq, Bool.not_true, Bool.not_false, Bool.false_eq_true, Bool.true_eq_false, and_self, and_true, true_and, false_and, and_false, decide_true, decide_false, decide_eq_true, decide_eq_false, decide_eq_true_eq, decide_eq_false_iff_not, Bool.not_eq_true, Bool.not_eq_false, Bool.not_eq_eq_eq_not, Decidable.not_not, eA, scal1]
    refine call2 100 trivial trivial ks hin hre h (.inl rfl) (fun A eA => ?_)
    simp (disch := first | omega | (simp only [avs_len, List.length_cons, List.length_append, List.length_nil, List.length_take, List.length_drop, List.length_map]; omega)) only [c_codec_Out_Bool, ↓advStep, ↓execK, ↓opK, ↓binK, ↓intK, ↓strK, evs, ev, getT, setT, put, List.replicate, List.cons_append, List.nil_append, List.length_cons, List.length_nil, ↓mapK, ↓frzK_sl, ↓frzK_agg, ↓frzK_tup, ↓frzK_ifc, ↓frzK_func, ↓frzK_int, ↓frzK_bool, ↓frzK_str, ↓frzK_nilp, ↓frzK_nils, ↓frzK_nilm, ↓frzK_nilf, ↓frzK_nili, ↓frzK_fz, ↓frzK_any, ↓frzK_ptr, ↓frzK_ro, ↓getB, setB, kill, killM, dropK, keysOf, capOf_nn, zeroC, bump, frzT, thaw, gets, putAll, ↓getsK, ↓getR, ↓retK, retv, find, cells, ↓nilpK, ↓nilsK, ↓nilfK, ↓niliK, ↓bndK, ↓cutK, ↓fillK, ↓exitK, List.append_nil, List.drop, List.take, Nat.reduceAdd, Nat.reduceSub, Nat.reduceMul, Nat.reduceLT, Nat.reduceLeDiff, Nat.zero_add, Nat.add_zero, Nat.mul_one, Int.reduceToNat, Nat.reduceEqDiff, Nat.succ_ne_self, Nat.le_refl, Nat.one_ne_zero, Nat.reduceBEq, Nat.lt_irrefl, List.length_append, Int.toNat_zero, Int.toNat_one, List.take_zero, List.drop_zero, Nat.zero_mul, sel, rest, keyIn, ↓reduceIte, ↓if_pos, ↓if_neg, reduceCtorEq, Bool.not_true, Bool.not_false, Bool.false_eq_true, Bool.true_eq_false, and_self, and_true, true_and, false_and, and_false, decide_true, decide_false, decide_eq_true, decide_eq_false, decide_eq_true_eq, decide_eq_false_iff_not, Bool.not_eq_true, Bool.not_eq_false, Bool.not_eq_eq_eq_not, Decidable.not_not, eA, scal1]
    exact fallH hs rfl rfl
end Go.Proofs.Ytmokhopjnjecbaa
