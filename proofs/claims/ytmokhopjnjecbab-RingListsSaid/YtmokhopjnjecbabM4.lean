/- THE LAW RingLists: a key is kept by so many servers, in the order of sums: the row's function answers true and leaves memory as it was.
   The walks step through the compiled bodies; here the row's reading of the arguments is opened and the answer shut. -/
import Derived.Test.YtmokhopjnjecbabM3
import Derived.SizedLaws
import Derived.ChangeSlices
import Derived.ProofKit
import Derived.OpenShut
import Derived.ShutString
import Derived.ChangeOld
import Derived.ChangeMaps5
import Derived.Below
namespace Go.Ev
set_option linter.unusedVariables false
/-- Sevens of bits, the least first. -/
def lowS : List Nat → Nat
  | [] => 0
  | b :: l => b % 128 + 128 * lowS l
/-- How many bytes a number has that bytes begin with; none: there is none. -/
def takeGo : Nat → List Nat → Option Nat
  | _, [] => none
  | k, b :: l => if 9 ≤ k then none else if 128 ≤ b then takeGo (k + 1) l else if b = 0 ∧ 0 < k then none else some (k + 1)
theorem lowS_append (a b : List Nat) : lowS (a ++ b) = lowS a + 128 ^ a.length * lowS b := by
  induction a with
  | nil => simp [lowS]
  | cons x a ih => simp only [List.cons_append, lowS, ih, List.length_cons, Nat.pow_succ]; rw [Nat.mul_add, ← Nat.mul_assoc, Nat.mul_comm 128 (128 ^ a.length), ← Nat.add_assoc]
theorem lowS_lt (a : List Nat) : lowS a < 128 ^ a.length := by
  induction a with
  | nil => simp [lowS]
  | cons x a ih => simp only [lowS, List.length_cons, Nat.pow_succ]; omega
theorem takeGo_some : ∀ (l : List Nat) (k n : Nat), takeGo k l = some n → k < n ∧ n ≤ 9 ∧ n ≤ k + l.length
  | [], k, n, h => by simp [takeGo] at h
  | b :: l, k, n, h => by
    simp only [takeGo] at h
    split at h
    · cases h
    · split at h
      · have := takeGo_some l (k + 1) n h
        simp only [List.length_cons]; omega
      · split at h
        · cases h
        · simp only [Option.some.injEq] at h; subst h
          simp only [List.length_cons]; omega
theorem ibits_or (k : IntKind) (hk : k.signed = false) (a b : Nat) (ha : a < 2 ^ k.bits) (hb : b < 2 ^ k.bits) : ibits .or k a b = ((a ||| b : Nat) : Int) := by
  simp only [ibits, BitVec.toNat_or, bv_toNat _ _ ha, bv_toNat _ _ hb]
  exact wrap_nat k hk _ (Nat.or_lt_two_pow ha hb)
theorem and128 : ∀ b : Fin 256, ibits .andNot .u8 (b.1 : Int) 128 = ((b.1 % 128 : Nat) : Int) := by decide +kernel
theorem and128' : ∀ b : Fin 256, (ibits .and .u8 (b.1 : Int) 128 = 0) ↔ b.1 < 128 := by decide +kernel
/-- One more seven of bits. -/
theorem or_step (v k x : Nat) (hv : v < 128 ^ k) (hk : k ≤ 8) (hx : x < 128) : ibits .or .u64 (v : Int) ((x * 2 ^ (7 * k) : Nat) : Int) = ((v + 128 ^ k * x : Nat) : Int) := by
  have e : 128 ^ k = 2 ^ (7 * k) := by rw [Nat.pow_mul]
  rw [e] at hv ⊢
  have h1 : 2 ^ (7 * k) ≤ 2 ^ 56 := Nat.pow_le_pow_right (by omega) (by omega)
  have h2 : x * 2 ^ (7 * k) ≤ 127 * 2 ^ 56 := Nat.mul_le_mul (by omega) h1
  rw [ibits_or .u64 rfl v _ (by show _ < 2 ^ 64; omega) (by show _ < 2 ^ 64; omega), Nat.or_comm, Nat.mul_comm x, ← Nat.two_pow_add_eq_or_of_lt hv, Nat.add_comm]
end Go.Ev
/- A number's bytes, a text's bytes; where an Out keeps its bytes: plain. -/
namespace Go.Ev
set_option linter.unusedVariables false
/-- A number's bytes. -/
def numB (v : Nat) : List Nat := if v < 128 then [v] else (v % 128 + 128) :: numB (v / 128)
theorem numB_lt {v : Nat} (h : v < 128) : numB v = [v] := by rw [numB, if_pos h]
theorem numB_ge {v : Nat} (h : ¬ v < 128) : numB v = (v % 128 + 128) :: numB (v / 128) := by rw [numB, if_neg h]
theorem numB_len : ∀ (n v : Nat), v < 128 ^ (n + 1) → (numB v).length ≤ n + 1
  | 0, v, h => by rw [numB_lt (by omega)]; simp
  | n + 1, v, h => by
    by_cases h1 : v < 128
    · rw [numB_lt h1]; simp
    · rw [numB_ge h1]
      have := numB_len n (v / 128) (by rw [Nat.div_lt_iff_lt_mul (by omega), ← Nat.pow_succ]; exact h)
      simp only [List.length_cons]; omega
theorem or128 : ∀ b : Fin 256, ibits .or .u8 (b.1 : Int) 128 = ((b.1 % 128 + 128 : Nat) : Int) := by decide +kernel
/-- Where an Out keeps its bytes, if it has any. -/
def obV (e : Option (Nat × Nat)) (bs : List Nat) : AV := match e with
  | none => .nils
  | some (key, g) => .sl 1 key g 1 0 bs.length
def obH (e : Option (Nat × Nat)) (bs : List Nat) : Heap := match e with
  | none => []
  | some (key, g) => [(1, key, g, some (avs bs))]
/-- None but in the beginning; names behind those of the owner. -/
def ObOk (d : Nat) (e : Option (Nat × Nat)) (bs : List Nat) : Prop := match e with
  | none => bs = []
  | some (key, _) => d < key ∧ key < 50
theorem numB_256 : ∀ (n v : Nat), v < 128 ^ (n + 1) → ∀ b ∈ numB v, b < 256
  | 0, v, h, b, hb => by rw [numB_lt (by omega)] at hb; simp at hb; omega
  | n + 1, v, h, b, hb => by
    by_cases h1 : v < 128
    · rw [numB_lt h1] at hb; simp at hb; omega
    · rw [numB_ge h1, List.mem_cons] at hb
      rcases hb with rfl | hb
      · omega
      · exact numB_256 n (v / 128) (by rw [Nat.div_lt_iff_lt_mul (by omega), ← Nat.pow_succ]; exact h) b hb
/-- A text's bytes. -/
def sbs (s : ByteArray) : List Nat := s.data.toList.map UInt8.toNat
theorem avBytes_sbs (s : ByteArray) : avBytes s = avs (sbs s) := by simp only [avBytes, avs, sbs, List.map_map]; rfl
theorem sbs_len (s : ByteArray) : (sbs s).length = s.size := by simp [sbs]
theorem numB_low : ∀ (n v : Nat), v < 128 ^ (n + 1) → lowS (numB v) = v
  | 0, v, h => by rw [numB_lt (by omega)]; simp [lowS]; omega
  | n + 1, v, h => by
    by_cases h1 : v < 128
    · rw [numB_lt h1]; simp [lowS]; omega
    · rw [numB_ge h1, lowS, numB_low n (v / 128) (by rw [Nat.div_lt_iff_lt_mul (by omega), ← Nat.pow_succ]; exact h)]
      omega
theorem numB_takeGo : ∀ (n v k : Nat) (r : List Nat), v < 128 ^ (n + 1) → k + n ≤ 8 → (0 < k → 0 < v) → takeGo k (numB v ++ r) = some (k + (numB v).length)
  | n, v, k, r, h, hk, hv => by
    by_cases h1 : v < 128
    · rw [numB_lt h1]
      simp only [List.cons_append, List.nil_append, takeGo, List.length_cons, List.length_nil]
      rw [if_neg (by omega), if_neg (by omega), if_neg (by omega)]
    · match n with
      | 0 => omega
      | n + 1 =>
        rw [numB_ge h1]
        simp only [List.cons_append, takeGo, List.length_cons]
        rw [if_neg (by omega), if_pos (by omega), numB_takeGo n (v / 128) (k + 1) r (by rw [Nat.div_lt_iff_lt_mul (by omega), ← Nat.pow_succ]; exact h) (by omega) (by omega)]
        congr 1; omega
theorem numB_take (v : Nat) (r : List Nat) (h : v < 9223372036854775808) : takeGo 0 (numB v ++ r) = some (numB v).length := by
  rw [numB_takeGo 8 v 0 r (by omega) (by omega) (by omega), Nat.zero_add]
theorem numB_val (v : Nat) (r : List Nat) (h : v < 9223372036854775808) : v = lowS ((numB v ++ r).take (numB v).length) := by
  rw [List.take_left]; exact (numB_low 8 v (by omega)).symm
theorem bstr_sbs (s : ByteArray) : bstr (sbs s) = s := by
  have : bytesOf (avs (sbs s)) = s.data.toList := by
    simp only [avs, sbs, List.map_map]
    induction s.data.toList with
    | nil => rfl
    | cons b l ih =>
      have e : bytesOf (List.map ((fun b : Nat => AV.int .u8 (b : Nat)) ∘ UInt8.toNat) (b :: l)) = UInt8.ofNat ((b.toNat : Nat) : Int).toNat :: bytesOf (List.map ((fun b : Nat => AV.int .u8 (b : Nat)) ∘ UInt8.toNat) l) := rfl
      rw [e, ih]; simp
  simp only [bstr, this]
end Go.Ev
/- A loop's next round, told of the evaluator's answer. -/
namespace Go.Ev
set_option linter.unusedVariables false
section
variable {P : Program} {φ : Nat} {R : List AV → Heap → Ctr → Prop} {k0 : List It}
theorem roundO {m : Mk} {b : Cd} {its : List It} {t : List AV} {H : Heap} {nx : Ctr} (n : Nat) (hk0 : flat k0) (hf : flat its) (h : ∀ A : Nat → List It → List AV → Heap → Ctr → Out, (∀ n its t H nx, A (n + 1) its t H nx = advStep φ (A n) its t H nx) → RunsO P φ R k0 (A n (.c b :: .lp m b :: its) t H nx)) : RunsO P φ R k0 (.more (.lp m b :: its) t H nx) :=
  round n hk0 hf h
end
end Go.Ev
/- Who keeps a key: the program's row. -/
-- short
-- fuel 300
namespace Go.Proofs.Ytmokhopjnjecbab
open Go.Ev
set_option linter.unusedVariables false
set_option linter.unusedSimpArgs false
set_option maxRecDepth 100000
set_option maxHeartbeats 3200000
theorem sbs_256 (s : ByteArray) : ∀ b ∈ sbs s, b < 256 := by
  intro b hb
  simp only [sbs, List.mem_map] at hb
  obtain ⟨c, _, rfl⟩ := hb
  exact c.toNat_lt
/-- Servers, in the order of sums. -/
def srt2 (c : Nat) : List Nat := if mixOf c 1 < mixOf c 0 then [1, 0] else [0, 1]
def putN (c x y z : Nat) : List Nat := if mixOf c z < mixOf c y then (if mixOf c z < mixOf c x then [z, x, y] else [x, z, y]) else [x, y, z]
def srt3 (c : Nat) : List Nat := if mixOf c 1 < mixOf c 0 then putN c 1 0 2 else putN c 0 1 2
theorem srt2_is (c : Nat) : ∃ x y, srt2 c = [x, y] ∧ x < 3 ∧ y < 3 := by
  unfold srt2; split
  · exact ⟨1, 0, rfl, by omega, by omega⟩
  · exact ⟨0, 1, rfl, by omega, by omega⟩
theorem srt3_is (c : Nat) : ∃ x y z, srt3 c = [x, y, z] ∧ x < 3 ∧ y < 3 ∧ z < 3 := by
  unfold srt3 putN
  split <;> split <;> (try split) <;> exact ⟨_, _, _, rfl, by omega, by omega, by omega⟩
theorem srt2_av (c : Nat) : (if mixOf c 1 < mixOf c 0 then [ri 1, ri 0] else [ri 0, ri 1]) = (srt2 c).map ri := by
  unfold srt2; split <;> rfl
theorem srt3_av (c : Nat) : (if mixOf c 1 < mixOf c 0 then put2 c 1 0 2 else put2 c 0 1 2) = (srt3 c).map ri := by
  unfold srt3 putN put2
  split <;> split <;> (try split) <;> rfl
abbrev keyC (key : ByteArray) : Nat := crcOf (sbs key)
theorem keyC_lt (key : ByteArray) : keyC key < 2 ^ 32 := crcOf_lt _ (sbs_256 key)
theorem keyC_calls (key : ByteArray) (hk : key.size ≤ 1000) : PCalls Try.prog F_sum_CRC [.fz 1 (avBytes key) none] (.int .u32 (keyC key : Nat)) := by
  have := crc_calls (sbs key) (sbs_256 key) (by rw [sbs_len]; omega)
  rw [← avBytes_sbs] at this; exact this
theorem keyR_calls (key : ByteArray) (hk : key.size ≤ 1000) : PCalls Try.prog F_ref01_CRC [.fz 1 (avBytes key) none] (.int .u32 (keyC key : Nat)) := by
  have := ref_calls (sbs key) (sbs_256 key) (by rw [sbs_len]; omega)
  rw [← avBytes_sbs] at this; exact this
theorem ringList1 (key : ByteArray) (c : Int) (hk : key.size ≤ 1000) : PCalls Try.prog F_ring_List [.str key, .int .i64 1, .int .i64 c] (.fz 1 [ri 0] none) := by
  have cc := keyC_calls key hk
  have w1 : IntKind.i64.wrap ((0 : Int) + 1) = 1 := by decide
  have hm : (if (1 : Int) > (if (1 : Int) < c then 1 else c) then (1 : Int) else (if (1 : Int) < c then 1 else c)) = 1 := by split <;> split <;> omega
  refine calls_ring_List (walk0 300 trivial (fun A eA => ?_))
  simp (disch := first | omega | (simp only [avs_len, List.length_cons, List.length_append, List.length_nil, List.length_take, List.length_drop, List.length_map]; omega) | (simp only [cells, scal1, allSz, List.length_cons, List.length_nil, List.length_append, List.length_map, List.all_cons, List.all_nil, avs_len, beq_self_eq_true, Bool.and_self, and_self, or_true, true_or, reduceCtorEq, *]; done) | fail) only [c_ring_List, wl_ring_List_0, s_ring_List_0, c_ring_List_l0, wb_ring_List_0, c_ring_List_k0, go_sem, Nat.reduceAdd, Nat.reduceSub, Nat.reduceMul, Nat.reduceLT, Nat.reduceLeDiff, Int.reduceToNat, Nat.reduceEqDiff, Nat.reduceBEq, ↓reduceIte, reduceCtorEq, eA, scal1]
  refine call0 300 trivial trivial cc (.inl rfl) (fun A eA => ?_)
  simp (disch := first | omega | (simp only [avs_len, List.length_cons, List.length_append, List.length_nil, List.length_take, List.length_drop, List.length_map]; omega) | (simp only [cells, scal1, allSz, List.length_cons, List.length_nil, List.length_append, List.length_map, List.all_cons, List.all_nil, avs_len, beq_self_eq_true, Bool.and_self, and_self, or_true, true_or, reduceCtorEq, *]; done) | fail) only [c_ring_List, wl_ring_List_0, s_ring_List_0, c_ring_List_l0, wb_ring_List_0, c_ring_List_k0, go_sem, Nat.reduceAdd, Nat.reduceSub, Nat.reduceMul, Nat.reduceLT, Nat.reduceLeDiff, Int.reduceToNat, Nat.reduceEqDiff, Nat.reduceBEq, ↓reduceIte, reduceCtorEq, eA, scal1, cells, List.all_cons, List.all_nil]
  repeat (refine roundO 300 trivial trivial (fun A eA => ?_); simp (disch := first | omega | (simp only [avs_len, List.length_cons, List.length_append, List.length_nil, List.length_take, List.length_drop, List.length_map]; omega) | (simp only [cells, scal1, allSz, List.length_cons, List.length_nil, List.length_append, List.length_map, List.all_cons, List.all_nil, avs_len, beq_self_eq_true, Bool.and_self, and_self, or_true, true_or, reduceCtorEq, *]; done) | fail) only [c_ring_List, wl_ring_List_0, s_ring_List_0, c_ring_List_l0, wb_ring_List_0, c_ring_List_k0, go_sem, Nat.reduceAdd, Nat.reduceSub, Nat.reduceMul, Nat.reduceLT, Nat.reduceLeDiff, Int.reduceToNat, Nat.reduceEqDiff, Nat.reduceBEq, ↓reduceIte, reduceCtorEq, eA, scal1, cells, List.all_cons, List.all_nil, ↓appK, allSz, catCells, w1])
  refine call2 300 trivial trivial [(0, 26)] rfl rfl (sortStable_h (keyC key) 1 0 26 _ (by omega) _ _ _ (isort1 (keyC key) 0 26 _ _)) (.inl rfl) (fun A eA => ?_)
  simp (disch := first | omega | (simp only [avs_len, List.length_cons, List.length_append, List.length_nil, List.length_take, List.length_drop, List.length_map]; omega) | (simp only [cells, scal1, allSz, List.length_cons, List.length_nil, List.length_append, List.length_map, List.all_cons, List.all_nil, avs_len, beq_self_eq_true, Bool.and_self, and_self, or_true, true_or, reduceCtorEq, *]; done) | fail) only [c_ring_List, wl_ring_List_0, s_ring_List_0, c_ring_List_l0, wb_ring_List_0, c_ring_List_k0, go_sem, Nat.reduceAdd, Nat.reduceSub, Nat.reduceMul, Nat.reduceLT, Nat.reduceLeDiff, Int.reduceToNat, Nat.reduceEqDiff, Nat.reduceBEq, ↓reduceIte, reduceCtorEq, eA, scal1, hm, chunk]
  exact doneG rfl
theorem ringList2 (key : ByteArray) (c : Int) (hk : key.size ≤ 1000) (m : Nat) (hm : (m = 1 ∧ c < 2) ∨ (m = 2 ∧ 2 ≤ c)) : PCalls Try.prog F_ring_List [.str key, .int .i64 2, .int .i64 c] (.fz 1 (((srt2 (keyC key)).take m).map ri) none) := by
  have cc := keyC_calls key hk
  have w1 : IntKind.i64.wrap ((0 : Int) + 1) = 1 := by decide
  have w2 : IntKind.i64.wrap ((1 : Int) + 1) = 2 := by decide
  have hs := fun g nx => isort2 (keyC key) (keyC_lt key) 0 26 g nx
  simp only [srt2_av] at hs
  obtain ⟨x, y, e, hx, hy⟩ := srt2_is (keyC key)
  rw [e] at hs ⊢
  refine calls_ring_List (walk0 300 trivial (fun A eA => ?_))
  simp (disch := first | omega | (simp only [avs_len, List.length_cons, List.length_append, List.length_nil, List.length_take, List.length_drop, List.length_map]; omega) | (simp only [cells, scal1, allSz, List.length_cons, List.length_nil, List.length_append, List.length_map, List.all_cons, List.all_nil, avs_len, beq_self_eq_true, Bool.and_self, and_self, or_true, true_or, reduceCtorEq, *]; done) | fail) only [c_ring_List, wl_ring_List_0, s_ring_List_0, c_ring_List_l0, wb_ring_List_0, c_ring_List_k0, go_sem, Nat.reduceAdd, Nat.reduceSub, Nat.reduceMul, Nat.reduceLT, Nat.reduceLeDiff, Int.reduceToNat, Nat.reduceEqDiff, Nat.reduceBEq, ↓reduceIte, reduceCtorEq, eA, scal1]
  refine call0 300 trivial trivial cc (.inl rfl) (fun A eA => ?_)
  simp (disch := first | omega | (simp only [avs_len, List.length_cons, List.length_append, List.length_nil, List.length_take, List.length_drop, List.length_map]; omega) | (simp only [cells, scal1, allSz, List.length_cons, List.length_nil, List.length_append, List.length_map, List.all_cons, List.all_nil, avs_len, beq_self_eq_true, Bool.and_self, and_self, or_true, true_or, reduceCtorEq, *]; done) | fail) only [c_ring_List, wl_ring_List_0, s_ring_List_0, c_ring_List_l0, wb_ring_List_0, c_ring_List_k0, go_sem, Nat.reduceAdd, Nat.reduceSub, Nat.reduceMul, Nat.reduceLT, Nat.reduceLeDiff, Int.reduceToNat, Nat.reduceEqDiff, Nat.reduceBEq, ↓reduceIte, reduceCtorEq, eA, scal1, cells, List.all_cons, List.all_nil]
  repeat (refine roundO 300 trivial trivial (fun A eA => ?_); simp (disch := first | omega | (simp only [avs_len, List.length_cons, List.length_append, List.length_nil, List.length_take, List.length_drop, List.length_map]; omega) | (simp only [cells, scal1, allSz, List.length_cons, List.length_nil, List.length_append, List.length_map, List.all_cons, List.all_nil, avs_len, beq_self_eq_true, Bool.and_self, and_self, or_true, true_or, reduceCtorEq, *]; done) | fail) only [c_ring_List, wl_ring_List_0, s_ring_List_0, c_ring_List_l0, wb_ring_List_0, c_ring_List_k0, go_sem, Nat.reduceAdd, Nat.reduceSub, Nat.reduceMul, Nat.reduceLT, Nat.reduceLeDiff, Int.reduceToNat, Nat.reduceEqDiff, Nat.reduceBEq, ↓reduceIte, reduceCtorEq, eA, scal1, cells, List.all_cons, List.all_nil, ↓appK, allSz, catCells, w1, w2])
  refine call2 300 trivial trivial [(0, 26)] rfl rfl (sortStable_h (keyC key) 2 0 26 _ (by omega) _ _ _ (hs _ _)) (.inl rfl) (fun A eA => ?_)
  rcases hm with ⟨rfl, hc⟩ | ⟨rfl, hc⟩
  · have hq : c < 1 ∨ c = 1 := by omega
    rcases hq with hq | hq
    · simp (disch := first | omega | (simp only [avs_len, List.length_cons, List.length_append, List.length_nil, List.length_take, List.length_drop, List.length_map]; omega) | (simp only [cells, scal1, allSz, List.length_cons, List.length_nil, List.length_append, List.length_map, List.all_cons, List.all_nil, avs_len, beq_self_eq_true, Bool.and_self, and_self, or_true, true_or, reduceCtorEq, *]; done) | fail) only [c_ring_List, wl_ring_List_0, s_ring_List_0, c_ring_List_l0, wb_ring_List_0, c_ring_List_k0, go_sem, Nat.reduceAdd, Nat.reduceSub, Nat.reduceMul, Nat.reduceLT, Nat.reduceLeDiff, Int.reduceToNat, Nat.reduceEqDiff, Nat.reduceBEq, ↓reduceIte, reduceCtorEq, eA, scal1, chunk, List.map_cons, List.map_nil]
      exact doneG rfl
    · subst hq
      simp (disch := first | omega | (simp only [avs_len, List.length_cons, List.length_append, List.length_nil, List.length_take, List.length_drop, List.length_map]; omega) | (simp only [cells, scal1, allSz, List.length_cons, List.length_nil, List.length_append, List.length_map, List.all_cons, List.all_nil, avs_len, beq_self_eq_true, Bool.and_self, and_self, or_true, true_or, reduceCtorEq, *]; done) | fail) only [c_ring_List, wl_ring_List_0, s_ring_List_0, c_ring_List_l0, wb_ring_List_0, c_ring_List_k0, go_sem, Nat.reduceAdd, Nat.reduceSub, Nat.reduceMul, Nat.reduceLT, Nat.reduceLeDiff, Int.reduceToNat, Nat.reduceEqDiff, Nat.reduceBEq, ↓reduceIte, reduceCtorEq, eA, scal1, chunk, List.map_cons, List.map_nil]
      exact doneG rfl
  · have hq : 2 < c ∨ c = 2 := by omega
    rcases hq with hq | hq
    · simp (disch := first | omega | (simp only [avs_len, List.length_cons, List.length_append, List.length_nil, List.length_take, List.length_drop, List.length_map]; omega) | (simp only [cells, scal1, allSz, List.length_cons, List.length_nil, List.length_append, List.length_map, List.all_cons, List.all_nil, avs_len, beq_self_eq_true, Bool.and_self, and_self, or_true, true_or, reduceCtorEq, *]; done) | fail) only [c_ring_List, wl_ring_List_0, s_ring_List_0, c_ring_List_l0, wb_ring_List_0, c_ring_List_k0, go_sem, Nat.reduceAdd, Nat.reduceSub, Nat.reduceMul, Nat.reduceLT, Nat.reduceLeDiff, Int.reduceToNat, Nat.reduceEqDiff, Nat.reduceBEq, ↓reduceIte, reduceCtorEq, eA, scal1, chunk, List.map_cons, List.map_nil]
      exact doneG rfl
    · subst hq
      simp (disch := first | omega | (simp only [avs_len, List.length_cons, List.length_append, List.length_nil, List.length_take, List.length_drop, List.length_map]; omega) | (simp only [cells, scal1, allSz, List.length_cons, List.length_nil, List.length_append, List.length_map, List.all_cons, List.all_nil, avs_len, beq_self_eq_true, Bool.and_self, and_self, or_true, true_or, reduceCtorEq, *]; done) | fail) only [c_ring_List, wl_ring_List_0, s_ring_List_0, c_ring_List_l0, wb_ring_List_0, c_ring_List_k0, go_sem, Nat.reduceAdd, Nat.reduceSub, Nat.reduceMul, Nat.reduceLT, Nat.reduceLeDiff, Int.reduceToNat, Nat.reduceEqDiff, Nat.reduceBEq, ↓reduceIte, reduceCtorEq, eA, scal1, chunk, List.map_cons, List.map_nil]
      exact doneG rfl
theorem ringList3 (key : ByteArray) (c : Int) (hk : key.size ≤ 1000) (m : Nat) (hm : (m = 1 ∧ c < 2) ∨ (m = 2 ∧ c = 2) ∨ (m = 3 ∧ 3 ≤ c)) : PCalls Try.prog F_ring_List [.str key, .int .i64 3, .int .i64 c] (.fz 1 (((srt3 (keyC key)).take m).map ri) none) := by
  have cc := keyC_calls key hk
  have w1 : IntKind.i64.wrap ((0 : Int) + 1) = 1 := by decide
  have w2 : IntKind.i64.wrap ((1 : Int) + 1) = 2 := by decide
  have w3 : IntKind.i64.wrap ((2 : Int) + 1) = 3 := by decide
  have hs := fun g nx => isort3 (keyC key) (keyC_lt key) 0 26 g nx
  simp only [srt3_av] at hs
  obtain ⟨x, y, z, e, hx, hy, hz⟩ := srt3_is (keyC key)
  rw [e] at hs ⊢
  refine calls_ring_List (walk0 300 trivial (fun A eA => ?_))
  simp (disch := first | omega | (simp only [avs_len, List.length_cons, List.length_append, List.length_nil, List.length_take, List.length_drop, List.length_map]; omega) | (simp only [cells, scal1, allSz, List.length_cons, List.length_nil, List.length_append, List.length_map, List.all_cons, List.all_nil, avs_len, beq_self_eq_true, Bool.and_self, and_self, or_true, true_or, reduceCtorEq, *]; done) | fail) only [c_ring_List, wl_ring_List_0, s_ring_List_0, c_ring_List_l0, wb_ring_List_0, c_ring_List_k0, go_sem, Nat.reduceAdd, Nat.reduceSub, Nat.reduceMul, Nat.reduceLT, Nat.reduceLeDiff, Int.reduceToNat, Nat.reduceEqDiff, Nat.reduceBEq, ↓reduceIte, reduceCtorEq, eA, scal1]
  refine call0 300 trivial trivial cc (.inl rfl) (fun A eA => ?_)
  simp (disch := first | omega | (simp only [avs_len, List.length_cons, List.length_append, List.length_nil, List.length_take, List.length_drop, List.length_map]; omega) | (simp only [cells, scal1, allSz, List.length_cons, List.length_nil, List.length_append, List.length_map, List.all_cons, List.all_nil, avs_len, beq_self_eq_true, Bool.and_self, and_self, or_true, true_or, reduceCtorEq, *]; done) | fail) only [c_ring_List, wl_ring_List_0, s_ring_List_0, c_ring_List_l0, wb_ring_List_0, c_ring_List_k0, go_sem, Nat.reduceAdd, Nat.reduceSub, Nat.reduceMul, Nat.reduceLT, Nat.reduceLeDiff, Int.reduceToNat, Nat.reduceEqDiff, Nat.reduceBEq, ↓reduceIte, reduceCtorEq, eA, scal1, cells, List.all_cons, List.all_nil]
  repeat (refine roundO 300 trivial trivial (fun A eA => ?_); simp (disch := first | omega | (simp only [avs_len, List.length_cons, List.length_append, List.length_nil, List.length_take, List.length_drop, List.length_map]; omega) | (simp only [cells, scal1, allSz, List.length_cons, List.length_nil, List.length_append, List.length_map, List.all_cons, List.all_nil, avs_len, beq_self_eq_true, Bool.and_self, and_self, or_true, true_or, reduceCtorEq, *]; done) | fail) only [c_ring_List, wl_ring_List_0, s_ring_List_0, c_ring_List_l0, wb_ring_List_0, c_ring_List_k0, go_sem, Nat.reduceAdd, Nat.reduceSub, Nat.reduceMul, Nat.reduceLT, Nat.reduceLeDiff, Int.reduceToNat, Nat.reduceEqDiff, Nat.reduceBEq, ↓reduceIte, reduceCtorEq, eA, scal1, cells, List.all_cons, List.all_nil, ↓appK, allSz, catCells, w1, w2, w3])
  refine call2 300 trivial trivial [(0, 26)] rfl rfl (sortStable_h (keyC key) 3 0 26 _ (by omega) _ _ _ (hs _ _)) (.inl rfl) (fun A eA => ?_)
  rcases hm with ⟨rfl, hc⟩ | ⟨rfl, hc⟩ | ⟨rfl, hc⟩
  · have hq : c < 1 ∨ c = 1 := by omega
    rcases hq with hq | hq
    · simp (disch := first | omega | (simp only [avs_len, List.length_cons, List.length_append, List.length_nil, List.length_take, List.length_drop, List.length_map]; omega) | (simp only [cells, scal1, allSz, List.length_cons, List.length_nil, List.length_append, List.length_map, List.all_cons, List.all_nil, avs_len, beq_self_eq_true, Bool.and_self, and_self, or_true, true_or, reduceCtorEq, *]; done) | fail) only [c_ring_List, wl_ring_List_0, s_ring_List_0, c_ring_List_l0, wb_ring_List_0, c_ring_List_k0, go_sem, Nat.reduceAdd, Nat.reduceSub, Nat.reduceMul, Nat.reduceLT, Nat.reduceLeDiff, Int.reduceToNat, Nat.reduceEqDiff, Nat.reduceBEq, ↓reduceIte, reduceCtorEq, eA, scal1, chunk, List.map_cons, List.map_nil]
      exact doneG rfl
    · subst hq
      simp (disch := first | omega | (simp only [avs_len, List.length_cons, List.length_append, List.length_nil, List.length_take, List.length_drop, List.length_map]; omega) | (simp only [cells, scal1, allSz, List.length_cons, List.length_nil, List.length_append, List.length_map, List.all_cons, List.all_nil, avs_len, beq_self_eq_true, Bool.and_self, and_self, or_true, true_or, reduceCtorEq, *]; done) | fail) only [c_ring_List, wl_ring_List_0, s_ring_List_0, c_ring_List_l0, wb_ring_List_0, c_ring_List_k0, go_sem, Nat.reduceAdd, Nat.reduceSub, Nat.reduceMul, Nat.reduceLT, Nat.reduceLeDiff, Int.reduceToNat, Nat.reduceEqDiff, Nat.reduceBEq, ↓reduceIte, reduceCtorEq, eA, scal1, chunk, List.map_cons, List.map_nil]
      exact doneG rfl
  · subst hc
    simp (disch := first | omega | (simp only [avs_len, List.length_cons, List.length_append, List.length_nil, List.length_take, List.length_drop, List.length_map]; omega) | (simp only [cells, scal1, allSz, List.length_cons, List.length_nil, List.length_append, List.length_map, List.all_cons, List.all_nil, avs_len, beq_self_eq_true, Bool.and_self, and_self, or_true, true_or, reduceCtorEq, *]; done) | fail) only [c_ring_List, wl_ring_List_0, s_ring_List_0, c_ring_List_l0, wb_ring_List_0, c_ring_List_k0, go_sem, Nat.reduceAdd, Nat.reduceSub, Nat.reduceMul, Nat.reduceLT, Nat.reduceLeDiff, Int.reduceToNat, Nat.reduceEqDiff, Nat.reduceBEq, ↓reduceIte, reduceCtorEq, eA, scal1, chunk, List.map_cons, List.map_nil]
    exact doneG rfl
  · have hq : 3 < c ∨ c = 3 := by omega
    rcases hq with hq | hq
    · simp (disch := first | omega | (simp only [avs_len, List.length_cons, List.length_append, List.length_nil, List.length_take, List.length_drop, List.length_map]; omega) | (simp only [cells, scal1, allSz, List.length_cons, List.length_nil, List.length_append, List.length_map, List.all_cons, List.all_nil, avs_len, beq_self_eq_true, Bool.and_self, and_self, or_true, true_or, reduceCtorEq, *]; done) | fail) only [c_ring_List, wl_ring_List_0, s_ring_List_0, c_ring_List_l0, wb_ring_List_0, c_ring_List_k0, go_sem, Nat.reduceAdd, Nat.reduceSub, Nat.reduceMul, Nat.reduceLT, Nat.reduceLeDiff, Int.reduceToNat, Nat.reduceEqDiff, Nat.reduceBEq, ↓reduceIte, reduceCtorEq, eA, scal1, chunk, List.map_cons, List.map_nil]
      exact doneG rfl
    · subst hq
      simp (disch := first | omega | (simp only [avs_len, List.length_cons, List.length_append, List.length_nil, List.length_take, List.length_drop, List.length_map]; omega) | (simp only [cells, scal1, allSz, List.length_cons, List.length_nil, List.length_append, List.length_map, List.all_cons, List.all_nil, avs_len, beq_self_eq_true, Bool.and_self, and_self, or_true, true_or, reduceCtorEq, *]; done) | fail) only [c_ring_List, wl_ring_List_0, s_ring_List_0, c_ring_List_l0, wb_ring_List_0, c_ring_List_k0, go_sem, Nat.reduceAdd, Nat.reduceSub, Nat.reduceMul, Nat.reduceLT, Nat.reduceLeDiff, Int.reduceToNat, Nat.reduceEqDiff, Nat.reduceBEq, ↓reduceIte, reduceCtorEq, eA, scal1, chunk, List.map_cons, List.map_nil]
      exact doneG rfl
end Go.Proofs.Ytmokhopjnjecbab
/- Who keeps a key: the document's row, for one server and two. -/
-- short
-- fuel 300
namespace Go.Proofs.Ytmokhopjnjecbab
open Go.Ev
set_option linter.unusedVariables false
set_option linter.unusedSimpArgs false
set_option maxRecDepth 100000
set_option maxHeartbeats 6400000
theorem refList1 (key : ByteArray) (c : Int) (hk : key.size ≤ 1000) : PCalls Try.prog F_ref12_List [.str key, .int .i64 1, .int .i64 c] (.fz 1 [ri 0] none) := by
  have cc := keyR_calls key hk
  have hc := keyC_lt key
  have m0 := refmix_calls (keyC key) 0 hc (by omega)
  have m1 := refmix_calls (keyC key) 1 hc (by omega)
  have m2 := refmix_calls (keyC key) 2 hc (by omega)
  have w1 : IntKind.i64.wrap ((0 : Int) + 1) = 1 := by decide
  have w2 : IntKind.i64.wrap ((1 : Int) + 1) = 2 := by decide
  have w3 : IntKind.i64.wrap ((2 : Int) + 1) = 3 := by decide
  have u0 : IntKind.u32.wrap (0 : Int) = 0 := by decide
  have u1 : IntKind.u32.wrap (1 : Int) = 1 := by decide
  have u2 : IntKind.u32.wrap (2 : Int) = 2 := by decide
  refine calls_ref12_List (walk0 300 trivial (fun A eA => ?_))
  simp (disch := first | omega | (simp only [avs_len, List.length_cons, List.length_append, List.length_nil, List.length_take, List.length_drop, List.length_map]; omega) | (simp only [cells, scal1, allSz, List.length_cons, List.length_nil, List.length_append, List.length_map, List.all_cons, List.all_nil, avs_len, beq_self_eq_true, Bool.and_self, and_self, or_true, true_or, reduceCtorEq, *]; done) | fail) only [c_ref12_List, wl_ref12_List_4, s_ref12_List_4, c_ref12_List_l4, wb_ref12_List_4, c_ref12_List_k0, wb_ref12_List_3, c_ref12_List_k1, wl_ref12_List_2, s_ref12_List_2, c_ref12_List_l2, wb_ref12_List_2, c_ref12_List_k2, wb_ref12_List_1, wl_ref12_List_0, s_ref12_List_0, c_ref12_List_l0, wb_ref12_List_0, c_ref12_List_k3, go_sem, Nat.reduceAdd, Nat.reduceSub, Nat.reduceMul, Nat.reduceLT, Nat.reduceLeDiff, Int.reduceToNat, Nat.reduceEqDiff, Nat.reduceBEq, ↓reduceIte, reduceCtorEq, eA, scal1, cells, List.all_cons, List.all_nil, ↓appK, allSz, catCells, u0, u1, u2, w1, w2, w3, chunk, List.map_cons, List.map_nil]
  refine call0 300 trivial trivial cc (.inl rfl) (fun A eA => ?_)
  simp (disch := first | omega | (simp only [avs_len, List.length_cons, List.length_append, List.length_nil, List.length_take, List.length_drop, List.length_map]; omega) | (simp only [cells, scal1, allSz, List.length_cons, List.length_nil, List.length_append, List.length_map, List.all_cons, List.all_nil, avs_len, beq_self_eq_true, Bool.and_self, and_self, or_true, true_or, reduceCtorEq, *]; done) | fail) only [c_ref12_List, wl_ref12_List_4, s_ref12_List_4, c_ref12_List_l4, wb_ref12_List_4, c_ref12_List_k0, wb_ref12_List_3, c_ref12_List_k1, wl_ref12_List_2, s_ref12_List_2, c_ref12_List_l2, wb_ref12_List_2, c_ref12_List_k2, wb_ref12_List_1, wl_ref12_List_0, s_ref12_List_0, c_ref12_List_l0, wb_ref12_List_0, c_ref12_List_k3, go_sem, Nat.reduceAdd, Nat.reduceSub, Nat.reduceMul, Nat.reduceLT, Nat.reduceLeDiff, Int.reduceToNat, Nat.reduceEqDiff, Nat.reduceBEq, ↓reduceIte, reduceCtorEq, eA, scal1, cells, List.all_cons, List.all_nil, ↓appK, allSz, catCells, u0, u1, u2, w1, w2, w3, chunk, List.map_cons, List.map_nil]
  repeat ((first | refine roundO 300 trivial trivial (fun A eA => ?_) | refine call0 300 trivial trivial (by first | exact m0 | exact m1 | exact m2) (.inl rfl) (fun A eA => ?_)); simp (disch := first | omega | (simp only [avs_len, List.length_cons, List.length_append, List.length_nil, List.length_take, List.length_drop, List.length_map]; omega) | (simp only [cells, scal1, allSz, List.length_cons, List.length_nil, List.length_append, List.length_map, List.all_cons, List.all_nil, avs_len, beq_self_eq_true, Bool.and_self, and_self, or_true, true_or, reduceCtorEq, *]; done) | fail) only [c_ref12_List, wl_ref12_List_4, s_ref12_List_4, c_ref12_List_l4, wb_ref12_List_4, c_ref12_List_k0, wb_ref12_List_3, c_ref12_List_k1, wl_ref12_List_2, s_ref12_List_2, c_ref12_List_l2, wb_ref12_List_2, c_ref12_List_k2, wb_ref12_List_1, wl_ref12_List_0, s_ref12_List_0, c_ref12_List_l0, wb_ref12_List_0, c_ref12_List_k3, go_sem, Nat.reduceAdd, Nat.reduceSub, Nat.reduceMul, Nat.reduceLT, Nat.reduceLeDiff, Int.reduceToNat, Nat.reduceEqDiff, Nat.reduceBEq, ↓reduceIte, reduceCtorEq, eA, scal1, cells, List.all_cons, List.all_nil, ↓appK, allSz, catCells, u0, u1, u2, w1, w2, w3, chunk, List.map_cons, List.map_nil])
  exact doneG rfl
theorem refList2 (key : ByteArray) (c : Int) (hk : key.size ≤ 1000) (m : Nat) (hm : (m = 1 ∧ c < 2) ∨ (m = 2 ∧ 2 ≤ c)) : PCalls Try.prog F_ref12_List [.str key, .int .i64 2, .int .i64 c] (.fz 1 (((srt2 (keyC key)).take m).map ri) none) := by
  have cc := keyR_calls key hk
  have hc := keyC_lt key
  have m0 := refmix_calls (keyC key) 0 hc (by omega)
  have m1 := refmix_calls (keyC key) 1 hc (by omega)
  have m2 := refmix_calls (keyC key) 2 hc (by omega)
  have w1 : IntKind.i64.wrap ((0 : Int) + 1) = 1 := by decide
  have w2 : IntKind.i64.wrap ((1 : Int) + 1) = 2 := by decide
  have w3 : IntKind.i64.wrap ((2 : Int) + 1) = 3 := by decide
  have u0 : IntKind.u32.wrap (0 : Int) = 0 := by decide
  have u1 : IntKind.u32.wrap (1 : Int) = 1 := by decide
  have u2 : IntKind.u32.wrap (2 : Int) = 2 := by decide
  generalize keyC key = k at *
  by_cases d1 : mixOf k 1 < mixOf k 0
  · have e : srt2 k = [1, 0] := by unfold srt2; rw [if_pos d1]
    rw [e]
    rcases hm with ⟨rfl, hq⟩ | ⟨rfl, hq⟩
    · refine calls_ref12_List (walk0 300 trivial (fun A eA => ?_))
      simp (disch := first | omega | (simp only [avs_len, List.length_cons, List.length_append, List.length_nil, List.length_take, List.length_drop, List.length_map]; omega) | (simp only [cells, scal1, allSz, List.length_cons, List.length_nil, List.length_append, List.length_map, List.all_cons, List.all_nil, avs_len, beq_self_eq_true, Bool.and_self, and_self, or_true, true_or, reduceCtorEq, *]; done) | fail) only [c_ref12_List, wl_ref12_List_4, s_ref12_List_4, c_ref12_List_l4, wb_ref12_List_4, c_ref12_List_k0, wb_ref12_List_3, c_ref12_List_k1, wl_ref12_List_2, s_ref12_List_2, c_ref12_List_l2, wb_ref12_List_2, c_ref12_List_k2, wb_ref12_List_1, wl_ref12_List_0, s_ref12_List_0, c_ref12_List_l0, wb_ref12_List_0, c_ref12_List_k3, go_sem, Nat.reduceAdd, Nat.reduceSub, Nat.reduceMul, Nat.reduceLT, Nat.reduceLeDiff, Int.reduceToNat, Nat.reduceEqDiff, Nat.reduceBEq, ↓reduceIte, reduceCtorEq, eA, scal1, cells, List.all_cons, List.all_nil, ↓appK, allSz, catCells, u0, u1, u2, w1, w2, w3, chunk, List.map_cons, List.map_nil]
      refine call0 300 trivial trivial cc (.inl rfl) (fun A eA => ?_)
      simp (disch := first | omega | (simp only [avs_len, List.length_cons, List.length_append, List.length_nil, List.length_take, List.length_drop, List.length_map]; omega) | (simp only [cells, scal1, allSz, List.length_cons, List.length_nil, List.length_append, List.length_map, List.all_cons, List.all_nil, avs_len, beq_self_eq_true, Bool.and_self, and_self, or_true, true_or, reduceCtorEq, *]; done) | fail) only [c_ref12_List, wl_ref12_List_4, s_ref12_List_4, c_ref12_List_l4, wb_ref12_List_4, c_ref12_List_k0, wb_ref12_List_3, c_ref12_List_k1, wl_ref12_List_2, s_ref12_List_2, c_ref12_List_l2, wb_ref12_List_2, c_ref12_List_k2, wb_ref12_List_1, wl_ref12_List_0, s_ref12_List_0, c_ref12_List_l0, wb_ref12_List_0, c_ref12_List_k3, go_sem, Nat.reduceAdd, Nat.reduceSub, Nat.reduceMul, Nat.reduceLT, Nat.reduceLeDiff, Int.reduceToNat, Nat.reduceEqDiff, Nat.reduceBEq, ↓reduceIte, reduceCtorEq, eA, scal1, cells, List.all_cons, List.all_nil, ↓appK, allSz, catCells, u0, u1, u2, w1, w2, w3, chunk, List.map_cons, List.map_nil]
      repeat ((first | refine roundO 300 trivial trivial (fun A eA => ?_) | refine call0 300 trivial trivial (by first | exact m0 | exact m1 | exact m2) (.inl rfl) (fun A eA => ?_)); simp (disch := first | omega | (simp only [avs_len, List.length_cons, List.length_append, List.length_nil, List.length_take, List.length_drop, List.length_map]; omega) | (simp only [cells, scal1, allSz, List.length_cons, List.length_nil, List.length_append, List.length_map, List.all_cons, List.all_nil, avs_len, beq_self_eq_true, Bool.and_self, and_self, or_true, true_or, reduceCtorEq, *]; done) | fail) only [c_ref12_List, wl_ref12_List_4, s_ref12_List_4, c_ref12_List_l4, wb_ref12_List_4, c_ref12_List_k0, wb_ref12_List_3, c_ref12_List_k1, wl_ref12_List_2, s_ref12_List_2, c_ref12_List_l2, wb_ref12_List_2, c_ref12_List_k2, wb_ref12_List_1, wl_ref12_List_0, s_ref12_List_0, c_ref12_List_l0, wb_ref12_List_0, c_ref12_List_k3, go_sem, Nat.reduceAdd, Nat.reduceSub, Nat.reduceMul, Nat.reduceLT, Nat.reduceLeDiff, Int.reduceToNat, Nat.reduceEqDiff, Nat.reduceBEq, ↓reduceIte, reduceCtorEq, eA, scal1, cells, List.all_cons, List.all_nil, ↓appK, allSz, catCells, u0, u1, u2, w1, w2, w3, chunk, List.map_cons, List.map_nil])
      exact doneG rfl
    · have he : (if (2 : Int) < c then 2 else c) = 2 := by split <;> omega
      refine calls_ref12_List (walk0 300 trivial (fun A eA => ?_))
      simp (disch := first | omega | (simp only [avs_len, List.length_cons, List.length_append, List.length_nil, List.length_take, List.length_drop, List.length_map]; omega) | (simp only [cells, scal1, allSz, List.length_cons, List.length_nil, List.length_append, List.length_map, List.all_cons, List.all_nil, avs_len, beq_self_eq_true, Bool.and_self, and_self, or_true, true_or, reduceCtorEq, *]; done) | fail) only [c_ref12_List, wl_ref12_List_4, s_ref12_List_4, c_ref12_List_l4, wb_ref12_List_4, c_ref12_List_k0, wb_ref12_List_3, c_ref12_List_k1, wl_ref12_List_2, s_ref12_List_2, c_ref12_List_l2, wb_ref12_List_2, c_ref12_List_k2, wb_ref12_List_1, wl_ref12_List_0, s_ref12_List_0, c_ref12_List_l0, wb_ref12_List_0, c_ref12_List_k3, go_sem, Nat.reduceAdd, Nat.reduceSub, Nat.reduceMul, Nat.reduceLT, Nat.reduceLeDiff, Int.reduceToNat, Nat.reduceEqDiff, Nat.reduceBEq, ↓reduceIte, reduceCtorEq, eA, scal1, he, cells, List.all_cons, List.all_nil, ↓appK, allSz, catCells, u0, u1, u2, w1, w2, w3, chunk, List.map_cons, List.map_nil]
      refine call0 300 trivial trivial cc (.inl rfl) (fun A eA => ?_)
      simp (disch := first | omega | (simp only [avs_len, List.length_cons, List.length_append, List.length_nil, List.length_take, List.length_drop, List.length_map]; omega) | (simp only [cells, scal1, allSz, List.length_cons, List.length_nil, List.length_append, List.length_map, List.all_cons, List.all_nil, avs_len, beq_self_eq_true, Bool.and_self, and_self, or_true, true_or, reduceCtorEq, *]; done) | fail) only [c_ref12_List, wl_ref12_List_4, s_ref12_List_4, c_ref12_List_l4, wb_ref12_List_4, c_ref12_List_k0, wb_ref12_List_3, c_ref12_List_k1, wl_ref12_List_2, s_ref12_List_2, c_ref12_List_l2, wb_ref12_List_2, c_ref12_List_k2, wb_ref12_List_1, wl_ref12_List_0, s_ref12_List_0, c_ref12_List_l0, wb_ref12_List_0, c_ref12_List_k3, go_sem, Nat.reduceAdd, Nat.reduceSub, Nat.reduceMul, Nat.reduceLT, Nat.reduceLeDiff, Int.reduceToNat, Nat.reduceEqDiff, Nat.reduceBEq, ↓reduceIte, reduceCtorEq, eA, scal1, he, cells, List.all_cons, List.all_nil, ↓appK, allSz, catCells, u0, u1, u2, w1, w2, w3, chunk, List.map_cons, List.map_nil]
      repeat ((first | refine roundO 300 trivial trivial (fun A eA => ?_) | refine call0 300 trivial trivial (by first | exact m0 | exact m1 | exact m2) (.inl rfl) (fun A eA => ?_)); simp (disch := first | omega | (simp only [avs_len, List.length_cons, List.length_append, List.length_nil, List.length_take, List.length_drop, List.length_map]; omega) | (simp only [cells, scal1, allSz, List.length_cons, List.length_nil, List.length_append, List.length_map, List.all_cons, List.all_nil, avs_len, beq_self_eq_true, Bool.and_self, and_self, or_true, true_or, reduceCtorEq, *]; done) | fail) only [c_ref12_List, wl_ref12_List_4, s_ref12_List_4, c_ref12_List_l4, wb_ref12_List_4, c_ref12_List_k0, wb_ref12_List_3, c_ref12_List_k1, wl_ref12_List_2, s_ref12_List_2, c_ref12_List_l2, wb_ref12_List_2, c_ref12_List_k2, wb_ref12_List_1, wl_ref12_List_0, s_ref12_List_0, c_ref12_List_l0, wb_ref12_List_0, c_ref12_List_k3, go_sem, Nat.reduceAdd, Nat.reduceSub, Nat.reduceMul, Nat.reduceLT, Nat.reduceLeDiff, Int.reduceToNat, Nat.reduceEqDiff, Nat.reduceBEq, ↓reduceIte, reduceCtorEq, eA, scal1, he, cells, List.all_cons, List.all_nil, ↓appK, allSz, catCells, u0, u1, u2, w1, w2, w3, chunk, List.map_cons, List.map_nil])
      exact doneG rfl
  · have e : srt2 k = [0, 1] := by unfold srt2; rw [if_neg d1]
    rw [e]
    rcases hm with ⟨rfl, hq⟩ | ⟨rfl, hq⟩
    · refine calls_ref12_List (walk0 300 trivial (fun A eA => ?_))
      simp (disch := first | omega | (simp only [avs_len, List.length_cons, List.length_append, List.length_nil, List.length_take, List.length_drop, List.length_map]; omega) | (simp only [cells, scal1, allSz, List.length_cons, List.length_nil, List.length_append, List.length_map, List.all_cons, List.all_nil, avs_len, beq_self_eq_true, Bool.and_self, and_self, or_true, true_or, reduceCtorEq, *]; done) | fail) only [c_ref12_List, wl_ref12_List_4, s_ref12_List_4, c_ref12_List_l4, wb_ref12_List_4, c_ref12_List_k0, wb_ref12_List_3, c_ref12_List_k1, wl_ref12_List_2, s_ref12_List_2, c_ref12_List_l2, wb_ref12_List_2, c_ref12_List_k2, wb_ref12_List_1, wl_ref12_List_0, s_ref12_List_0, c_ref12_List_l0, wb_ref12_List_0, c_ref12_List_k3, go_sem, Nat.reduceAdd, Nat.reduceSub, Nat.reduceMul, Nat.reduceLT, Nat.reduceLeDiff, Int.reduceToNat, Nat.reduceEqDiff, Nat.reduceBEq, ↓reduceIte, reduceCtorEq, eA, scal1, cells, List.all_cons, List.all_nil, ↓appK, allSz, catCells, u0, u1, u2, w1, w2, w3, chunk, List.map_cons, List.map_nil]
      refine call0 300 trivial trivial cc (.inl rfl) (fun A eA => ?_)
      simp (disch := first | omega | (simp only [avs_len, List.length_cons, List.length_append, List.length_nil, List.length_take, List.length_drop, List.length_map]; omega) | (simp only [cells, scal1, allSz, List.length_cons, List.length_nil, List.length_append, List.length_map, List.all_cons, List.all_nil, avs_len, beq_self_eq_true, Bool.and_self, and_self, or_true, true_or, reduceCtorEq, *]; done) | fail) only [c_ref12_List, wl_ref12_List_4, s_ref12_List_4, c_ref12_List_l4, wb_ref12_List_4, c_ref12_List_k0, wb_ref12_List_3, c_ref12_List_k1, wl_ref12_List_2, s_ref12_List_2, c_ref12_List_l2, wb_ref12_List_2, c_ref12_List_k2, wb_ref12_List_1, wl_ref12_List_0, s_ref12_List_0, c_ref12_List_l0, wb_ref12_List_0, c_ref12_List_k3, go_sem, Nat.reduceAdd, Nat.reduceSub, Nat.reduceMul, Nat.reduceLT, Nat.reduceLeDiff, Int.reduceToNat, Nat.reduceEqDiff, Nat.reduceBEq, ↓reduceIte, reduceCtorEq, eA, scal1, cells, List.all_cons, List.all_nil, ↓appK, allSz, catCells, u0, u1, u2, w1, w2, w3, chunk, List.map_cons, List.map_nil]
      repeat ((first | refine roundO 300 trivial trivial (fun A eA => ?_) | refine call0 300 trivial trivial (by first | exact m0 | exact m1 | exact m2) (.inl rfl) (fun A eA => ?_)); simp (disch := first | omega | (simp only [avs_len, List.length_cons, List.length_append, List.length_nil, List.length_take, List.length_drop, List.length_map]; omega) | (simp only [cells, scal1, allSz, List.length_cons, List.length_nil, List.length_append, List.length_map, List.all_cons, List.all_nil, avs_len, beq_self_eq_true, Bool.and_self, and_self, or_true, true_or, reduceCtorEq, *]; done) | fail) only [c_ref12_List, wl_ref12_List_4, s_ref12_List_4, c_ref12_List_l4, wb_ref12_List_4, c_ref12_List_k0, wb_ref12_List_3, c_ref12_List_k1, wl_ref12_List_2, s_ref12_List_2, c_ref12_List_l2, wb_ref12_List_2, c_ref12_List_k2, wb_ref12_List_1, wl_ref12_List_0, s_ref12_List_0, c_ref12_List_l0, wb_ref12_List_0, c_ref12_List_k3, go_sem, Nat.reduceAdd, Nat.reduceSub, Nat.reduceMul, Nat.reduceLT, Nat.reduceLeDiff, Int.reduceToNat, Nat.reduceEqDiff, Nat.reduceBEq, ↓reduceIte, reduceCtorEq, eA, scal1, cells, List.all_cons, List.all_nil, ↓appK, allSz, catCells, u0, u1, u2, w1, w2, w3, chunk, List.map_cons, List.map_nil])
      exact doneG rfl
    · have he : (if (2 : Int) < c then 2 else c) = 2 := by split <;> omega
      refine calls_ref12_List (walk0 300 trivial (fun A eA => ?_))
      simp (disch := first | omega | (simp only [avs_len, List.length_cons, List.length_append, List.length_nil, List.length_take, List.length_drop, List.length_map]; omega) | (simp only [cells, scal1, allSz, List.length_cons, List.length_nil, List.length_append, List.length_map, List.all_cons, List.all_nil, avs_len, beq_self_eq_true, Bool.and_self, and_self, or_true, true_or, reduceCtorEq, *]; done) | fail) only [c_ref12_List, wl_ref12_List_4, s_ref12_List_4, c_ref12_List_l4, wb_ref12_List_4, c_ref12_List_k0, wb_ref12_List_3, c_ref12_List_k1, wl_ref12_List_2, s_ref12_List_2, c_ref12_List_l2, wb_ref12_List_2, c_ref12_List_k2, wb_ref12_List_1, wl_ref12_List_0, s_ref12_List_0, c_ref12_List_l0, wb_ref12_List_0, c_ref12_List_k3, go_sem, Nat.reduceAdd, Nat.reduceSub, Nat.reduceMul, Nat.reduceLT, Nat.reduceLeDiff, Int.reduceToNat, Nat.reduceEqDiff, Nat.reduceBEq, ↓reduceIte, reduceCtorEq, eA, scal1, he, cells, List.all_cons, List.all_nil, ↓appK, allSz, catCells, u0, u1, u2, w1, w2, w3, chunk, List.map_cons, List.map_nil]
      refine call0 300 trivial trivial cc (.inl rfl) (fun A eA => ?_)
      simp (disch := first | omega | (simp only [avs_len, List.length_cons, List.length_append, List.length_nil, List.length_take, List.length_drop, List.length_map]; omega) | (simp only [cells, scal1, allSz, List.length_cons, List.length_nil, List.length_append, List.length_map, List.all_cons, List.all_nil, avs_len, beq_self_eq_true, Bool.and_self, and_self, or_true, true_or, reduceCtorEq, *]; done) | fail) only [c_ref12_List, wl_ref12_List_4, s_ref12_List_4, c_ref12_List_l4, wb_ref12_List_4, c_ref12_List_k0, wb_ref12_List_3, c_ref12_List_k1, wl_ref12_List_2, s_ref12_List_2, c_ref12_List_l2, wb_ref12_List_2, c_ref12_List_k2, wb_ref12_List_1, wl_ref12_List_0, s_ref12_List_0, c_ref12_List_l0, wb_ref12_List_0, c_ref12_List_k3, go_sem, Nat.reduceAdd, Nat.reduceSub, Nat.reduceMul, Nat.reduceLT, Nat.reduceLeDiff, Int.reduceToNat, Nat.reduceEqDiff, Nat.reduceBEq, ↓reduceIte, reduceCtorEq, eA, scal1, he, cells, List.all_cons, List.all_nil, ↓appK, allSz, catCells, u0, u1, u2, w1, w2, w3, chunk, List.map_cons, List.map_nil]
      repeat ((first | refine roundO 300 trivial trivial (fun A eA => ?_) | refine call0 300 trivial trivial (by first | exact m0 | exact m1 | exact m2) (.inl rfl) (fun A eA => ?_)); simp (disch := first | omega | (simp only [avs_len, List.length_cons, List.length_append, List.length_nil, List.length_take, List.length_drop, List.length_map]; omega) | (simp only [cells, scal1, allSz, List.length_cons, List.length_nil, List.length_append, List.length_map, List.all_cons, List.all_nil, avs_len, beq_self_eq_true, Bool.and_self, and_self, or_true, true_or, reduceCtorEq, *]; done) | fail) only [c_ref12_List, wl_ref12_List_4, s_ref12_List_4, c_ref12_List_l4, wb_ref12_List_4, c_ref12_List_k0, wb_ref12_List_3, c_ref12_List_k1, wl_ref12_List_2, s_ref12_List_2, c_ref12_List_l2, wb_ref12_List_2, c_ref12_List_k2, wb_ref12_List_1, wl_ref12_List_0, s_ref12_List_0, c_ref12_List_l0, wb_ref12_List_0, c_ref12_List_k3, go_sem, Nat.reduceAdd, Nat.reduceSub, Nat.reduceMul, Nat.reduceLT, Nat.reduceLeDiff, Int.reduceToNat, Nat.reduceEqDiff, Nat.reduceBEq, ↓reduceIte, reduceCtorEq, eA, scal1, he, cells, List.all_cons, List.all_nil, ↓appK, allSz, catCells, u0, u1, u2, w1, w2, w3, chunk, List.map_cons, List.map_nil])
      exact doneG rfl
end Go.Proofs.Ytmokhopjnjecbab
/- Who keeps a key: the document's row, for three servers (the second before the first). -/
-- short
-- fuel 300
namespace Go.Proofs.Ytmokhopjnjecbab
open Go.Ev
set_option linter.unusedVariables false
set_option linter.unusedSimpArgs false
set_option maxRecDepth 100000
set_option maxHeartbeats 6400000
theorem refList3_111 (key : ByteArray) (c : Int) (hk : key.size ≤ 1000) (m : Nat) (hm : (m = 1 ∧ c < 2) ∨ (m = 2 ∧ c = 2) ∨ (m = 3 ∧ 3 ≤ c)) (d1 : mixOf (keyC key) 1 < mixOf (keyC key) 0) (d2 : mixOf (keyC key) 2 < mixOf (keyC key) 0) (d3 : mixOf (keyC key) 2 < mixOf (keyC key) 1) : PCalls Try.prog F_ref12_List [.str key, .int .i64 3, .int .i64 c] (.fz 1 ((([2, 1, 0] : List Nat).take m).map ri) none) := by
  have cc := keyR_calls key hk
  have hc := keyC_lt key
  have m0 := refmix_calls (keyC key) 0 hc (by omega)
  have m1 := refmix_calls (keyC key) 1 hc (by omega)
  have m2 := refmix_calls (keyC key) 2 hc (by omega)
  have w1 : IntKind.i64.wrap ((0 : Int) + 1) = 1 := by decide
  have w2 : IntKind.i64.wrap ((1 : Int) + 1) = 2 := by decide
  have w3 : IntKind.i64.wrap ((2 : Int) + 1) = 3 := by decide
  have u0 : IntKind.u32.wrap (0 : Int) = 0 := by decide
  have u1 : IntKind.u32.wrap (1 : Int) = 1 := by decide
  have u2 : IntKind.u32.wrap (2 : Int) = 2 := by decide
  have hv : (if (if (3 : Int) < c then 3 else c) > (1 : Int) then (if (3 : Int) < c then 3 else c) else (1 : Int)) = (m : Int) := by split <;> split at * <;> omega
  have hm1 : 1 ≤ m ∧ m ≤ 3 := by omega
  generalize keyC key = k at *
  refine calls_ref12_List (walk0 300 trivial (fun A eA => ?_))
  simp (disch := first | omega | (simp only [avs_len, List.length_cons, List.length_append, List.length_nil, List.length_take, List.length_drop, List.length_map]; omega) | (simp only [cells, scal1, allSz, List.length_cons, List.length_nil, List.length_append, List.length_map, List.all_cons, List.all_nil, avs_len, beq_self_eq_true, Bool.and_self, and_self, or_true, true_or, reduceCtorEq, *]; done) | fail) only [c_ref12_List, wl_ref12_List_4, s_ref12_List_4, c_ref12_List_l4, wb_ref12_List_4, c_ref12_List_k0, wb_ref12_List_3, c_ref12_List_k1, wl_ref12_List_2, s_ref12_List_2, c_ref12_List_l2, wb_ref12_List_2, c_ref12_List_k2, wb_ref12_List_1, wl_ref12_List_0, s_ref12_List_0, c_ref12_List_l0, wb_ref12_List_0, c_ref12_List_k3, go_sem, Nat.reduceAdd, Nat.reduceSub, Nat.reduceMul, Nat.reduceLT, Nat.reduceLeDiff, Int.reduceToNat, Nat.reduceEqDiff, Nat.reduceBEq, ↓reduceIte, reduceCtorEq, eA, scal1, cells, List.all_cons, List.all_nil, ↓appK, allSz, catCells, u0, u1, u2, w1, w2, w3, chunk, List.map_cons, List.map_nil, hv, Int.toNat_natCast]
  refine call0 300 trivial trivial cc (.inl rfl) (fun A eA => ?_)
  simp (disch := first | omega | (simp only [avs_len, List.length_cons, List.length_append, List.length_nil, List.length_take, List.length_drop, List.length_map]; omega) | (simp only [cells, scal1, allSz, List.length_cons, List.length_nil, List.length_append, List.length_map, List.all_cons, List.all_nil, avs_len, beq_self_eq_true, Bool.and_self, and_self, or_true, true_or, reduceCtorEq, *]; done) | fail) only [c_ref12_List, wl_ref12_List_4, s_ref12_List_4, c_ref12_List_l4, wb_ref12_List_4, c_ref12_List_k0, wb_ref12_List_3, c_ref12_List_k1, wl_ref12_List_2, s_ref12_List_2, c_ref12_List_l2, wb_ref12_List_2, c_ref12_List_k2, wb_ref12_List_1, wl_ref12_List_0, s_ref12_List_0, c_ref12_List_l0, wb_ref12_List_0, c_ref12_List_k3, go_sem, Nat.reduceAdd, Nat.reduceSub, Nat.reduceMul, Nat.reduceLT, Nat.reduceLeDiff, Int.reduceToNat, Nat.reduceEqDiff, Nat.reduceBEq, ↓reduceIte, reduceCtorEq, eA, scal1, cells, List.all_cons, List.all_nil, ↓appK, allSz, catCells, u0, u1, u2, w1, w2, w3, chunk, List.map_cons, List.map_nil, hv, Int.toNat_natCast]
  repeat ((first | refine roundO 300 trivial trivial (fun A eA => ?_) | refine call0 300 trivial trivial (by first | exact m0 | exact m1 | exact m2) (.inl rfl) (fun A eA => ?_)); simp (disch := first | omega | (simp only [avs_len, List.length_cons, List.length_append, List.length_nil, List.length_take, List.length_drop, List.length_map]; omega) | (simp only [cells, scal1, allSz, List.length_cons, List.length_nil, List.length_append, List.length_map, List.all_cons, List.all_nil, avs_len, beq_self_eq_true, Bool.and_self, and_self, or_true, true_or, reduceCtorEq, *]; done) | fail) only [c_ref12_List, wl_ref12_List_4, s_ref12_List_4, c_ref12_List_l4, wb_ref12_List_4, c_ref12_List_k0, wb_ref12_List_3, c_ref12_List_k1, wl_ref12_List_2, s_ref12_List_2, c_ref12_List_l2, wb_ref12_List_2, c_ref12_List_k2, wb_ref12_List_1, wl_ref12_List_0, s_ref12_List_0, c_ref12_List_l0, wb_ref12_List_0, c_ref12_List_k3, go_sem, Nat.reduceAdd, Nat.reduceSub, Nat.reduceMul, Nat.reduceLT, Nat.reduceLeDiff, Int.reduceToNat, Nat.reduceEqDiff, Nat.reduceBEq, ↓reduceIte, reduceCtorEq, eA, scal1, cells, List.all_cons, List.all_nil, ↓appK, allSz, catCells, u0, u1, u2, w1, w2, w3, chunk, List.map_cons, List.map_nil, hv, Int.toNat_natCast])
  rcases hm with ⟨rfl, _⟩ | ⟨rfl, _⟩ | ⟨rfl, _⟩ <;> exact doneG rfl
theorem refList3_110 (key : ByteArray) (c : Int) (hk : key.size ≤ 1000) (m : Nat) (hm : (m = 1 ∧ c < 2) ∨ (m = 2 ∧ c = 2) ∨ (m = 3 ∧ 3 ≤ c)) (d1 : mixOf (keyC key) 1 < mixOf (keyC key) 0) (d2 : mixOf (keyC key) 2 < mixOf (keyC key) 0) (d3 : ¬ mixOf (keyC key) 2 < mixOf (keyC key) 1) : PCalls Try.prog F_ref12_List [.str key, .int .i64 3, .int .i64 c] (.fz 1 ((([1, 2, 0] : List Nat).take m).map ri) none) := by
  have cc := keyR_calls key hk
  have hc := keyC_lt key
  have m0 := refmix_calls (keyC key) 0 hc (by omega)
  have m1 := refmix_calls (keyC key) 1 hc (by omega)
  have m2 := refmix_calls (keyC key) 2 hc (by omega)
  have w1 : IntKind.i64.wrap ((0 : Int) + 1) = 1 := by decide
  have w2 : IntKind.i64.wrap ((1 : Int) + 1) = 2 := by decide
  have w3 : IntKind.i64.wrap ((2 : Int) + 1) = 3 := by decide
  have u0 : IntKind.u32.wrap (0 : Int) = 0 := by decide
  have u1 : IntKind.u32.wrap (1 : Int) = 1 := by decide
  have u2 : IntKind.u32.wrap (2 : Int) = 2 := by decide
  have hv : (if (if (3 : Int) < c then 3 else c) > (1 : Int) then (if (3 : Int) < c then 3 else c) else (1 : Int)) = (m : Int) := by split <;> split at * <;> omega
  have hm1 : 1 ≤ m ∧ m ≤ 3 := by omega
  generalize keyC key = k at *
  refine calls_ref12_List (walk0 300 trivial (fun A eA => ?_))
  simp (disch := first | omega | (simp only [avs_len, List.length_cons, List.length_append, List.length_nil, List.length_take, List.length_drop, List.length_map]; omega) | (simp only [cells, scal1, allSz, List.length_cons, List.length_nil, List.length_append, List.length_map, List.all_cons, List.all_nil, avs_len, beq_self_eq_true, Bool.and_self, and_self, or_true, true_or, reduceCtorEq, *]; done) | fail) only [c_ref12_List, wl_ref12_List_4, s_ref12_List_4, c_ref12_List_l4, wb_ref12_List_4, c_ref12_List_k0, wb_ref12_List_3, c_ref12_List_k1, wl_ref12_List_2, s_ref12_List_2, c_ref12_List_l2, wb_ref12_List_2, c_ref12_List_k2, wb_ref12_List_1, wl_ref12_List_0, s_ref12_List_0, c_ref12_List_l0, wb_ref12_List_0, c_ref12_List_k3, go_sem, Nat.reduceAdd, Nat.reduceSub, Nat.reduceMul, Nat.reduceLT, Nat.reduceLeDiff, Int.reduceToNat, Nat.reduceEqDiff, Nat.reduceBEq, ↓reduceIte, reduceCtorEq, eA, scal1, cells, List.all_cons, List.all_nil, ↓appK, allSz, catCells, u0, u1, u2, w1, w2, w3, chunk, List.map_cons, List.map_nil, hv, Int.toNat_natCast]
  refine call0 300 trivial trivial cc (.inl rfl) (fun A eA => ?_)
  simp (disch := first | omega | (simp only [avs_len, List.length_cons, List.length_append, List.length_nil, List.length_take, List.length_drop, List.length_map]; omega) | (simp only [cells, scal1, allSz, List.length_cons, List.length_nil, List.length_append, List.length_map, List.all_cons, List.all_nil, avs_len, beq_self_eq_true, Bool.and_self, and_self, or_true, true_or, reduceCtorEq, *]; done) | fail) only [c_ref12_List, wl_ref12_List_4, s_ref12_List_4, c_ref12_List_l4, wb_ref12_List_4, c_ref12_List_k0, wb_ref12_List_3, c_ref12_List_k1, wl_ref12_List_2, s_ref12_List_2, c_ref12_List_l2, wb_ref12_List_2, c_ref12_List_k2, wb_ref12_List_1, wl_ref12_List_0, s_ref12_List_0, c_ref12_List_l0, wb_ref12_List_0, c_ref12_List_k3, go_sem, Nat.reduceAdd, Nat.reduceSub, Nat.reduceMul, Nat.reduceLT, Nat.reduceLeDiff, Int.reduceToNat, Nat.reduceEqDiff, Nat.reduceBEq, ↓reduceIte, reduceCtorEq, eA, scal1, cells, List.all_cons, List.all_nil, ↓appK, allSz, catCells, u0, u1, u2, w1, w2, w3, chunk, List.map_cons, List.map_nil, hv, Int.toNat_natCast]
  repeat ((first | refine roundO 300 trivial trivial (fun A eA => ?_) | refine call0 300 trivial trivial (by first | exact m0 | exact m1 | exact m2) (.inl rfl) (fun A eA => ?_)); simp (disch := first | omega | (simp only [avs_len, List.length_cons, List.length_append, List.length_nil, List.length_take, List.length_drop, List.length_map]; omega) | (simp only [cells, scal1, allSz, List.length_cons, List.length_nil, List.length_append, List.length_map, List.all_cons, List.all_nil, avs_len, beq_self_eq_true, Bool.and_self, and_self, or_true, true_or, reduceCtorEq, *]; done) | fail) only [c_ref12_List, wl_ref12_List_4, s_ref12_List_4, c_ref12_List_l4, wb_ref12_List_4, c_ref12_List_k0, wb_ref12_List_3, c_ref12_List_k1, wl_ref12_List_2, s_ref12_List_2, c_ref12_List_l2, wb_ref12_List_2, c_ref12_List_k2, wb_ref12_List_1, wl_ref12_List_0, s_ref12_List_0, c_ref12_List_l0, wb_ref12_List_0, c_ref12_List_k3, go_sem, Nat.reduceAdd, Nat.reduceSub, Nat.reduceMul, Nat.reduceLT, Nat.reduceLeDiff, Int.reduceToNat, Nat.reduceEqDiff, Nat.reduceBEq, ↓reduceIte, reduceCtorEq, eA, scal1, cells, List.all_cons, List.all_nil, ↓appK, allSz, catCells, u0, u1, u2, w1, w2, w3, chunk, List.map_cons, List.map_nil, hv, Int.toNat_natCast])
  rcases hm with ⟨rfl, _⟩ | ⟨rfl, _⟩ | ⟨rfl, _⟩ <;> exact doneG rfl
theorem refList3_100 (key : ByteArray) (c : Int) (hk : key.size ≤ 1000) (m : Nat) (hm : (m = 1 ∧ c < 2) ∨ (m = 2 ∧ c = 2) ∨ (m = 3 ∧ 3 ≤ c)) (d1 : mixOf (keyC key) 1 < mixOf (keyC key) 0) (d2 : ¬ mixOf (keyC key) 2 < mixOf (keyC key) 0) (d3 : ¬ mixOf (keyC key) 2 < mixOf (keyC key) 1) : PCalls Try.prog F_ref12_List [.str key, .int .i64 3, .int .i64 c] (.fz 1 ((([1, 0, 2] : List Nat).take m).map ri) none) := by
  have cc := keyR_calls key hk
  have hc := keyC_lt key
  have m0 := refmix_calls (keyC key) 0 hc (by omega)
  have m1 := refmix_calls (keyC key) 1 hc (by omega)
  have m2 := refmix_calls (keyC key) 2 hc (by omega)
  have w1 : IntKind.i64.wrap ((0 : Int) + 1) = 1 := by decide
  have w2 : IntKind.i64.wrap ((1 : Int) + 1) = 2 := by decide
  have w3 : IntKind.i64.wrap ((2 : Int) + 1) = 3 := by decide
  have u0 : IntKind.u32.wrap (0 : Int) = 0 := by decide
  have u1 : IntKind.u32.wrap (1 : Int) = 1 := by decide
  have u2 : IntKind.u32.wrap (2 : Int) = 2 := by decide
  have hv : (if (if (3 : Int) < c then 3 else c) > (1 : Int) then (if (3 : Int) < c then 3 else c) else (1 : Int)) = (m : Int) := by split <;> split at * <;> omega
  have hm1 : 1 ≤ m ∧ m ≤ 3 := by omega
  generalize keyC key = k at *
  refine calls_ref12_List (walk0 300 trivial (fun A eA => ?_))
  simp (disch := first | omega | (simp only [avs_len, List.length_cons, List.length_append, List.length_nil, List.length_take, List.length_drop, List.length_map]; omega) | (simp only [cells, scal1, allSz, List.length_cons, List.length_nil, List.length_append, List.length_map, List.all_cons, List.all_nil, avs_len, beq_self_eq_true, Bool.and_self, and_self, or_true, true_or, reduceCtorEq, *]; done) | fail) only [c_ref12_List, wl_ref12_List_4, s_ref12_List_4, c_ref12_List_l4, wb_ref12_List_4, c_ref12_List_k0, wb_ref12_List_3, c_ref12_List_k1, wl_ref12_List_2, s_ref12_List_2, c_ref12_List_l2, wb_ref12_List_2, c_ref12_List_k2, wb_ref12_List_1, wl_ref12_List_0, s_ref12_List_0, c_ref12_List_l0, wb_ref12_List_0, c_ref12_List_k3, go_sem, Nat.reduceAdd, Nat.reduceSub, Nat.reduceMul, Nat.reduceLT, Nat.reduceLeDiff, Int.reduceToNat, Nat.reduceEqDiff, Nat.reduceBEq, ↓reduceIte, reduceCtorEq, eA, scal1, cells, List.all_cons, List.all_nil, ↓appK, allSz, catCells, u0, u1, u2, w1, w2, w3, chunk, List.map_cons, List.map_nil, hv, Int.toNat_natCast]
  refine call0 300 trivial trivial cc (.inl rfl) (fun A eA => ?_)
  simp (disch := first | omega | (simp only [avs_len, List.length_cons, List.length_append, List.length_nil, List.length_take, List.length_drop, List.length_map]; omega) | (simp only [cells, scal1, allSz, List.length_cons, List.length_nil, List.length_append, List.length_map, List.all_cons, List.all_nil, avs_len, beq_self_eq_true, Bool.and_self, and_self, or_true, true_or, reduceCtorEq, *]; done) | fail) only [c_ref12_List, wl_ref12_List_4, s_ref12_List_4, c_ref12_List_l4, wb_ref12_List_4, c_ref12_List_k0, wb_ref12_List_3, c_ref12_List_k1, wl_ref12_List_2, s_ref12_List_2, c_ref12_List_l2, wb_ref12_List_2, c_ref12_List_k2, wb_ref12_List_1, wl_ref12_List_0, s_ref12_List_0, c_ref12_List_l0, wb_ref12_List_0, c_ref12_List_k3, go_sem, Nat.reduceAdd, Nat.reduceSub, Nat.reduceMul, Nat.reduceLT, Nat.reduceLeDiff, Int.reduceToNat, Nat.reduceEqDiff, Nat.reduceBEq, ↓reduceIte, reduceCtorEq, eA, scal1, cells, List.all_cons, List.all_nil, ↓appK, allSz, catCells, u0, u1, u2, w1, w2, w3, chunk, List.map_cons, List.map_nil, hv, Int.toNat_natCast]
  repeat ((first | refine roundO 300 trivial trivial (fun A eA => ?_) | refine call0 300 trivial trivial (by first | exact m0 | exact m1 | exact m2) (.inl rfl) (fun A eA => ?_)); simp (disch := first | omega | (simp only [avs_len, List.length_cons, List.length_append, List.length_nil, List.length_take, List.length_drop, List.length_map]; omega) | (simp only [cells, scal1, allSz, List.length_cons, List.length_nil, List.length_append, List.length_map, List.all_cons, List.all_nil, avs_len, beq_self_eq_true, Bool.and_self, and_self, or_true, true_or, reduceCtorEq, *]; done) | fail) only [c_ref12_List, wl_ref12_List_4, s_ref12_List_4, c_ref12_List_l4, wb_ref12_List_4, c_ref12_List_k0, wb_ref12_List_3, c_ref12_List_k1, wl_ref12_List_2, s_ref12_List_2, c_ref12_List_l2, wb_ref12_List_2, c_ref12_List_k2, wb_ref12_List_1, wl_ref12_List_0, s_ref12_List_0, c_ref12_List_l0, wb_ref12_List_0, c_ref12_List_k3, go_sem, Nat.reduceAdd, Nat.reduceSub, Nat.reduceMul, Nat.reduceLT, Nat.reduceLeDiff, Int.reduceToNat, Nat.reduceEqDiff, Nat.reduceBEq, ↓reduceIte, reduceCtorEq, eA, scal1, cells, List.all_cons, List.all_nil, ↓appK, allSz, catCells, u0, u1, u2, w1, w2, w3, chunk, List.map_cons, List.map_nil, hv, Int.toNat_natCast])
  rcases hm with ⟨rfl, _⟩ | ⟨rfl, _⟩ | ⟨rfl, _⟩ <;> exact doneG rfl
end Go.Proofs.Ytmokhopjnjecbab
/- Who keeps a key: the document's row, for three servers (the first before the second). -/
-- short
-- fuel 300
namespace Go.Proofs.Ytmokhopjnjecbab
open Go.Ev
set_option linter.unusedVariables false
set_option linter.unusedSimpArgs false
set_option maxRecDepth 100000
set_option maxHeartbeats 6400000
theorem refList3_011 (key : ByteArray) (c : Int) (hk : key.size ≤ 1000) (m : Nat) (hm : (m = 1 ∧ c < 2) ∨ (m = 2 ∧ c = 2) ∨ (m = 3 ∧ 3 ≤ c)) (d1 : ¬ mixOf (keyC key) 1 < mixOf (keyC key) 0) (d2 : mixOf (keyC key) 2 < mixOf (keyC key) 0) (d3 : mixOf (keyC key) 2 < mixOf (keyC key) 1) : PCalls Try.prog F_ref12_List [.str key, .int .i64 3, .int .i64 c] (.fz 1 ((([2, 0, 1] : List Nat).take m).map ri) none) := by
  have cc := keyR_calls key hk
  have hc := keyC_lt key
  have m0 := refmix_calls (keyC key) 0 hc (by omega)
  have m1 := refmix_calls (keyC key) 1 hc (by omega)
  have m2 := refmix_calls (keyC key) 2 hc (by omega)
  have w1 : IntKind.i64.wrap ((0 : Int) + 1) = 1 := by decide
  have w2 : IntKind.i64.wrap ((1 : Int) + 1) = 2 := by decide
  have w3 : IntKind.i64.wrap ((2 : Int) + 1) = 3 := by decide
  have u0 : IntKind.u32.wrap (0 : Int) = 0 := by decide
  have u1 : IntKind.u32.wrap (1 : Int) = 1 := by decide
  have u2 : IntKind.u32.wrap (2 : Int) = 2 := by decide
  have hv : (if (if (3 : Int) < c then 3 else c) > (1 : Int) then (if (3 : Int) < c then 3 else c) else (1 : Int)) = (m : Int) := by split <;> split at * <;> omega
  have hm1 : 1 ≤ m ∧ m ≤ 3 := by omega
  generalize keyC key = k at *
  refine calls_ref12_List (walk0 300 trivial (fun A eA => ?_))
  simp (disch := first | omega | (simp only [avs_len, List.length_cons, List.length_append, List.length_nil, List.length_take, List.length_drop, List.length_map]; omega) | (simp only [cells, scal1, allSz, List.length_cons, List.length_nil, List.length_append, List.length_map, List.all_cons, List.all_nil, avs_len, beq_self_eq_true, Bool.and_self, and_self, or_true, true_or, reduceCtorEq, *]; done) | fail) only [c_ref12_List, wl_ref12_List_4, s_ref12_List_4, c_ref12_List_l4, wb_ref12_List_4, c_ref12_List_k0, wb_ref12_List_3, c_ref12_List_k1, wl_ref12_List_2, s_ref12_List_2, c_ref12_List_l2, wb_ref12_List_2, c_ref12_List_k2, wb_ref12_List_1, wl_ref12_List_0, s_ref12_List_0, c_ref12_List_l0, wb_ref12_List_0, c_ref12_List_k3, go_sem, Nat.reduceAdd, Nat.reduceSub, Nat.reduceMul, Nat.reduceLT, Nat.reduceLeDiff, Int.reduceToNat, Nat.reduceEqDiff, Nat.reduceBEq, ↓reduceIte, reduceCtorEq, eA, scal1, cells, List.all_cons, List.all_nil, ↓appK, allSz, catCells, u0, u1, u2, w1, w2, w3, chunk, List.map_cons, List.map_nil, hv, Int.toNat_natCast]
  refine call0 300 trivial trivial cc (.inl rfl) (fun A eA => ?_)
  simp (disch := first | omega | (simp only [avs_len, List.length_cons, List.length_append, List.length_nil, List.length_take, List.length_drop, List.length_map]; omega) | (simp only [cells, scal1, allSz, List.length_cons, List.length_nil, List.length_append, List.length_map, List.all_cons, List.all_nil, avs_len, beq_self_eq_true, Bool.and_self, and_self, or_true, true_or, reduceCtorEq, *]; done) | fail) only [c_ref12_List, wl_ref12_List_4, s_ref12_List_4, c_ref12_List_l4, wb_ref12_List_4, c_ref12_List_k0, wb_ref12_List_3, c_ref12_List_k1, wl_ref12_List_2, s_ref12_List_2, c_ref12_List_l2, wb_ref12_List_2, c_ref12_List_k2, wb_ref12_List_1, wl_ref12_List_0, s_ref12_List_0, c_ref12_List_l0, wb_ref12_List_0, c_ref12_List_k3, go_sem, Nat.reduceAdd, Nat.reduceSub, Nat.reduceMul, Nat.reduceLT, Nat.reduceLeDiff, Int.reduceToNat, Nat.reduceEqDiff, Nat.reduceBEq, ↓reduceIte, reduceCtorEq, eA, scal1, cells, List.all_cons, List.all_nil, ↓appK, allSz, catCells, u0, u1, u2, w1, w2, w3, chunk, List.map_cons, List.map_nil, hv, Int.toNat_natCast]
  repeat ((first | refine roundO 300 trivial trivial (fun A eA => ?_) | refine call0 300 trivial trivial (by first | exact m0 | exact m1 | exact m2) (.inl rfl) (fun A eA => ?_)); simp (disch := first | omega | (simp only [avs_len, List.length_cons, List.length_append, List.length_nil, List.length_take, List.length_drop, List.length_map]; omega) | (simp only [cells, scal1, allSz, List.length_cons, List.length_nil, List.length_append, List.length_map, List.all_cons, List.all_nil, avs_len, beq_self_eq_true, Bool.and_self, and_self, or_true, true_or, reduceCtorEq, *]; done) | fail) only [c_ref12_List, wl_ref12_List_4, s_ref12_List_4, c_ref12_List_l4, wb_ref12_List_4, c_ref12_List_k0, wb_ref12_List_3, c_ref12_List_k1, wl_ref12_List_2, s_ref12_List_2, c_ref12_List_l2, wb_ref12_List_2, c_ref12_List_k2, wb_ref12_List_1, wl_ref12_List_0, s_ref12_List_0, c_ref12_List_l0, wb_ref12_List_0, c_ref12_List_k3, go_sem, Nat.reduceAdd, Nat.reduceSub, Nat.reduceMul, Nat.reduceLT, Nat.reduceLeDiff, Int.reduceToNat, Nat.reduceEqDiff, Nat.reduceBEq, ↓reduceIte, reduceCtorEq, eA, scal1, cells, List.all_cons, List.all_nil, ↓appK, allSz, catCells, u0, u1, u2, w1, w2, w3, chunk, List.map_cons, List.map_nil, hv, Int.toNat_natCast])
  rcases hm with ⟨rfl, _⟩ | ⟨rfl, _⟩ | ⟨rfl, _⟩ <;> exact doneG rfl
theorem refList3_001 (key : ByteArray) (c : Int) (hk : key.size ≤ 1000) (m : Nat) (hm : (m = 1 ∧ c < 2) ∨ (m = 2 ∧ c = 2) ∨ (m = 3 ∧ 3 ≤ c)) (d1 : ¬ mixOf (keyC key) 1 < mixOf (keyC key) 0) (d2 : ¬ mixOf (keyC key) 2 < mixOf (keyC key) 0) (d3 : mixOf (keyC key) 2 < mixOf (keyC key) 1) : PCalls Try.prog F_ref12_List [.str key, .int .i64 3, .int .i64 c] (.fz 1 ((([0, 2, 1] : List Nat).take m).map ri) none) := by
  have cc := keyR_calls key hk
  have hc := keyC_lt key
  have m0 := refmix_calls (keyC key) 0 hc (by omega)
  have m1 := refmix_calls (keyC key) 1 hc (by omega)
  have m2 := refmix_calls (keyC key) 2 hc (by omega)
  have w1 : IntKind.i64.wrap ((0 : Int) + 1) = 1 := by decide
  have w2 : IntKind.i64.wrap ((1 : Int) + 1) = 2 := by decide
  have w3 : IntKind.i64.wrap ((2 : Int) + 1) = 3 := by decide
  have u0 : IntKind.u32.wrap (0 : Int) = 0 := by decide
  have u1 : IntKind.u32.wrap (1 : Int) = 1 := by decide
  have u2 : IntKind.u32.wrap (2 : Int) = 2 := by decide
  have hv : (if (if (3 : Int) < c then 3 else c) > (1 : Int) then (if (3 : Int) < c then 3 else c) else (1 : Int)) = (m : Int) := by split <;> split at * <;> omega
  have hm1 : 1 ≤ m ∧ m ≤ 3 := by omega
  generalize keyC key = k at *
  refine calls_ref12_List (walk0 300 trivial (fun A eA => ?_))
  simp (disch := first | omega | (simp only [avs_len, List.length_cons, List.length_append, List.length_nil, List.length_take, List.length_drop, List.length_map]; omega) | (simp only [cells, scal1, allSz, List.length_cons, List.length_nil, List.length_append, List.length_map, List.all_cons, List.all_nil, avs_len, beq_self_eq_true, Bool.and_self, and_self, or_true, true_or, reduceCtorEq, *]; done) | fail) only [c_ref12_List, wl_ref12_List_4, s_ref12_List_4, c_ref12_List_l4, wb_ref12_List_4, c_ref12_List_k0, wb_ref12_List_3, c_ref12_List_k1, wl_ref12_List_2, s_ref12_List_2, c_ref12_List_l2, wb_ref12_List_2, c_ref12_List_k2, wb_ref12_List_1, wl_ref12_List_0, s_ref12_List_0, c_ref12_List_l0, wb_ref12_List_0, c_ref12_List_k3, go_sem, Nat.reduceAdd, Nat.reduceSub, Nat.reduceMul, Nat.reduceLT, Nat.reduceLeDiff, Int.reduceToNat, Nat.reduceEqDiff, Nat.reduceBEq, ↓reduceIte, reduceCtorEq, eA, scal1, cells, List.all_cons, List.all_nil, ↓appK, allSz, catCells, u0, u1, u2, w1, w2, w3, chunk, List.map_cons, List.map_nil, hv, Int.toNat_natCast]
  refine call0 300 trivial trivial cc (.inl rfl) (fun A eA => ?_)
  simp (disch := first | omega | (simp only [avs_len, List.length_cons, List.length_append, List.length_nil, List.length_take, List.length_drop, List.length_map]; omega) | (simp only [cells, scal1, allSz, List.length_cons, List.length_nil, List.length_append, List.length_map, List.all_cons, List.all_nil, avs_len, beq_self_eq_true, Bool.and_self, and_self, or_true, true_or, reduceCtorEq, *]; done) | fail) only [c_ref12_List, wl_ref12_List_4, s_ref12_List_4, c_ref12_List_l4, wb_ref12_List_4, c_ref12_List_k0, wb_ref12_List_3, c_ref12_List_k1, wl_ref12_List_2, s_ref12_List_2, c_ref12_List_l2, wb_ref12_List_2, c_ref12_List_k2, wb_ref12_List_1, wl_ref12_List_0, s_ref12_List_0, c_ref12_List_l0, wb_ref12_List_0, c_ref12_List_k3, go_sem, Nat.reduceAdd, Nat.reduceSub, Nat.reduceMul, Nat.reduceLT, Nat.reduceLeDiff, Int.reduceToNat, Nat.reduceEqDiff, Nat.reduceBEq, ↓reduceIte, reduceCtorEq, eA, scal1, cells, List.all_cons, List.all_nil, ↓appK, allSz, catCells, u0, u1, u2, w1, w2, w3, chunk, List.map_cons, List.map_nil, hv, Int.toNat_natCast]
  repeat ((first | refine roundO 300 trivial trivial (fun A eA => ?_) | refine call0 300 trivial trivial (by first | exact m0 | exact m1 | exact m2) (.inl rfl) (fun A eA => ?_)); simp (disch := first | omega | (simp only [avs_len, List.length_cons, List.length_append, List.length_nil, List.length_take, List.length_drop, List.length_map]; omega) | (simp only [cells, scal1, allSz, List.length_cons, List.length_nil, List.length_append, List.length_map, List.all_cons, List.all_nil, avs_len, beq_self_eq_true, Bool.and_self, and_self, or_true, true_or, reduceCtorEq, *]; done) | fail) only [c_ref12_List, wl_ref12_List_4, s_ref12_List_4, c_ref12_List_l4, wb_ref12_List_4, c_ref12_List_k0, wb_ref12_List_3, c_ref12_List_k1, wl_ref12_List_2, s_ref12_List_2, c_ref12_List_l2, wb_ref12_List_2, c_ref12_List_k2, wb_ref12_List_1, wl_ref12_List_0, s_ref12_List_0, c_ref12_List_l0, wb_ref12_List_0, c_ref12_List_k3, go_sem, Nat.reduceAdd, Nat.reduceSub, Nat.reduceMul, Nat.reduceLT, Nat.reduceLeDiff, Int.reduceToNat, Nat.reduceEqDiff, Nat.reduceBEq, ↓reduceIte, reduceCtorEq, eA, scal1, cells, List.all_cons, List.all_nil, ↓appK, allSz, catCells, u0, u1, u2, w1, w2, w3, chunk, List.map_cons, List.map_nil, hv, Int.toNat_natCast])
  rcases hm with ⟨rfl, _⟩ | ⟨rfl, _⟩ | ⟨rfl, _⟩ <;> exact doneG rfl
theorem refList3_000 (key : ByteArray) (c : Int) (hk : key.size ≤ 1000) (m : Nat) (hm : (m = 1 ∧ c < 2) ∨ (m = 2 ∧ c = 2) ∨ (m = 3 ∧ 3 ≤ c)) (d1 : ¬ mixOf (keyC key) 1 < mixOf (keyC key) 0) (d2 : ¬ mixOf (keyC key) 2 < mixOf (keyC key) 0) (d3 : ¬ mixOf (keyC key) 2 < mixOf (keyC key) 1) : PCalls Try.prog F_ref12_List [.str key, .int .i64 3, .int .i64 c] (.fz 1 ((([0, 1, 2] : List Nat).take m).map ri) none) := by
  have cc := keyR_calls key hk
  have hc := keyC_lt key
  have m0 := refmix_calls (keyC key) 0 hc (by omega)
  have m1 := refmix_calls (keyC key) 1 hc (by omega)
  have m2 := refmix_calls (keyC key) 2 hc (by omega)
  have w1 : IntKind.i64.wrap ((0 : Int) + 1) = 1 := by decide
  have w2 : IntKind.i64.wrap ((1 : Int) + 1) = 2 := by decide
  have w3 : IntKind.i64.wrap ((2 : Int) + 1) = 3 := by decide
  have u0 : IntKind.u32.wrap (0 : Int) = 0 := by decide
  have u1 : IntKind.u32.wrap (1 : Int) = 1 := by decide
  have u2 : IntKind.u32.wrap (2 : Int) = 2 := by decide
  have hv : (if (if (3 : Int) < c then 3 else c) > (1 : Int) then (if (3 : Int) < c then 3 else c) else (1 : Int)) = (m : Int) := by split <;> split at * <;> omega
  have hm1 : 1 ≤ m ∧ m ≤ 3 := by omega
  generalize keyC key = k at *
  refine calls_ref12_List (walk0 300 trivial (fun A eA => ?_))
  simp (disch := first | omega | (simp only [avs_len, List.length_cons, List.length_append, List.length_nil, List.length_take, List.length_drop, List.length_map]; omega) | (simp only [cells, scal1, allSz, List.length_cons, List.length_nil, List.length_append, List.length_map, List.all_cons, List.all_nil, avs_len, beq_self_eq_true, Bool.and_self, and_self, or_true, true_or, reduceCtorEq, *]; done) | fail) only [c_ref12_List, wl_ref12_List_4, s_ref12_List_4, c_ref12_List_l4, wb_ref12_List_4, c_ref12_List_k0, wb_ref12_List_3, c_ref12_List_k1, wl_ref12_List_2, s_ref12_List_2, c_ref12_List_l2, wb_ref12_List_2, c_ref12_List_k2, wb_ref12_List_1, wl_ref12_List_0, s_ref12_List_0, c_ref12_List_l0, wb_ref12_List_0, c_ref12_List_k3, go_sem, Nat.reduceAdd, Nat.reduceSub, Nat.reduceMul, Nat.reduceLT, Nat.reduceLeDiff, Int.reduceToNat, Nat.reduceEqDiff, Nat.reduceBEq, ↓reduceIte, reduceCtorEq, eA, scal1, cells, List.all_cons, List.all_nil, ↓appK, allSz, catCells, u0, u1, u2, w1, w2, w3, chunk, List.map_cons, List.map_nil, hv, Int.toNat_natCast]
  refine call0 300 trivial trivial cc (.inl rfl) (fun A eA => ?_)
  simp (disch := first | omega | (simp only [avs_len, List.length_cons, List.length_append, List.length_nil, List.length_take, List.length_drop, List.length_map]; omega) | (simp only [cells, scal1, allSz, List.length_cons, List.length_nil, List.length_append, List.length_map, List.all_cons, List.all_nil, avs_len, beq_self_eq_true, Bool.and_self, and_self, or_true, true_or, reduceCtorEq, *]; done) | fail) only [c_ref12_List, wl_ref12_List_4, s_ref12_List_4, c_ref12_List_l4, wb_ref12_List_4, c_ref12_List_k0, wb_ref12_List_3, c_ref12_List_k1, wl_ref12_List_2, s_ref12_List_2, c_ref12_List_l2, wb_ref12_List_2, c_ref12_List_k2, wb_ref12_List_1, wl_ref12_List_0, s_ref12_List_0, c_ref12_List_l0, wb_ref12_List_0, c_ref12_List_k3, go_sem, Nat.reduceAdd, Nat.reduceSub, Nat.reduceMul, Nat.reduceLT, Nat.reduceLeDiff, Int.reduceToNat, Nat.reduceEqDiff, Nat.reduceBEq, ↓reduceIte, reduceCtorEq, eA, scal1, cells, List.all_cons, List.all_nil, ↓appK, allSz, catCells, u0, u1, u2, w1, w2, w3, chunk, List.map_cons, List.map_nil, hv, Int.toNat_natCast]
  repeat ((first | refine roundO 300 trivial trivial (fun A eA => ?_) | refine call0 300 trivial trivial (by first | exact m0 | exact m1 | exact m2) (.inl rfl) (fun A eA => ?_)); simp (disch := first | omega | (simp only [avs_len, List.length_cons, List.length_append, List.length_nil, List.length_take, List.length_drop, List.length_map]; omega) | (simp only [cells, scal1, allSz, List.length_cons, List.length_nil, List.length_append, List.length_map, List.all_cons, List.all_nil, avs_len, beq_self_eq_true, Bool.and_self, and_self, or_true, true_or, reduceCtorEq, *]; done) | fail) only [c_ref12_List, wl_ref12_List_4, s_ref12_List_4, c_ref12_List_l4, wb_ref12_List_4, c_ref12_List_k0, wb_ref12_List_3, c_ref12_List_k1, wl_ref12_List_2, s_ref12_List_2, c_ref12_List_l2, wb_ref12_List_2, c_ref12_List_k2, wb_ref12_List_1, wl_ref12_List_0, s_ref12_List_0, c_ref12_List_l0, wb_ref12_List_0, c_ref12_List_k3, go_sem, Nat.reduceAdd, Nat.reduceSub, Nat.reduceMul, Nat.reduceLT, Nat.reduceLeDiff, Int.reduceToNat, Nat.reduceEqDiff, Nat.reduceBEq, ↓reduceIte, reduceCtorEq, eA, scal1, cells, List.all_cons, List.all_nil, ↓appK, allSz, catCells, u0, u1, u2, w1, w2, w3, chunk, List.map_cons, List.map_nil, hv, Int.toNat_natCast])
  rcases hm with ⟨rfl, _⟩ | ⟨rfl, _⟩ | ⟨rfl, _⟩ <;> exact doneG rfl
end Go.Proofs.Ytmokhopjnjecbab
/- Who keeps a key: the document's row, for three servers. -/
-- short
-- fuel 300
namespace Go.Proofs.Ytmokhopjnjecbab
open Go.Ev
set_option linter.unusedVariables false
set_option linter.unusedSimpArgs false
set_option maxRecDepth 100000
set_option maxHeartbeats 6400000
theorem refList3 (key : ByteArray) (c : Int) (hk : key.size ≤ 1000) (m : Nat) (hm : (m = 1 ∧ c < 2) ∨ (m = 2 ∧ c = 2) ∨ (m = 3 ∧ 3 ≤ c)) : PCalls Try.prog F_ref12_List [.str key, .int .i64 3, .int .i64 c] (.fz 1 (((srt3 (keyC key)).take m).map ri) none) := by
  have h111 := refList3_111 key c hk m hm
  have h110 := refList3_110 key c hk m hm
  have h100 := refList3_100 key c hk m hm
  have h011 := refList3_011 key c hk m hm
  have h001 := refList3_001 key c hk m hm
  have h000 := refList3_000 key c hk m hm
  unfold srt3 putN
  by_cases d1 : mixOf (keyC key) 1 < mixOf (keyC key) 0 <;> by_cases d2 : mixOf (keyC key) 2 < mixOf (keyC key) 0 <;> by_cases d3 : mixOf (keyC key) 2 < mixOf (keyC key) 1 <;>
    first
    | omega
    | (simp only [d1, d2, d3, if_true, if_false]; first | exact h111 d1 d2 d3 | exact h110 d1 d2 d3 | exact h100 d1 d2 d3 | exact h011 d1 d2 d3 | exact h001 d1 d2 d3 | exact h000 d1 d2 d3)
end Go.Proofs.Ytmokhopjnjecbab
/- Who keeps a key: the rows, whatever numbers; what is asked of them. -/
-- short
-- fuel 300
namespace Go.Proofs.Ytmokhopjnjecbab
open Go.Ev
set_option linter.unusedVariables false
set_option linter.unusedSimpArgs false
set_option maxRecDepth 100000
set_option maxHeartbeats 6400000
theorem lists_calls (key : ByteArray) (s c : Int) (hk : key.size ≤ 1000) :
    (PCalls Try.prog F_ring_List [.str key, .int .i64 s, .int .i64 c] .nils ∧ PCalls Try.prog F_ref12_List [.str key, .int .i64 s, .int .i64 c] .nils ∧ PCalls Try.prog F_ring_List [.str key, .int .i64 s, .int .i64 1] .nils) ∨
    ∃ (x : Nat) (R : List Nat), R.length ≤ 2 ∧ PCalls Try.prog F_ring_List [.str key, .int .i64 s, .int .i64 c] (.fz 1 (ri x :: R.map ri) none) ∧ PCalls Try.prog F_ref12_List [.str key, .int .i64 s, .int .i64 c] (.fz 1 (ri x :: R.map ri) none) ∧ PCalls Try.prog F_ring_List [.str key, .int .i64 s, .int .i64 1] (.fz 1 [ri x] none) := by
  by_cases h : s < 1 ∨ 3 < s
  · exact .inl ⟨ringList_none key s c h, refList_none key s c h, ringList_none key s 1 h⟩
  refine .inr ?_
  have hs : s = 1 ∨ s = 2 ∨ s = 3 := by omega
  rcases hs with rfl | rfl | rfl
  · exact ⟨0, [], by decide, ringList1 key c hk, refList1 key c hk, ringList1 key 1 hk⟩
  · obtain ⟨m, hm⟩ : ∃ m : Nat, (m = 1 ∧ c < 2) ∨ (m = 2 ∧ 2 ≤ c) := by
      by_cases h : c < 2
      · exact ⟨1, .inl ⟨rfl, h⟩⟩
      · exact ⟨2, .inr ⟨rfl, by omega⟩⟩
    have h1 := ringList2 key c hk m hm
    have h2 := refList2 key c hk m hm
    have h3 := ringList2 key 1 hk 1 (.inl ⟨rfl, by decide⟩)
    obtain ⟨x, y, e, -, -⟩ := srt2_is (keyC key)
    rw [e] at h1 h2 h3
    obtain ⟨n, rfl⟩ : ∃ n, m = n + 1 := ⟨m - 1, by omega⟩
    exact ⟨x, List.take n [y], by simp; omega, h1, h2, h3⟩
  · obtain ⟨m, hm⟩ : ∃ m : Nat, (m = 1 ∧ c < 2) ∨ (m = 2 ∧ c = 2) ∨ (m = 3 ∧ 3 ≤ c) := by
      by_cases h : c < 2
      · exact ⟨1, .inl ⟨rfl, h⟩⟩
      · by_cases h : c = 2
        · exact ⟨2, .inr (.inl ⟨rfl, h⟩)⟩
        · exact ⟨3, .inr (.inr ⟨rfl, by omega⟩)⟩
    have h1 := ringList3 key c hk m hm
    have h2 := refList3 key c hk m hm
    have h3 := ringList3 key 1 hk 1 (.inl ⟨rfl, by decide⟩)
    obtain ⟨x, y, z, e, -, -, -⟩ := srt3_is (keyC key)
    rw [e] at h1 h2 h3
    obtain ⟨n, rfl⟩ : ∃ n, m = n + 1 := ⟨m - 1, by omega⟩
    exact ⟨x, List.take n [y, z], by simp; omega, h1, h2, h3⟩
theorem len3 (R : List Nat) (h : R.length ≤ 2) : R = [] ∨ (∃ y, R = [y]) ∨ ∃ y z, R = [y, z] := by
  match R, h with
  | [], _ => exact .inl rfl
  | [y], _ => exact .inr (.inl ⟨y, rfl⟩)
  | [y, z], _ => exact .inr (.inr ⟨y, z, rfl⟩)
  | _ :: _ :: _ :: _, h => simp at h
/-- Where a number stands first. -/
def fstAt (n : Int) : List Nat → Int → Int
  | [], _ => -1
  | x :: l, i => if (x : Int) = n then i else fstAt n l (i + 1)
theorem index_nil (n : Int) : PCalls Try.prog F_slices_Index_int [.nils, .int .i64 n] (.int .i64 (-1)) := by
  have w1 : IntKind.i64.wrap ((0 : Int) + 1) = 1 := by decide
  have w2 : IntKind.i64.wrap ((1 : Int) + 1) = 2 := by decide
  have w3 : IntKind.i64.wrap ((2 : Int) + 1) = 3 := by decide
  have w0 : IntKind.i64.wrap ((0 : Int) - 1) = -1 := by decide
  refine calls_slices_Index_int (walk0 300 trivial (fun A eA => ?_))
  simp (disch := first | omega | (simp only [avs_len, List.length_cons, List.length_append, List.length_nil, List.length_take, List.length_drop, List.length_map]; omega) | (simp only [cells, scal1, allSz, List.length_cons, List.length_nil, List.length_append, List.length_map, List.all_cons, List.all_nil, avs_len, beq_self_eq_true, Bool.and_self, and_self, or_true, true_or, reduceCtorEq, *]; done) | fail) only [c_slices_Index_int, wl_slices_Index_int_0, s_slices_Index_int_0, c_slices_Index_int_l0, wb_slices_Index_int_0, c_slices_Index_int_k0, go_sem, Nat.reduceAdd, Nat.reduceSub, Nat.reduceMul, Nat.reduceLT, Nat.reduceLeDiff, Int.reduceToNat, Nat.reduceEqDiff, Nat.reduceBEq, ↓reduceIte, reduceCtorEq, eA, scal1, cells, List.all_cons, List.all_nil, w0, w1, w2, w3, List.map_cons, List.map_nil]
  repeat ((first | refine roundO 300 trivial trivial (fun A eA => ?_) | refine call0 300 trivial trivial (by first | fail) (.inl rfl) (fun A eA => ?_)); simp (disch := first | omega | (simp only [avs_len, List.length_cons, List.length_append, List.length_nil, List.length_take, List.length_drop, List.length_map]; omega) | (simp only [cells, scal1, allSz, List.length_cons, List.length_nil, List.length_append, List.length_map, List.all_cons, List.all_nil, avs_len, beq_self_eq_true, Bool.and_self, and_self, or_true, true_or, reduceCtorEq, *]; done) | fail) only [c_slices_Index_int, wl_slices_Index_int_0, s_slices_Index_int_0, c_slices_Index_int_l0, wb_slices_Index_int_0, c_slices_Index_int_k0, go_sem, Nat.reduceAdd, Nat.reduceSub, Nat.reduceMul, Nat.reduceLT, Nat.reduceLeDiff, Int.reduceToNat, Nat.reduceEqDiff, Nat.reduceBEq, ↓reduceIte, reduceCtorEq, eA, scal1, cells, List.all_cons, List.all_nil, w0, w1, w2, w3, List.map_cons, List.map_nil])
  exact doneG rfl
theorem index_some (x : Nat) (R : List Nat) (hR : R.length ≤ 2) (n : Int) : PCalls Try.prog F_slices_Index_int [.fz 1 (ri x :: R.map ri) none, .int .i64 n] (.int .i64 (fstAt n (x :: R) 0)) := by
  have w1 : IntKind.i64.wrap ((0 : Int) + 1) = 1 := by decide
  have w2 : IntKind.i64.wrap ((1 : Int) + 1) = 2 := by decide
  have w3 : IntKind.i64.wrap ((2 : Int) + 1) = 3 := by decide
  have w0 : IntKind.i64.wrap ((0 : Int) - 1) = -1 := by decide
  by_cases e1 : (x : Int) = n
  · have e : fstAt n (x :: R) 0 = 0 := by simp only [fstAt, e1, if_true]
    rw [e]
    have hl : (0 : Int) < ((R.length + 1 : Nat) : Int) := by omega
    refine calls_slices_Index_int (walk0 300 trivial (fun A eA => ?_))
    simp (disch := first | omega | (simp only [avs_len, List.length_cons, List.length_append, List.length_nil, List.length_take, List.length_drop, List.length_map]; omega) | (simp only [cells, scal1, allSz, List.length_cons, List.length_nil, List.length_append, List.length_map, List.all_cons, List.all_nil, avs_len, beq_self_eq_true, Bool.and_self, and_self, or_true, true_or, reduceCtorEq, *]; done) | fail) only [c_slices_Index_int, wl_slices_Index_int_0, s_slices_Index_int_0, c_slices_Index_int_l0, wb_slices_Index_int_0, c_slices_Index_int_k0, go_sem, Nat.reduceAdd, Nat.reduceSub, Nat.reduceMul, Nat.reduceLT, Nat.reduceLeDiff, Int.reduceToNat, Nat.reduceEqDiff, Nat.reduceBEq, ↓reduceIte, reduceCtorEq, eA, scal1, cells, List.all_cons, List.all_nil, w0, w1, w2, w3, List.map_cons, List.map_nil, List.length_map]
    repeat ((first | refine roundO 300 trivial trivial (fun A eA => ?_) | refine call0 300 trivial trivial (by first | fail) (.inl rfl) (fun A eA => ?_)); simp (disch := first | omega | (simp only [avs_len, List.length_cons, List.length_append, List.length_nil, List.length_take, List.length_drop, List.length_map]; omega) | (simp only [cells, scal1, allSz, List.length_cons, List.length_nil, List.length_append, List.length_map, List.all_cons, List.all_nil, avs_len, beq_self_eq_true, Bool.and_self, and_self, or_true, true_or, reduceCtorEq, *]; done) | fail) only [c_slices_Index_int, wl_slices_Index_int_0, s_slices_Index_int_0, c_slices_Index_int_l0, wb_slices_Index_int_0, c_slices_Index_int_k0, go_sem, Nat.reduceAdd, Nat.reduceSub, Nat.reduceMul, Nat.reduceLT, Nat.reduceLeDiff, Int.reduceToNat, Nat.reduceEqDiff, Nat.reduceBEq, ↓reduceIte, reduceCtorEq, eA, scal1, cells, List.all_cons, List.all_nil, w0, w1, w2, w3, List.map_cons, List.map_nil, List.length_map])
    exact doneG rfl
  rcases len3 R hR with rfl | ⟨y, rfl⟩ | ⟨y, z, rfl⟩
  · have e : fstAt n [x] 0 = -1 := by simp only [fstAt, e1, if_false]
    rw [e]
    refine calls_slices_Index_int (walk0 300 trivial (fun A eA => ?_))
    simp (disch := first | omega | (simp only [avs_len, List.length_cons, List.length_append, List.length_nil, List.length_take, List.length_drop, List.length_map]; omega) | (simp only [cells, scal1, allSz, List.length_cons, List.length_nil, List.length_append, List.length_map, List.all_cons, List.all_nil, avs_len, beq_self_eq_true, Bool.and_self, and_self, or_true, true_or, reduceCtorEq, *]; done) | fail) only [c_slices_Index_int, wl_slices_Index_int_0, s_slices_Index_int_0, c_slices_Index_int_l0, wb_slices_Index_int_0, c_slices_Index_int_k0, go_sem, Nat.reduceAdd, Nat.reduceSub, Nat.reduceMul, Nat.reduceLT, Nat.reduceLeDiff, Int.reduceToNat, Nat.reduceEqDiff, Nat.reduceBEq, ↓reduceIte, reduceCtorEq, eA, scal1, cells, List.all_cons, List.all_nil, w0, w1, w2, w3, List.map_cons, List.map_nil]
    repeat ((first | refine roundO 300 trivial trivial (fun A eA => ?_) | refine call0 300 trivial trivial (by first | fail) (.inl rfl) (fun A eA => ?_)); simp (disch := first | omega | (simp only [avs_len, List.length_cons, List.length_append, List.length_nil, List.length_take, List.length_drop, List.length_map]; omega) | (simp only [cells, scal1, allSz, List.length_cons, List.length_nil, List.length_append, List.length_map, List.all_cons, List.all_nil, avs_len, beq_self_eq_true, Bool.and_self, and_self, or_true, true_or, reduceCtorEq, *]; done) | fail) only [c_slices_Index_int, wl_slices_Index_int_0, s_slices_Index_int_0, c_slices_Index_int_l0, wb_slices_Index_int_0, c_slices_Index_int_k0, go_sem, Nat.reduceAdd, Nat.reduceSub, Nat.reduceMul, Nat.reduceLT, Nat.reduceLeDiff, Int.reduceToNat, Nat.reduceEqDiff, Nat.reduceBEq, ↓reduceIte, reduceCtorEq, eA, scal1, cells, List.all_cons, List.all_nil, w0, w1, w2, w3, List.map_cons, List.map_nil])
    exact doneG rfl
  · by_cases e2 : (y : Int) = n
    · have e : fstAt n [x, y] 0 = 1 := by simp only [fstAt, e1, e2, if_false, if_true]; rfl
      rw [e]
      refine calls_slices_Index_int (walk0 300 trivial (fun A eA => ?_))
      simp (disch := first | omega | (simp only [avs_len, List.length_cons, List.length_append, List.length_nil, List.length_take, List.length_drop, List.length_map]; omega) | (simp only [cells, scal1, allSz, List.length_cons, List.length_nil, List.length_append, List.length_map, List.all_cons, List.all_nil, avs_len, beq_self_eq_true, Bool.and_self, and_self, or_true, true_or, reduceCtorEq, *]; done) | fail) only [c_slices_Index_int, wl_slices_Index_int_0, s_slices_Index_int_0, c_slices_Index_int_l0, wb_slices_Index_int_0, c_slices_Index_int_k0, go_sem, Nat.reduceAdd, Nat.reduceSub, Nat.reduceMul, Nat.reduceLT, Nat.reduceLeDiff, Int.reduceToNat, Nat.reduceEqDiff, Nat.reduceBEq, ↓reduceIte, reduceCtorEq, eA, scal1, cells, List.all_cons, List.all_nil, w0, w1, w2, w3, List.map_cons, List.map_nil]
      repeat ((first | refine roundO 300 trivial trivial (fun A eA => ?_) | refine call0 300 trivial trivial (by first | fail) (.inl rfl) (fun A eA => ?_)); simp (disch := first | omega | (simp only [avs_len, List.length_cons, List.length_append, List.length_nil, List.length_take, List.length_drop, List.length_map]; omega) | (simp only [cells, scal1, allSz, List.length_cons, List.length_nil, List.length_append, List.length_map, List.all_cons, List.all_nil, avs_len, beq_self_eq_true, Bool.and_self, and_self, or_true, true_or, reduceCtorEq, *]; done) | fail) only [c_slices_Index_int, wl_slices_Index_int_0, s_slices_Index_int_0, c_slices_Index_int_l0, wb_slices_Index_int_0, c_slices_Index_int_k0, go_sem, Nat.reduceAdd, Nat.reduceSub, Nat.reduceMul, Nat.reduceLT, Nat.reduceLeDiff, Int.reduceToNat, Nat.reduceEqDiff, Nat.reduceBEq, ↓reduceIte, reduceCtorEq, eA, scal1, cells, List.all_cons, List.all_nil, w0, w1, w2, w3, List.map_cons, List.map_nil])
      exact doneG rfl
    · have e : fstAt n [x, y] 0 = -1 := by simp only [fstAt, e1, e2, if_false]
      rw [e]
      refine calls_slices_Index_int (walk0 300 trivial (fun A eA => ?_))
      simp (disch := first | omega | (simp only [avs_len, List.length_cons, List.length_append, List.length_nil, List.length_take, List.length_drop, List.length_map]; omega) | (simp only [cells, scal1, allSz, List.length_cons, List.length_nil, List.length_append, List.length_map, List.all_cons, List.all_nil, avs_len, beq_self_eq_true, Bool.and_self, and_self, or_true, true_or, reduceCtorEq, *]; done) | fail) only [c_slices_Index_int, wl_slices_Index_int_0, s_slices_Index_int_0, c_slices_Index_int_l0, wb_slices_Index_int_0, c_slices_Index_int_k0, go_sem, Nat.reduceAdd, Nat.reduceSub, Nat.reduceMul, Nat.reduceLT, Nat.reduceLeDiff, Int.reduceToNat, Nat.reduceEqDiff, Nat.reduceBEq, ↓reduceIte, reduceCtorEq, eA, scal1, cells, List.all_cons, List.all_nil, w0, w1, w2, w3, List.map_cons, List.map_nil]
      repeat ((first | refine roundO 300 trivial trivial (fun A eA => ?_) | refine call0 300 trivial trivial (by first | fail) (.inl rfl) (fun A eA => ?_)); simp (disch := first | omega | (simp only [avs_len, List.length_cons, List.length_append, List.length_nil, List.length_take, List.length_drop, List.length_map]; omega) | (simp only [cells, scal1, allSz, List.length_cons, List.length_nil, List.length_append, List.length_map, List.all_cons, List.all_nil, avs_len, beq_self_eq_true, Bool.and_self, and_self, or_true, true_or, reduceCtorEq, *]; done) | fail) only [c_slices_Index_int, wl_slices_Index_int_0, s_slices_Index_int_0, c_slices_Index_int_l0, wb_slices_Index_int_0, c_slices_Index_int_k0, go_sem, Nat.reduceAdd, Nat.reduceSub, Nat.reduceMul, Nat.reduceLT, Nat.reduceLeDiff, Int.reduceToNat, Nat.reduceEqDiff, Nat.reduceBEq, ↓reduceIte, reduceCtorEq, eA, scal1, cells, List.all_cons, List.all_nil, w0, w1, w2, w3, List.map_cons, List.map_nil])
      exact doneG rfl
  · by_cases e2 : (y : Int) = n
    · have e : fstAt n [x, y, z] 0 = 1 := by simp only [fstAt, e1, e2, if_false, if_true]; rfl
      rw [e]
      refine calls_slices_Index_int (walk0 300 trivial (fun A eA => ?_))
      simp (disch := first | omega | (simp only [avs_len, List.length_cons, List.length_append, List.length_nil, List.length_take, List.length_drop, List.length_map]; omega) | (simp only [cells, scal1, allSz, List.length_cons, List.length_nil, List.length_append, List.length_map, List.all_cons, List.all_nil, avs_len, beq_self_eq_true, Bool.and_self, and_self, or_true, true_or, reduceCtorEq, *]; done) | fail) only [c_slices_Index_int, wl_slices_Index_int_0, s_slices_Index_int_0, c_slices_Index_int_l0, wb_slices_Index_int_0, c_slices_Index_int_k0, go_sem, Nat.reduceAdd, Nat.reduceSub, Nat.reduceMul, Nat.reduceLT, Nat.reduceLeDiff, Int.reduceToNat, Nat.reduceEqDiff, Nat.reduceBEq, ↓reduceIte, reduceCtorEq, eA, scal1, cells, List.all_cons, List.all_nil, w0, w1, w2, w3, List.map_cons, List.map_nil]
      repeat ((first | refine roundO 300 trivial trivial (fun A eA => ?_) | refine call0 300 trivial trivial (by first | fail) (.inl rfl) (fun A eA => ?_)); simp (disch := first | omega | (simp only [avs_len, List.length_cons, List.length_append, List.length_nil, List.length_take, List.length_drop, List.length_map]; omega) | (simp only [cells, scal1, allSz, List.length_cons, List.length_nil, List.length_append, List.length_map, List.all_cons, List.all_nil, avs_len, beq_self_eq_true, Bool.and_self, and_self, or_true, true_or, reduceCtorEq, *]; done) | fail) only [c_slices_Index_int, wl_slices_Index_int_0, s_slices_Index_int_0, c_slices_Index_int_l0, wb_slices_Index_int_0, c_slices_Index_int_k0, go_sem, Nat.reduceAdd, Nat.reduceSub, Nat.reduceMul, Nat.reduceLT, Nat.reduceLeDiff, Int.reduceToNat, Nat.reduceEqDiff, Nat.reduceBEq, ↓reduceIte, reduceCtorEq, eA, scal1, cells, List.all_cons, List.all_nil, w0, w1, w2, w3, List.map_cons, List.map_nil])
      exact doneG rfl
    · by_cases e3 : (z : Int) = n
      · have e : fstAt n [x, y, z] 0 = 2 := by simp only [fstAt, e1, e2, e3, if_false, if_true]; rfl
        rw [e]
        refine calls_slices_Index_int (walk0 300 trivial (fun A eA => ?_))
        simp (disch := first | omega | (simp only [avs_len, List.length_cons, List.length_append, List.length_nil, List.length_take, List.length_drop, List.length_map]; omega) | (simp only [cells, scal1, allSz, List.length_cons, List.length_nil, List.length_append, List.length_map, List.all_cons, List.all_nil, avs_len, beq_self_eq_true, Bool.and_self, and_self, or_true, true_or, reduceCtorEq, *]; done) | fail) only [c_slices_Index_int, wl_slices_Index_int_0, s_slices_Index_int_0, c_slices_Index_int_l0, wb_slices_Index_int_0, c_slices_Index_int_k0, go_sem, Nat.reduceAdd, Nat.reduceSub, Nat.reduceMul, Nat.reduceLT, Nat.reduceLeDiff, Int.reduceToNat, Nat.reduceEqDiff, Nat.reduceBEq, ↓reduceIte, reduceCtorEq, eA, scal1, cells, List.all_cons, List.all_nil, w0, w1, w2, w3, List.map_cons, List.map_nil]
        repeat ((first | refine roundO 300 trivial trivial (fun A eA => ?_) | refine call0 300 trivial trivial (by first | fail) (.inl rfl) (fun A eA => ?_)); simp (disch := first | omega | (simp only [avs_len, List.length_cons, List.length_append, List.length_nil, List.length_take, List.length_drop, List.length_map]; omega) | (simp only [cells, scal1, allSz, List.length_cons, List.length_nil, List.length_append, List.length_map, List.all_cons, List.all_nil, avs_len, beq_self_eq_true, Bool.and_self, and_self, or_true, true_or, reduceCtorEq, *]; done) | fail) only [c_slices_Index_int, wl_slices_Index_int_0, s_slices_Index_int_0, c_slices_Index_int_l0, wb_slices_Index_int_0, c_slices_Index_int_k0, go_sem, Nat.reduceAdd, Nat.reduceSub, Nat.reduceMul, Nat.reduceLT, Nat.reduceLeDiff, Int.reduceToNat, Nat.reduceEqDiff, Nat.reduceBEq, ↓reduceIte, reduceCtorEq, eA, scal1, cells, List.all_cons, List.all_nil, w0, w1, w2, w3, List.map_cons, List.map_nil])
        exact doneG rfl
      · have e : fstAt n [x, y, z] 0 = -1 := by simp only [fstAt, e1, e2, e3, if_false]
        rw [e]
        refine calls_slices_Index_int (walk0 300 trivial (fun A eA => ?_))
        simp (disch := first | omega | (simp only [avs_len, List.length_cons, List.length_append, List.length_nil, List.length_take, List.length_drop, List.length_map]; omega) | (simp only [cells, scal1, allSz, List.length_cons, List.length_nil, List.length_append, List.length_map, List.all_cons, List.all_nil, avs_len, beq_self_eq_true, Bool.and_self, and_self, or_true, true_or, reduceCtorEq, *]; done) | fail) only [c_slices_Index_int, wl_slices_Index_int_0, s_slices_Index_int_0, c_slices_Index_int_l0, wb_slices_Index_int_0, c_slices_Index_int_k0, go_sem, Nat.reduceAdd, Nat.reduceSub, Nat.reduceMul, Nat.reduceLT, Nat.reduceLeDiff, Int.reduceToNat, Nat.reduceEqDiff, Nat.reduceBEq, ↓reduceIte, reduceCtorEq, eA, scal1, cells, List.all_cons, List.all_nil, w0, w1, w2, w3, List.map_cons, List.map_nil]
        repeat ((first | refine roundO 300 trivial trivial (fun A eA => ?_) | refine call0 300 trivial trivial (by first | fail) (.inl rfl) (fun A eA => ?_)); simp (disch := first | omega | (simp only [avs_len, List.length_cons, List.length_append, List.length_nil, List.length_take, List.length_drop, List.length_map]; omega) | (simp only [cells, scal1, allSz, List.length_cons, List.length_nil, List.length_append, List.length_map, List.all_cons, List.all_nil, avs_len, beq_self_eq_true, Bool.and_self, and_self, or_true, true_or, reduceCtorEq, *]; done) | fail) only [c_slices_Index_int, wl_slices_Index_int_0, s_slices_Index_int_0, c_slices_Index_int_l0, wb_slices_Index_int_0, c_slices_Index_int_k0, go_sem, Nat.reduceAdd, Nat.reduceSub, Nat.reduceMul, Nat.reduceLT, Nat.reduceLeDiff, Int.reduceToNat, Nat.reduceEqDiff, Nat.reduceBEq, ↓reduceIte, reduceCtorEq, eA, scal1, cells, List.all_cons, List.all_nil, w0, w1, w2, w3, List.map_cons, List.map_nil])
        exact doneG rfl
theorem fstAt_neg (n : Int) : ∀ (l : List Nat) (i : Int), 0 ≤ i → (0 ≤ fstAt n l i ↔ ∃ x ∈ l, (x : Int) = n)
  | [], i, _ => by simp [fstAt]
  | x :: l, i, hi => by
    unfold fstAt
    split
    · rename_i h; simp [h, hi]
    · rename_i h; rw [fstAt_neg n l (i + 1) (by omega)]; simp [h]
def hasN (n : Int) (l : List Nat) : Bool := decide (0 ≤ fstAt n l 0)
theorem contains_nil (n : Int) : PCalls Try.prog F_slices_Contains_int [.nils, .int .i64 n] (.bool false) := by
  have w1 : IntKind.i64.wrap ((0 : Int) + 1) = 1 := by decide
  have w2 : IntKind.i64.wrap ((1 : Int) + 1) = 2 := by decide
  have w3 : IntKind.i64.wrap ((2 : Int) + 1) = 3 := by decide
  have w0 : IntKind.i64.wrap ((0 : Int) - 1) = -1 := by decide
  have i1 := index_nil n
  refine calls_slices_Contains_int (walk0 300 trivial (fun A eA => ?_))
  simp (disch := first | omega | (simp only [avs_len, List.length_cons, List.length_append, List.length_nil, List.length_take, List.length_drop, List.length_map]; omega) | (simp only [cells, scal1, allSz, List.length_cons, List.length_nil, List.length_append, List.length_map, List.all_cons, List.all_nil, avs_len, beq_self_eq_true, Bool.and_self, and_self, or_true, true_or, reduceCtorEq, *]; done) | fail) only [c_slices_Contains_int, go_sem, Nat.reduceAdd, Nat.reduceSub, Nat.reduceMul, Nat.reduceLT, Nat.reduceLeDiff, Int.reduceToNat, Nat.reduceEqDiff, Nat.reduceBEq, ↓reduceIte, reduceCtorEq, eA, scal1, cells, List.all_cons, List.all_nil, w0, w1, w2, w3, List.map_cons, List.map_nil]
  repeat ((first | refine roundO 300 trivial trivial (fun A eA => ?_) | refine call0 300 trivial trivial (by first | exact i1) (.inl rfl) (fun A eA => ?_)); simp (disch := first | omega | (simp only [avs_len, List.length_cons, List.length_append, List.length_nil, List.length_take, List.length_drop, List.length_map]; omega) | (simp only [cells, scal1, allSz, List.length_cons, List.length_nil, List.length_append, List.length_map, List.all_cons, List.all_nil, avs_len, beq_self_eq_true, Bool.and_self, and_self, or_true, true_or, reduceCtorEq, *]; done) | fail) only [c_slices_Contains_int, go_sem, Nat.reduceAdd, Nat.reduceSub, Nat.reduceMul, Nat.reduceLT, Nat.reduceLeDiff, Int.reduceToNat, Nat.reduceEqDiff, Nat.reduceBEq, ↓reduceIte, reduceCtorEq, eA, scal1, cells, List.all_cons, List.all_nil, w0, w1, w2, w3, List.map_cons, List.map_nil])
  exact doneG rfl
theorem contains_some (x : Nat) (R : List Nat) (hR : R.length ≤ 2) (n : Int) : PCalls Try.prog F_slices_Contains_int [.fz 1 (ri x :: R.map ri) none, .int .i64 n] (.bool (hasN n (x :: R))) := by
  have w1 : IntKind.i64.wrap ((0 : Int) + 1) = 1 := by decide
  have w2 : IntKind.i64.wrap ((1 : Int) + 1) = 2 := by decide
  have w3 : IntKind.i64.wrap ((2 : Int) + 1) = 3 := by decide
  have w0 : IntKind.i64.wrap ((0 : Int) - 1) = -1 := by decide
  have i1 := index_some x R hR n
  unfold hasN
  refine calls_slices_Contains_int (walk0 300 trivial (fun A eA => ?_))
  simp (disch := first | omega | (simp only [avs_len, List.length_cons, List.length_append, List.length_nil, List.length_take, List.length_drop, List.length_map]; omega) | (simp only [cells, scal1, allSz, List.length_cons, List.length_nil, List.length_append, List.length_map, List.all_cons, List.all_nil, avs_len, beq_self_eq_true, Bool.and_self, and_self, or_true, true_or, reduceCtorEq, *]; done) | fail) only [c_slices_Contains_int, go_sem, Nat.reduceAdd, Nat.reduceSub, Nat.reduceMul, Nat.reduceLT, Nat.reduceLeDiff, Int.reduceToNat, Nat.reduceEqDiff, Nat.reduceBEq, ↓reduceIte, reduceCtorEq, eA, scal1, cells, List.all_cons, List.all_nil, w0, w1, w2, w3, List.map_cons, List.map_nil]
  repeat ((first | refine roundO 300 trivial trivial (fun A eA => ?_) | refine call0 300 trivial trivial (by first | exact i1) (.inl rfl) (fun A eA => ?_)); simp (disch := first | omega | (simp only [avs_len, List.length_cons, List.length_append, List.length_nil, List.length_take, List.length_drop, List.length_map]; omega) | (simp only [cells, scal1, allSz, List.length_cons, List.length_nil, List.length_append, List.length_map, List.all_cons, List.all_nil, avs_len, beq_self_eq_true, Bool.and_self, and_self, or_true, true_or, reduceCtorEq, *]; done) | fail) only [c_slices_Contains_int, go_sem, Nat.reduceAdd, Nat.reduceSub, Nat.reduceMul, Nat.reduceLT, Nat.reduceLeDiff, Int.reduceToNat, Nat.reduceEqDiff, Nat.reduceBEq, ↓reduceIte, reduceCtorEq, eA, scal1, cells, List.all_cons, List.all_nil, w0, w1, w2, w3, List.map_cons, List.map_nil])
  exact doneG rfl
end Go.Proofs.Ytmokhopjnjecbab
/- The law RingLists, walked. -/
-- short
-- fuel 300
namespace Go.Proofs.Ytmokhopjnjecbab
open Go.Ev
set_option linter.unusedVariables false
set_option linter.unusedSimpArgs false
set_option maxRecDepth 100000
set_option maxHeartbeats 6400000
theorem awake14_calls : PCalls Try.prog F_law14_awake [] (.bool true) := by
  have c1 := ringList1 ⟨#[97]⟩ 1 (by decide)
  have w1 : IntKind.i64.wrap ((0 : Int) + 1) = 1 := by decide
  have w2 : IntKind.i64.wrap ((1 : Int) + 1) = 2 := by decide
  have w3 : IntKind.i64.wrap ((2 : Int) + 1) = 3 := by decide
  have w0 : IntKind.i64.wrap ((0 : Int) - 1) = -1 := by decide
  refine calls_law14_awake (walk0 300 trivial (fun A eA => ?_))
  simp (disch := first | omega | (simp only [avs_len, List.length_cons, List.length_append, List.length_nil, List.length_take, List.length_drop, List.length_map]; omega) | (simp only [cells, scal1, allSz, List.length_cons, List.length_nil, List.length_append, List.length_map, List.all_cons, List.all_nil, avs_len, beq_self_eq_true, Bool.and_self, and_self, or_true, true_or, reduceCtorEq, *]; done) | fail) only [c_law14_awake, go_sem, Nat.reduceAdd, Nat.reduceSub, Nat.reduceMul, Nat.reduceLT, Nat.reduceLeDiff, Int.reduceToNat, Nat.reduceEqDiff, Nat.reduceBEq, ↓reduceIte, reduceCtorEq, eA, scal1, cells, List.all_cons, List.all_nil, w0, w1, w2, w3, List.map_cons, List.map_nil]
  repeat ((first | refine roundO 300 trivial trivial (fun A eA => ?_) | refine call0 300 trivial trivial (by first | exact c1) (.inl rfl) (fun A eA => ?_)); simp (disch := first | omega | (simp only [avs_len, List.length_cons, List.length_append, List.length_nil, List.length_take, List.length_drop, List.length_map]; omega) | (simp only [cells, scal1, allSz, List.length_cons, List.length_nil, List.length_append, List.length_map, List.all_cons, List.all_nil, avs_len, beq_self_eq_true, Bool.and_self, and_self, or_true, true_or, reduceCtorEq, *]; done) | fail) only [c_law14_awake, go_sem, Nat.reduceAdd, Nat.reduceSub, Nat.reduceMul, Nat.reduceLT, Nat.reduceLeDiff, Int.reduceToNat, Nat.reduceEqDiff, Nat.reduceBEq, ↓reduceIte, reduceCtorEq, eA, scal1, cells, List.all_cons, List.all_nil, w0, w1, w2, w3, List.map_cons, List.map_nil])
  exact doneG rfl
theorem lists_none (key : ByteArray) (s c n : Int) (hk : key.size ≤ 1000) (h1 : PCalls Try.prog F_ring_List [.str key, .int .i64 s, .int .i64 c] .nils) (h2 : PCalls Try.prog F_ref12_List [.str key, .int .i64 s, .int .i64 c] .nils) (h3 : PCalls Try.prog F_ring_List [.str key, .int .i64 s, .int .i64 1] .nils) :
    PCalls Try.prog F_law14_RingLists [.str key, .int .i64 s, .int .i64 c, .int .i64 n] (.bool true) := by
  have w1 : IntKind.i64.wrap ((0 : Int) + 1) = 1 := by decide
  have w2 : IntKind.i64.wrap ((1 : Int) + 1) = 2 := by decide
  have w3 : IntKind.i64.wrap ((2 : Int) + 1) = 3 := by decide
  have w0 : IntKind.i64.wrap ((0 : Int) - 1) = -1 := by decide
  have k1 : PCalls Try.prog F_ring_Keeps [.str key, .int .i64 s, .int .i64 c, .int .i64 n] (.bool false) := by
    have i1 := contains_nil n
    refine calls_ring_Keeps (walk0 300 trivial (fun A eA => ?_))
    simp (disch := first | omega | (simp only [avs_len, List.length_cons, List.length_append, List.length_nil, List.length_take, List.length_drop, List.length_map]; omega) | (simp only [cells, scal1, allSz, List.length_cons, List.length_nil, List.length_append, List.length_map, List.all_cons, List.all_nil, avs_len, beq_self_eq_true, Bool.and_self, and_self, or_true, true_or, reduceCtorEq, *]; done) | fail) only [c_ring_Keeps, go_sem, Nat.reduceAdd, Nat.reduceSub, Nat.reduceMul, Nat.reduceLT, Nat.reduceLeDiff, Int.reduceToNat, Nat.reduceEqDiff, Nat.reduceBEq, ↓reduceIte, reduceCtorEq, eA, scal1, cells, List.all_cons, List.all_nil, w0, w1, w2, w3, List.map_cons, List.map_nil]
    repeat ((first | refine roundO 300 trivial trivial (fun A eA => ?_) | refine call0 300 trivial trivial (by first | exact h1 | exact i1) (.inl rfl) (fun A eA => ?_)); simp (disch := first | omega | (simp only [avs_len, List.length_cons, List.length_append, List.length_nil, List.length_take, List.length_drop, List.length_map]; omega) | (simp only [cells, scal1, allSz, List.length_cons, List.length_nil, List.length_append, List.length_map, List.all_cons, List.all_nil, avs_len, beq_self_eq_true, Bool.and_self, and_self, or_true, true_or, reduceCtorEq, *]; done) | fail) only [c_ring_Keeps, go_sem, Nat.reduceAdd, Nat.reduceSub, Nat.reduceMul, Nat.reduceLT, Nat.reduceLeDiff, Int.reduceToNat, Nat.reduceEqDiff, Nat.reduceBEq, ↓reduceIte, reduceCtorEq, eA, scal1, cells, List.all_cons, List.all_nil, w0, w1, w2, w3, List.map_cons, List.map_nil])
    exact doneG rfl
  have k2 : PCalls Try.prog F_ring_First [.str key, .int .i64 s] (.int .i64 (-1)) := by
    refine calls_ring_First (walk0 300 trivial (fun A eA => ?_))
    simp (disch := first | omega | (simp only [avs_len, List.length_cons, List.length_append, List.length_nil, List.length_take, List.length_drop, List.length_map]; omega) | (simp only [cells, scal1, allSz, List.length_cons, List.length_nil, List.length_append, List.length_map, List.all_cons, List.all_nil, avs_len, beq_self_eq_true, Bool.and_self, and_self, or_true, true_or, reduceCtorEq, *]; done) | fail) only [c_ring_First, go_sem, Nat.reduceAdd, Nat.reduceSub, Nat.reduceMul, Nat.reduceLT, Nat.reduceLeDiff, Int.reduceToNat, Nat.reduceEqDiff, Nat.reduceBEq, ↓reduceIte, reduceCtorEq, eA, scal1, cells, List.all_cons, List.all_nil, w0, w1, w2, w3, List.map_cons, List.map_nil]
    repeat ((first | refine roundO 300 trivial trivial (fun A eA => ?_) | refine call0 300 trivial trivial (by first | exact h3) (.inl rfl) (fun A eA => ?_)); simp (disch := first | omega | (simp only [avs_len, List.length_cons, List.length_append, List.length_nil, List.length_take, List.length_drop, List.length_map]; omega) | (simp only [cells, scal1, allSz, List.length_cons, List.length_nil, List.length_append, List.length_map, List.all_cons, List.all_nil, avs_len, beq_self_eq_true, Bool.and_self, and_self, or_true, true_or, reduceCtorEq, *]; done) | fail) only [c_ring_First, go_sem, Nat.reduceAdd, Nat.reduceSub, Nat.reduceMul, Nat.reduceLT, Nat.reduceLeDiff, Int.reduceToNat, Nat.reduceEqDiff, Nat.reduceBEq, ↓reduceIte, reduceCtorEq, eA, scal1, cells, List.all_cons, List.all_nil, w0, w1, w2, w3, List.map_cons, List.map_nil])
    exact doneG rfl
  have c0 := awake14_calls
  refine calls_law14_RingLists (walk0 300 trivial (fun A eA => ?_))
  simp (disch := first | omega | (simp only [avs_len, List.length_cons, List.length_append, List.length_nil, List.length_take, List.length_drop, List.length_map]; omega) | (simp only [cells, scal1, allSz, List.length_cons, List.length_nil, List.length_append, List.length_map, List.all_cons, List.all_nil, avs_len, beq_self_eq_true, Bool.and_self, and_self, or_true, true_or, reduceCtorEq, *]; done) | fail) only [c_law14_RingLists, wl_law14_RingLists_0, s_law14_RingLists_0, c_law14_RingLists_l0, wb_law14_RingLists_0, c_law14_RingLists_k0, go_sem, Nat.reduceAdd, Nat.reduceSub, Nat.reduceMul, Nat.reduceLT, Nat.reduceLeDiff, Int.reduceToNat, Nat.reduceEqDiff, Nat.reduceBEq, ↓reduceIte, reduceCtorEq, eA, scal1, cells, List.all_cons, List.all_nil, w0, w1, w2, w3, List.map_cons, List.map_nil]
  repeat ((first | refine roundO 300 trivial trivial (fun A eA => ?_) | refine call0 300 trivial trivial (by first | exact c0 | exact h1 | exact h2 | exact k1 | exact k2) (.inl rfl) (fun A eA => ?_)); simp (disch := first | omega | (simp only [avs_len, List.length_cons, List.length_append, List.length_nil, List.length_take, List.length_drop, List.length_map]; omega) | (simp only [cells, scal1, allSz, List.length_cons, List.length_nil, List.length_append, List.length_map, List.all_cons, List.all_nil, avs_len, beq_self_eq_true, Bool.and_self, and_self, or_true, true_or, reduceCtorEq, *]; done) | fail) only [c_law14_RingLists, wl_law14_RingLists_0, s_law14_RingLists_0, c_law14_RingLists_l0, wb_law14_RingLists_0, c_law14_RingLists_k0, go_sem, Nat.reduceAdd, Nat.reduceSub, Nat.reduceMul, Nat.reduceLT, Nat.reduceLeDiff, Int.reduceToNat, Nat.reduceEqDiff, Nat.reduceBEq, ↓reduceIte, reduceCtorEq, eA, scal1, cells, List.all_cons, List.all_nil, w0, w1, w2, w3, List.map_cons, List.map_nil])
  exact doneG rfl
theorem lists_some (key : ByteArray) (s c n : Int) (hk : key.size ≤ 1000) (x : Nat) (R : List Nat) (hR : R.length ≤ 2) (h1 : PCalls Try.prog F_ring_List [.str key, .int .i64 s, .int .i64 c] (.fz 1 (ri x :: R.map ri) none)) (h2 : PCalls Try.prog F_ref12_List [.str key, .int .i64 s, .int .i64 c] (.fz 1 (ri x :: R.map ri) none)) (h3 : PCalls Try.prog F_ring_List [.str key, .int .i64 s, .int .i64 1] (.fz 1 [ri x] none)) :
    PCalls Try.prog F_law14_RingLists [.str key, .int .i64 s, .int .i64 c, .int .i64 n] (.bool true) := by
  have w1 : IntKind.i64.wrap ((0 : Int) + 1) = 1 := by decide
  have w2 : IntKind.i64.wrap ((1 : Int) + 1) = 2 := by decide
  have w3 : IntKind.i64.wrap ((2 : Int) + 1) = 3 := by decide
  have w0 : IntKind.i64.wrap ((0 : Int) - 1) = -1 := by decide
  have k1 : PCalls Try.prog F_ring_Keeps [.str key, .int .i64 s, .int .i64 c, .int .i64 n] (.bool (hasN n (x :: R))) := by
    have i1 := contains_some x R hR n
    refine calls_ring_Keeps (walk0 300 trivial (fun A eA => ?_))
    simp (disch := first | omega | (simp only [avs_len, List.length_cons, List.length_append, List.length_nil, List.length_take, List.length_drop, List.length_map]; omega) | (simp only [cells, scal1, allSz, List.length_cons, List.length_nil, List.length_append, List.length_map, List.all_cons, List.all_nil, avs_len, beq_self_eq_true, Bool.and_self, and_self, or_true, true_or, reduceCtorEq, *]; done) | fail) only [c_ring_Keeps, go_sem, Nat.reduceAdd, Nat.reduceSub, Nat.reduceMul, Nat.reduceLT, Nat.reduceLeDiff, Int.reduceToNat, Nat.reduceEqDiff, Nat.reduceBEq, ↓reduceIte, reduceCtorEq, eA, scal1, cells, List.all_cons, List.all_nil, w0, w1, w2, w3, List.map_cons, List.map_nil]
    repeat ((first | refine roundO 300 trivial trivial (fun A eA => ?_) | refine call0 300 trivial trivial (by first | exact h1 | exact i1) (.inl rfl) (fun A eA => ?_)); simp (disch := first | omega | (simp only [avs_len, List.length_cons, List.length_append, List.length_nil, List.length_take, List.length_drop, List.length_map]; omega) | (simp only [cells, scal1, allSz, List.length_cons, List.length_nil, List.length_append, List.length_map, List.all_cons, List.all_nil, avs_len, beq_self_eq_true, Bool.and_self, and_self, or_true, true_or, reduceCtorEq, *]; done) | fail) only [c_ring_Keeps, go_sem, Nat.reduceAdd, Nat.reduceSub, Nat.reduceMul, Nat.reduceLT, Nat.reduceLeDiff, Int.reduceToNat, Nat.reduceEqDiff, Nat.reduceBEq, ↓reduceIte, reduceCtorEq, eA, scal1, cells, List.all_cons, List.all_nil, w0, w1, w2, w3, List.map_cons, List.map_nil])
    exact doneG rfl
  have k2 : PCalls Try.prog F_ring_First [.str key, .int .i64 s] (.int .i64 (x : Nat)) := by
    refine calls_ring_First (walk0 300 trivial (fun A eA => ?_))
    simp (disch := first | omega | (simp only [avs_len, List.length_cons, List.length_append, List.length_nil, List.length_take, List.length_drop, List.length_map]; omega) | (simp only [cells, scal1, allSz, List.length_cons, List.length_nil, List.length_append, List.length_map, List.all_cons, List.all_nil, avs_len, beq_self_eq_true, Bool.and_self, and_self, or_true, true_or, reduceCtorEq, *]; done) | fail) only [c_ring_First, go_sem, Nat.reduceAdd, Nat.reduceSub, Nat.reduceMul, Nat.reduceLT, Nat.reduceLeDiff, Int.reduceToNat, Nat.reduceEqDiff, Nat.reduceBEq, ↓reduceIte, reduceCtorEq, eA, scal1, cells, List.all_cons, List.all_nil, w0, w1, w2, w3, List.map_cons, List.map_nil]
    repeat ((first | refine roundO 300 trivial trivial (fun A eA => ?_) | refine call0 300 trivial trivial (by first | exact h3) (.inl rfl) (fun A eA => ?_)); simp (disch := first | omega | (simp only [avs_len, List.length_cons, List.length_append, List.length_nil, List.length_take, List.length_drop, List.length_map]; omega) | (simp only [cells, scal1, allSz, List.length_cons, List.length_nil, List.length_append, List.length_map, List.all_cons, List.all_nil, avs_len, beq_self_eq_true, Bool.and_self, and_self, or_true, true_or, reduceCtorEq, *]; done) | fail) only [c_ring_First, go_sem, Nat.reduceAdd, Nat.reduceSub, Nat.reduceMul, Nat.reduceLT, Nat.reduceLeDiff, Int.reduceToNat, Nat.reduceEqDiff, Nat.reduceBEq, ↓reduceIte, reduceCtorEq, eA, scal1, cells, List.all_cons, List.all_nil, w0, w1, w2, w3, List.map_cons, List.map_nil])
    exact doneG rfl
  have c0 := awake14_calls
  rcases len3 R hR with rfl | ⟨y, rfl⟩ | ⟨y, z, rfl⟩
  · by_cases e1 : (x : Int) = n
    · have e : hasN n [x] = true := by simp only [hasN, fstAt, e1, if_false, if_true]; decide
      rw [e] at k1
      refine calls_law14_RingLists (walk0 300 trivial (fun A eA => ?_))
      simp (disch := first | omega | (simp only [avs_len, List.length_cons, List.length_append, List.length_nil, List.length_take, List.length_drop, List.length_map]; omega) | (simp only [cells, scal1, allSz, List.length_cons, List.length_nil, List.length_append, List.length_map, List.all_cons, List.all_nil, avs_len, beq_self_eq_true, Bool.and_self, and_self, or_true, true_or, reduceCtorEq, *]; done) | fail) only [c_law14_RingLists, wl_law14_RingLists_0, s_law14_RingLists_0, c_law14_RingLists_l0, wb_law14_RingLists_0, c_law14_RingLists_k0, go_sem, Nat.reduceAdd, Nat.reduceSub, Nat.reduceMul, Nat.reduceLT, Nat.reduceLeDiff, Int.reduceToNat, Nat.reduceEqDiff, Nat.reduceBEq, ↓reduceIte, reduceCtorEq, eA, scal1, cells, List.all_cons, List.all_nil, w0, w1, w2, w3, List.map_cons, List.map_nil]
      repeat ((first | refine roundO 300 trivial trivial (fun A eA => ?_) | refine call0 300 trivial trivial (by first | exact c0 | exact h1 | exact h2 | exact k1 | exact k2) (.inl rfl) (fun A eA => ?_)); simp (disch := first | omega | (simp only [avs_len, List.length_cons, List.length_append, List.length_nil, List.length_take, List.length_drop, List.length_map]; omega) | (simp only [cells, scal1, allSz, List.length_cons, List.length_nil, List.length_append, List.length_map, List.all_cons, List.all_nil, avs_len, beq_self_eq_true, Bool.and_self, and_self, or_true, true_or, reduceCtorEq, *]; done) | fail) only [c_law14_RingLists, wl_law14_RingLists_0, s_law14_RingLists_0, c_law14_RingLists_l0, wb_law14_RingLists_0, c_law14_RingLists_k0, go_sem, Nat.reduceAdd, Nat.reduceSub, Nat.reduceMul, Nat.reduceLT, Nat.reduceLeDiff, Int.reduceToNat, Nat.reduceEqDiff, Nat.reduceBEq, ↓reduceIte, reduceCtorEq, eA, scal1, cells, List.all_cons, List.all_nil, w0, w1, w2, w3, List.map_cons, List.map_nil])
      exact doneG rfl
    · have e : hasN n [x] = false := by simp only [hasN, fstAt, e1, if_false, if_true]; decide
      rw [e] at k1
      refine calls_law14_RingLists (walk0 300 trivial (fun A eA => ?_))
      simp (disch := first | omega | (simp only [avs_len, List.length_cons, List.length_append, List.length_nil, List.length_take, List.length_drop, List.length_map]; omega) | (simp only [cells, scal1, allSz, List.length_cons, List.length_nil, List.length_append, List.length_map, List.all_cons, List.all_nil, avs_len, beq_self_eq_true, Bool.and_self, and_self, or_true, true_or, reduceCtorEq, *]; done) | fail) only [c_law14_RingLists, wl_law14_RingLists_0, s_law14_RingLists_0, c_law14_RingLists_l0, wb_law14_RingLists_0, c_law14_RingLists_k0, go_sem, Nat.reduceAdd, Nat.reduceSub, Nat.reduceMul, Nat.reduceLT, Nat.reduceLeDiff, Int.reduceToNat, Nat.reduceEqDiff, Nat.reduceBEq, ↓reduceIte, reduceCtorEq, eA, scal1, cells, List.all_cons, List.all_nil, w0, w1, w2, w3, List.map_cons, List.map_nil]
      repeat ((first | refine roundO 300 trivial trivial (fun A eA => ?_) | refine call0 300 trivial trivial (by first | exact c0 | exact h1 | exact h2 | exact k1 | exact k2) (.inl rfl) (fun A eA => ?_)); simp (disch := first | omega | (simp only [avs_len, List.length_cons, List.length_append, List.length_nil, List.length_take, List.length_drop, List.length_map]; omega) | (simp only [cells, scal1, allSz, List.length_cons, List.length_nil, List.length_append, List.length_map, List.all_cons, List.all_nil, avs_len, beq_self_eq_true, Bool.and_self, and_self, or_true, true_or, reduceCtorEq, *]; done) | fail) only [c_law14_RingLists, wl_law14_RingLists_0, s_law14_RingLists_0, c_law14_RingLists_l0, wb_law14_RingLists_0, c_law14_RingLists_k0, go_sem, Nat.reduceAdd, Nat.reduceSub, Nat.reduceMul, Nat.reduceLT, Nat.reduceLeDiff, Int.reduceToNat, Nat.reduceEqDiff, Nat.reduceBEq, ↓reduceIte, reduceCtorEq, eA, scal1, cells, List.all_cons, List.all_nil, w0, w1, w2, w3, List.map_cons, List.map_nil])
      exact doneG rfl
  · by_cases e1 : (x : Int) = n
    · by_cases e2 : (y : Int) = n
      · have e : hasN n [x, y] = true := by simp only [hasN, fstAt, e1, e2, if_false, if_true]; decide
        rw [e] at k1
        refine calls_law14_RingLists (walk0 300 trivial (fun A eA => ?_))
        simp (disch := first | omega | (simp only [avs_len, List.length_cons, List.length_append, List.length_nil, List.length_take, List.length_drop, List.length_map]; omega) | (simp only [cells, scal1, allSz, List.length_cons, List.length_nil, List.length_append, List.length_map, List.all_cons, List.all_nil, avs_len, beq_self_eq_true, Bool.and_self, and_self, or_true, true_or, reduceCtorEq, *]; done) | fail) only [c_law14_RingLists, wl_law14_RingLists_0, s_law14_RingLists_0, c_law14_RingLists_l0, wb_law14_RingLists_0, c_law14_RingLists_k0, go_sem, Nat.reduceAdd, Nat.reduceSub, Nat.reduceMul, Nat.reduceLT, Nat.reduceLeDiff, Int.reduceToNat, Nat.reduceEqDiff, Nat.reduceBEq, ↓reduceIte, reduceCtorEq, eA, scal1, cells, List.all_cons, List.all_nil, w0, w1, w2, w3, List.map_cons, List.map_nil]
        repeat ((first | refine roundO 300 trivial trivial (fun A eA => ?_) | refine call0 300 trivial trivial (by first | exact c0 | exact h1 | exact h2 | exact k1 | exact k2) (.inl rfl) (fun A eA => ?_)); simp (disch := first | omega | (simp only [avs_len, List.length_cons, List.length_append, List.length_nil, List.length_take, List.length_drop, List.length_map]; omega) | (simp only [cells, scal1, allSz, List.length_cons, List.length_nil, List.length_append, List.length_map, List.all_cons, List.all_nil, avs_len, beq_self_eq_true, Bool.and_self, and_self, or_true, true_or, reduceCtorEq, *]; done) | fail) only [c_law14_RingLists, wl_law14_RingLists_0, s_law14_RingLists_0, c_law14_RingLists_l0, wb_law14_RingLists_0, c_law14_RingLists_k0, go_sem, Nat.reduceAdd, Nat.reduceSub, Nat.reduceMul, Nat.reduceLT, Nat.reduceLeDiff, Int.reduceToNat, Nat.reduceEqDiff, Nat.reduceBEq, ↓reduceIte, reduceCtorEq, eA, scal1, cells, List.all_cons, List.all_nil, w0, w1, w2, w3, List.map_cons, List.map_nil])
        exact doneG rfl
      · have e : hasN n [x, y] = true := by simp only [hasN, fstAt, e1, e2, if_false, if_true]; decide
        rw [e] at k1
        refine calls_law14_RingLists (walk0 300 trivial (fun A eA => ?_))
        simp (disch := first | omega | (simp only [avs_len, List.length_cons, List.length_append, List.length_nil, List.length_take, List.length_drop, List.length_map]; omega) | (simp only [cells, scal1, allSz, List.length_cons, List.length_nil, List.length_append, List.length_map, List.all_cons, List.all_nil, avs_len, beq_self_eq_true, Bool.and_self, and_self, or_true, true_or, reduceCtorEq, *]; done) | fail) only [c_law14_RingLists, wl_law14_RingLists_0, s_law14_RingLists_0, c_law14_RingLists_l0, wb_law14_RingLists_0, c_law14_RingLists_k0, go_sem, Nat.reduceAdd, Nat.reduceSub, Nat.reduceMul, Nat.reduceLT, Nat.reduceLeDiff, Int.reduceToNat, Nat.reduceEqDiff, Nat.reduceBEq, ↓reduceIte, reduceCtorEq, eA, scal1, cells, List.all_cons, List.all_nil, w0, w1, w2, w3, List.map_cons, List.map_nil]
        repeat ((first | refine roundO 300 trivial trivial (fun A eA => ?_) | refine call0 300 trivial trivial (by first | exact c0 | exact h1 | exact h2 | exact k1 | exact k2) (.inl rfl) (fun A eA => ?_)); simp (disch := first | omega | (simp only [avs_len, List.length_cons, List.length_append, List.length_nil, List.length_take, List.length_drop, List.length_map]; omega) | (simp only [cells, scal1, allSz, List.length_cons, List.length_nil, List.length_append, List.length_map, List.all_cons, List.all_nil, avs_len, beq_self_eq_true, Bool.and_self, and_self, or_true, true_or, reduceCtorEq, *]; done) | fail) only [c_law14_RingLists, wl_law14_RingLists_0, s_law14_RingLists_0, c_law14_RingLists_l0, wb_law14_RingLists_0, c_law14_RingLists_k0, go_sem, Nat.reduceAdd, Nat.reduceSub, Nat.reduceMul, Nat.reduceLT, Nat.reduceLeDiff, Int.reduceToNat, Nat.reduceEqDiff, Nat.reduceBEq, ↓reduceIte, reduceCtorEq, eA, scal1, cells, List.all_cons, List.all_nil, w0, w1, w2, w3, List.map_cons, List.map_nil])
        exact doneG rfl
    · by_cases e2 : (y : Int) = n
      · have e : hasN n [x, y] = true := by simp only [hasN, fstAt, e1, e2, if_false, if_true]; decide
        rw [e] at k1
        refine calls_law14_RingLists (walk0 300 trivial (fun A eA => ?_))
        simp (disch := first | omega | (simp only [avs_len, List.length_cons, List.length_append, List.length_nil, List.length_take, List.length_drop, List.length_map]; omega) | (simp only [cells, scal1, allSz, List.length_cons, List.length_nil, List.length_append, List.length_map, List.all_cons, List.all_nil, avs_len, beq_self_eq_true, Bool.and_self, and_self, or_true, true_or, reduceCtorEq, *]; done) | fail) only [c_law14_RingLists, wl_law14_RingLists_0, s_law14_RingLists_0, c_law14_RingLists_l0, wb_law14_RingLists_0, c_law14_RingLists_k0, go_sem, Nat.reduceAdd, Nat.reduceSub, Nat.reduceMul, Nat.reduceLT, Nat.reduceLeDiff, Int.reduceToNat, Nat.reduceEqDiff, Nat.reduceBEq, ↓reduceIte, reduceCtorEq, eA, scal1, cells, List.all_cons, List.all_nil, w0, w1, w2, w3, List.map_cons, List.map_nil]
        repeat ((first | refine roundO 300 trivial trivial (fun A eA => ?_) | refine call0 300 trivial trivial (by first | exact c0 | exact h1 | exact h2 | exact k1 | exact k2) (.inl rfl) (fun A eA => ?_)); simp (disch := first | omega | (simp only [avs_len, List.length_cons, List.length_append, List.length_nil, List.length_take, List.length_drop, List.length_map]; omega) | (simp only [cells, scal1, allSz, List.length_cons, List.length_nil, List.length_append, List.length_map, List.all_cons, List.all_nil, avs_len, beq_self_eq_true, Bool.and_self, and_self, or_true, true_or, reduceCtorEq, *]; done) | fail) only [c_law14_RingLists, wl_law14_RingLists_0, s_law14_RingLists_0, c_law14_RingLists_l0, wb_law14_RingLists_0, c_law14_RingLists_k0, go_sem, Nat.reduceAdd, Nat.reduceSub, Nat.reduceMul, Nat.reduceLT, Nat.reduceLeDiff, Int.reduceToNat, Nat.reduceEqDiff, Nat.reduceBEq, ↓reduceIte, reduceCtorEq, eA, scal1, cells, List.all_cons, List.all_nil, w0, w1, w2, w3, List.map_cons, List.map_nil])
        exact doneG rfl
      · have e : hasN n [x, y] = false := by simp only [hasN, fstAt, e1, e2, if_false, if_true]; decide
        rw [e] at k1
        refine calls_law14_RingLists (walk0 300 trivial (fun A eA => ?_))
        simp (disch := first | omega | (simp only [avs_len, List.length_cons, List.length_append, List.length_nil, List.length_take, List.length_drop, List.length_map]; omega) | (simp only [cells, scal1, allSz, List.length_cons, List.length_nil, List.length_append, List.length_map, List.all_cons, List.all_nil, avs_len, beq_self_eq_true, Bool.and_self, and_self, or_true, true_or, reduceCtorEq, *]; done) | fail) only [c_law14_RingLists, wl_law14_RingLists_0, s_law14_RingLists_0, c_law14_RingLists_l0, wb_law14_RingLists_0, c_law14_RingLists_k0, go_sem, Nat.reduceAdd, Nat.reduceSub, Nat.reduceMul, Nat.reduceLT, Nat.reduceLeDiff, Int.reduceToNat, Nat.reduceEqDiff, Nat.reduceBEq, ↓reduceIte, reduceCtorEq, eA, scal1, cells, List.all_cons, List.all_nil, w0, w1, w2, w3, List.map_cons, List.map_nil]
        repeat ((first | refine roundO 300 trivial trivial (fun A eA => ?_) | refine call0 300 trivial trivial (by first | exact c0 | exact h1 | exact h2 | exact k1 | exact k2) (.inl rfl) (fun A eA => ?_)); simp (disch := first | omega | (simp only [avs_len, List.length_cons, List.length_append, List.length_nil, List.length_take, List.length_drop, List.length_map]; omega) | (simp only [cells, scal1, allSz, List.length_cons, List.length_nil, List.length_append, List.length_map, List.all_cons, List.all_nil, avs_len, beq_self_eq_true, Bool.and_self, and_self, or_true, true_or, reduceCtorEq, *]; done) | fail) only [c_law14_RingLists, wl_law14_RingLists_0, s_law14_RingLists_0, c_law14_RingLists_l0, wb_law14_RingLists_0, c_law14_RingLists_k0, go_sem, Nat.reduceAdd, Nat.reduceSub, Nat.reduceMul, Nat.reduceLT, Nat.reduceLeDiff, Int.reduceToNat, Nat.reduceEqDiff, Nat.reduceBEq, ↓reduceIte, reduceCtorEq, eA, scal1, cells, List.all_cons, List.all_nil, w0, w1, w2, w3, List.map_cons, List.map_nil])
        exact doneG rfl
  · by_cases e1 : (x : Int) = n
    · by_cases e2 : (y : Int) = n
      · by_cases e3 : (z : Int) = n
        · have e : hasN n [x, y, z] = true := by simp only [hasN, fstAt, e1, e2, e3, if_false, if_true]; decide
          rw [e] at k1
          refine calls_law14_RingLists (walk0 300 trivial (fun A eA => ?_))
          simp (disch := first | omega | (simp only [avs_len, List.length_cons, List.length_append, List.length_nil, List.length_take, List.length_drop, List.length_map]; omega) | (simp only [cells, scal1, allSz, List.length_cons, List.length_nil, List.length_append, List.length_map, List.all_cons, List.all_nil, avs_len, beq_self_eq_true, Bool.and_self, and_self, or_true, true_or, reduceCtorEq, *]; done) | fail) only [c_law14_RingLists, wl_law14_RingLists_0, s_law14_RingLists_0, c_law14_RingLists_l0, wb_law14_RingLists_0, c_law14_RingLists_k0, go_sem, Nat.reduceAdd, Nat.reduceSub, Nat.reduceMul, Nat.reduceLT, Nat.reduceLeDiff, Int.reduceToNat, Nat.reduceEqDiff, Nat.reduceBEq, ↓reduceIte, reduceCtorEq, eA, scal1, cells, List.all_cons, List.all_nil, w0, w1, w2, w3, List.map_cons, List.map_nil]
          repeat ((first | refine roundO 300 trivial trivial (fun A eA => ?_) | refine call0 300 trivial trivial (by first | exact c0 | exact h1 | exact h2 | exact k1 | exact k2) (.inl rfl) (fun A eA => ?_)); simp (disch := first | omega | (simp only [avs_len, List.length_cons, List.length_append, List.length_nil, List.length_take, List.length_drop, List.length_map]; omega) | (simp only [cells, scal1, allSz, List.length_cons, List.length_nil, List.length_append, List.length_map, List.all_cons, List.all_nil, avs_len, beq_self_eq_true, Bool.and_self, and_self, or_true, true_or, reduceCtorEq, *]; done) | fail) only [c_law14_RingLists, wl_law14_RingLists_0, s_law14_RingLists_0, c_law14_RingLists_l0, wb_law14_RingLists_0, c_law14_RingLists_k0, go_sem, Nat.reduceAdd, Nat.reduceSub, Nat.reduceMul, Nat.reduceLT, Nat.reduceLeDiff, Int.reduceToNat, Nat.reduceEqDiff, Nat.reduceBEq, ↓reduceIte, reduceCtorEq, eA, scal1, cells, List.all_cons, List.all_nil, w0, w1, w2, w3, List.map_cons, List.map_nil])
          exact doneG rfl
        · have e : hasN n [x, y, z] = true := by simp only [hasN, fstAt, e1, e2, e3, if_false, if_true]; decide
          rw [e] at k1
          refine calls_law14_RingLists (walk0 300 trivial (fun A eA => ?_))
          simp (disch := first | omega | (simp only [avs_len, List.length_cons, List.length_append, List.length_nil, List.length_take, List.length_drop, List.length_map]; omega) | (simp only [cells, scal1, allSz, List.length_cons, List.length_nil, List.length_append, List.length_map, List.all_cons, List.all_nil, avs_len, beq_self_eq_true, Bool.and_self, and_self, or_true, true_or, reduceCtorEq, *]; done) | fail) only [c_law14_RingLists, wl_law14_RingLists_0, s_law14_RingLists_0, c_law14_RingLists_l0, wb_law14_RingLists_0, c_law14_RingLists_k0, go_sem, Nat.reduceAdd, Nat.reduceSub, Nat.reduceMul, Nat.reduceLT, Nat.reduceLeDiff, Int.reduceToNat, Nat.reduceEqDiff, Nat.reduceBEq, ↓reduceIte, reduceCtorEq, eA, scal1, cells, List.all_cons, List.all_nil, w0, w1, w2, w3, List.map_cons, List.map_nil]
          repeat ((first | refine roundO 300 trivial trivial (fun A eA => ?_) | refine call0 300 trivial trivial (by first | exact c0 | exact h1 | exact h2 | exact k1 | exact k2) (.inl rfl) (fun A eA => ?_)); simp (disch := first | omega | (simp only [avs_len, List.length_cons, List.length_append, List.length_nil, List.length_take, List.length_drop, List.length_map]; omega) | (simp only [cells, scal1, allSz, List.length_cons, List.length_nil, List.length_append, List.length_map, List.all_cons, List.all_nil, avs_len, beq_self_eq_true, Bool.and_self, and_self, or_true, true_or, reduceCtorEq, *]; done) | fail) only [c_law14_RingLists, wl_law14_RingLists_0, s_law14_RingLists_0, c_law14_RingLists_l0, wb_law14_RingLists_0, c_law14_RingLists_k0, go_sem, Nat.reduceAdd, Nat.reduceSub, Nat.reduceMul, Nat.reduceLT, Nat.reduceLeDiff, Int.reduceToNat, Nat.reduceEqDiff, Nat.reduceBEq, ↓reduceIte, reduceCtorEq, eA, scal1, cells, List.all_cons, List.all_nil, w0, w1, w2, w3, List.map_cons, List.map_nil])
          exact doneG rfl
      · by_cases e3 : (z : Int) = n
        · have e : hasN n [x, y, z] = true := by simp only [hasN, fstAt, e1, e2, e3, if_false, if_true]; decide
          rw [e] at k1
          refine calls_law14_RingLists (walk0 300 trivial (fun A eA => ?_))
          simp (disch := first | omega | (simp only [avs_len, List.length_cons, List.length_append, List.length_nil, List.length_take, List.length_drop, List.length_map]; omega) | (simp only [cells, scal1, allSz, List.length_cons, List.length_nil, List.length_append, List.length_map, List.all_cons, List.all_nil, avs_len, beq_self_eq_true, Bool.and_self, and_self, or_true, true_or, reduceCtorEq, *]; done) | fail) only [c_law14_RingLists, wl_law14_RingLists_0, s_law14_RingLists_0, c_law14_RingLists_l0, wb_law14_RingLists_0, c_law14_RingLists_k0, go_sem, Nat.reduceAdd, Nat.reduceSub, Nat.reduceMul, Nat.reduceLT, Nat.reduceLeDiff, Int.reduceToNat, Nat.reduceEqDiff, Nat.reduceBEq, ↓reduceIte, reduceCtorEq, eA, scal1, cells, List.all_cons, List.all_nil, w0, w1, w2, w3, List.map_cons, List.map_nil]
          repeat ((first | refine roundO 300 trivial trivial (fun A eA => ?_) | refine call0 300 trivial trivial (by first | exact c0 | exact h1 | exact h2 | exact k1 | exact k2) (.inl rfl) (fun A eA => ?_)); simp (disch := first | omega | (simp only [avs_len, List.length_cons, List.length_append, List.length_nil, List.length_take, List.length_drop, List.length_map]; omega) | (simp only [cells, scal1, allSz, List.length_cons, List.length_nil, List.length_append, List.length_map, List.all_cons, List.all_nil, avs_len, beq_self_eq_true, Bool.and_self, and_self, or_true, true_or, reduceCtorEq, *]; done) | fail) only [c_law14_RingLists, wl_law14_RingLists_0, s_law14_RingLists_0, c_law14_RingLists_l0, wb_law14_RingLists_0, c_law14_RingLists_k0, go_sem, Nat.reduceAdd, Nat.reduceSub, Nat.reduceMul, Nat.reduceLT, Nat.reduceLeDiff, Int.reduceToNat, Nat.reduceEqDiff, Nat.reduceBEq, ↓reduceIte, reduceCtorEq, eA, scal1, cells, List.all_cons, List.all_nil, w0, w1, w2, w3, List.map_cons, List.map_nil])
          exact doneG rfl
        · have e : hasN n [x, y, z] = true := by simp only [hasN, fstAt, e1, e2, e3, if_false, if_true]; decide
          rw [e] at k1
          refine calls_law14_RingLists (walk0 300 trivial (fun A eA => ?_))
          simp (disch := first | omega | (simp only [avs_len, List.length_cons, List.length_append, List.length_nil, List.length_take, List.length_drop, List.length_map]; omega) | (simp only [cells, scal1, allSz, List.length_cons, List.length_nil, List.length_append, List.length_map, List.all_cons, List.all_nil, avs_len, beq_self_eq_true, Bool.and_self, and_self, or_true, true_or, reduceCtorEq, *]; done) | fail) only [c_law14_RingLists, wl_law14_RingLists_0, s_law14_RingLists_0, c_law14_RingLists_l0, wb_law14_RingLists_0, c_law14_RingLists_k0, go_sem, Nat.reduceAdd, Nat.reduceSub, Nat.reduceMul, Nat.reduceLT, Nat.reduceLeDiff, Int.reduceToNat, Nat.reduceEqDiff, Nat.reduceBEq, ↓reduceIte, reduceCtorEq, eA, scal1, cells, List.all_cons, List.all_nil, w0, w1, w2, w3, List.map_cons, List.map_nil]
          repeat ((first | refine roundO 300 trivial trivial (fun A eA => ?_) | refine call0 300 trivial trivial (by first | exact c0 | exact h1 | exact h2 | exact k1 | exact k2) (.inl rfl) (fun A eA => ?_)); simp (disch := first | omega | (simp only [avs_len, List.length_cons, List.length_append, List.length_nil, List.length_take, List.length_drop, List.length_map]; omega) | (simp only [cells, scal1, allSz, List.length_cons, List.length_nil, List.length_append, List.length_map, List.all_cons, List.all_nil, avs_len, beq_self_eq_true, Bool.and_self, and_self, or_true, true_or, reduceCtorEq, *]; done) | fail) only [c_law14_RingLists, wl_law14_RingLists_0, s_law14_RingLists_0, c_law14_RingLists_l0, wb_law14_RingLists_0, c_law14_RingLists_k0, go_sem, Nat.reduceAdd, Nat.reduceSub, Nat.reduceMul, Nat.reduceLT, Nat.reduceLeDiff, Int.reduceToNat, Nat.reduceEqDiff, Nat.reduceBEq, ↓reduceIte, reduceCtorEq, eA, scal1, cells, List.all_cons, List.all_nil, w0, w1, w2, w3, List.map_cons, List.map_nil])
          exact doneG rfl
    · by_cases e2 : (y : Int) = n
      · by_cases e3 : (z : Int) = n
        · have e : hasN n [x, y, z] = true := by simp only [hasN, fstAt, e1, e2, e3, if_false, if_true]; decide
          rw [e] at k1
          refine calls_law14_RingLists (walk0 300 trivial (fun A eA => ?_))
          simp (disch := first | omega | (simp only [avs_len, List.length_cons, List.length_append, List.length_nil, List.length_take, List.length_drop, List.length_map]; omega) | (simp only [cells, scal1, allSz, List.length_cons, List.length_nil, List.length_append, List.length_map, List.all_cons, List.all_nil, avs_len, beq_self_eq_true, Bool.and_self, and_self, or_true, true_or, reduceCtorEq, *]; done) | fail) only [c_law14_RingLists, wl_law14_RingLists_0, s_law14_RingLists_0, c_law14_RingLists_l0, wb_law14_RingLists_0, c_law14_RingLists_k0, go_sem, Nat.reduceAdd, Nat.reduceSub, Nat.reduceMul, Nat.reduceLT, Nat.reduceLeDiff, Int.reduceToNat, Nat.reduceEqDiff, Nat.reduceBEq, ↓reduceIte, reduceCtorEq, eA, scal1, cells, List.all_cons, List.all_nil, w0, w1, w2, w3, List.map_cons, List.map_nil]
          repeat ((first | refine roundO 300 trivial trivial (fun A eA => ?_) | refine call0 300 trivial trivial (by first | exact c0 | exact h1 | exact h2 | exact k1 | exact k2) (.inl rfl) (fun A eA => ?_)); simp (disch := first | omega | (simp only [avs_len, List.length_cons, List.length_append, List.length_nil, List.length_take, List.length_drop, List.length_map]; omega) | (simp only [cells, scal1, allSz, List.length_cons, List.length_nil, List.length_append, List.length_map, List.all_cons, List.all_nil, avs_len, beq_self_eq_true, Bool.and_self, and_self, or_true, true_or, reduceCtorEq, *]; done) | fail) only [c_law14_RingLists, wl_law14_RingLists_0, s_law14_RingLists_0, c_law14_RingLists_l0, wb_law14_RingLists_0, c_law14_RingLists_k0, go_sem, Nat.reduceAdd, Nat.reduceSub, Nat.reduceMul, Nat.reduceLT, Nat.reduceLeDiff, Int.reduceToNat, Nat.reduceEqDiff, Nat.reduceBEq, ↓reduceIte, reduceCtorEq, eA, scal1, cells, List.all_cons, List.all_nil, w0, w1, w2, w3, List.map_cons, List.map_nil])
          exact doneG rfl
        · have e : hasN n [x, y, z] = true := by simp only [hasN, fstAt, e1, e2, e3, if_false, if_true]; decide
          rw [e] at k1
          refine calls_law14_RingLists (walk0 300 trivial (fun A eA => ?_))
          simp (disch := first | omega | (simp only [avs_len, List.length_cons, List.length_append, List.length_nil, List.length_take, List.length_drop, List.length_map]; omega) | (simp only [cells, scal1, allSz, List.length_cons, List.length_nil, List.length_append, List.length_map, List.all_cons, List.all_nil, avs_len, beq_self_eq_true, Bool.and_self, and_self, or_true, true_or, reduceCtorEq, *]; done) | fail) only [c_law14_RingLists, wl_law14_RingLists_0, s_law14_RingLists_0, c_law14_RingLists_l0, wb_law14_RingLists_0, c_law14_RingLists_k0, go_sem, Nat.reduceAdd, Nat.reduceSub, Nat.reduceMul, Nat.reduceLT, Nat.reduceLeDiff, Int.reduceToNat, Nat.reduceEqDiff, Nat.reduceBEq, ↓reduceIte, reduceCtorEq, eA, scal1, cells, List.all_cons, List.all_nil, w0, w1, w2, w3, List.map_cons, List.map_nil]
          repeat ((first | refine roundO 300 trivial trivial (fun A eA => ?_) | refine call0 300 trivial trivial (by first | exact c0 | exact h1 | exact h2 | exact k1 | exact k2) (.inl rfl) (fun A eA => ?_)); simp (disch := first | omega | (simp only [avs_len, List.length_cons, List.length_append, List.length_nil, List.length_take, List.length_drop, List.length_map]; omega) | (simp only [cells, scal1, allSz, List.length_cons, List.length_nil, List.length_append, List.length_map, List.all_cons, List.all_nil, avs_len, beq_self_eq_true, Bool.and_self, and_self, or_true, true_or, reduceCtorEq, *]; done) | fail) only [c_law14_RingLists, wl_law14_RingLists_0, s_law14_RingLists_0, c_law14_RingLists_l0, wb_law14_RingLists_0, c_law14_RingLists_k0, go_sem, Nat.reduceAdd, Nat.reduceSub, Nat.reduceMul, Nat.reduceLT, Nat.reduceLeDiff, Int.reduceToNat, Nat.reduceEqDiff, Nat.reduceBEq, ↓reduceIte, reduceCtorEq, eA, scal1, cells, List.all_cons, List.all_nil, w0, w1, w2, w3, List.map_cons, List.map_nil])
          exact doneG rfl
      · by_cases e3 : (z : Int) = n
        · have e : hasN n [x, y, z] = true := by simp only [hasN, fstAt, e1, e2, e3, if_false, if_true]; decide
          rw [e] at k1
          refine calls_law14_RingLists (walk0 300 trivial (fun A eA => ?_))
          simp (disch := first | omega | (simp only [avs_len, List.length_cons, List.length_append, List.length_nil, List.length_take, List.length_drop, List.length_map]; omega) | (simp only [cells, scal1, allSz, List.length_cons, List.length_nil, List.length_append, List.length_map, List.all_cons, List.all_nil, avs_len, beq_self_eq_true, Bool.and_self, and_self, or_true, true_or, reduceCtorEq, *]; done) | fail) only [c_law14_RingLists, wl_law14_RingLists_0, s_law14_RingLists_0, c_law14_RingLists_l0, wb_law14_RingLists_0, c_law14_RingLists_k0, go_sem, Nat.reduceAdd, Nat.reduceSub, Nat.reduceMul, Nat.reduceLT, Nat.reduceLeDiff, Int.reduceToNat, Nat.reduceEqDiff, Nat.reduceBEq, ↓reduceIte, reduceCtorEq, eA, scal1, cells, List.all_cons, List.all_nil, w0, w1, w2, w3, List.map_cons, List.map_nil]
          repeat ((first | refine roundO 300 trivial trivial (fun A eA => ?_) | refine call0 300 trivial trivial (by first | exact c0 | exact h1 | exact h2 | exact k1 | exact k2) (.inl rfl) (fun A eA => ?_)); simp (disch := first | omega | (simp only [avs_len, List.length_cons, List.length_append, List.length_nil, List.length_take, List.length_drop, List.length_map]; omega) | (simp only [cells, scal1, allSz, List.length_cons, List.length_nil, List.length_append, List.length_map, List.all_cons, List.all_nil, avs_len, beq_self_eq_true, Bool.and_self, and_self, or_true, true_or, reduceCtorEq, *]; done) | fail) only [c_law14_RingLists, wl_law14_RingLists_0, s_law14_RingLists_0, c_law14_RingLists_l0, wb_law14_RingLists_0, c_law14_RingLists_k0, go_sem, Nat.reduceAdd, Nat.reduceSub, Nat.reduceMul, Nat.reduceLT, Nat.reduceLeDiff, Int.reduceToNat, Nat.reduceEqDiff, Nat.reduceBEq, ↓reduceIte, reduceCtorEq, eA, scal1, cells, List.all_cons, List.all_nil, w0, w1, w2, w3, List.map_cons, List.map_nil])
          exact doneG rfl
        · have e : hasN n [x, y, z] = false := by simp only [hasN, fstAt, e1, e2, e3, if_false, if_true]; decide
          rw [e] at k1
          refine calls_law14_RingLists (walk0 300 trivial (fun A eA => ?_))
          simp (disch := first | omega | (simp only [avs_len, List.length_cons, List.length_append, List.length_nil, List.length_take, List.length_drop, List.length_map]; omega) | (simp only [cells, scal1, allSz, List.length_cons, List.length_nil, List.length_append, List.length_map, List.all_cons, List.all_nil, avs_len, beq_self_eq_true, Bool.and_self, and_self, or_true, true_or, reduceCtorEq, *]; done) | fail) only [c_law14_RingLists, wl_law14_RingLists_0, s_law14_RingLists_0, c_law14_RingLists_l0, wb_law14_RingLists_0, c_law14_RingLists_k0, go_sem, Nat.reduceAdd, Nat.reduceSub, Nat.reduceMul, Nat.reduceLT, Nat.reduceLeDiff, Int.reduceToNat, Nat.reduceEqDiff, Nat.reduceBEq, ↓reduceIte, reduceCtorEq, eA, scal1, cells, List.all_cons, List.all_nil, w0, w1, w2, w3, List.map_cons, List.map_nil]
          repeat ((first | refine roundO 300 trivial trivial (fun A eA => ?_) | refine call0 300 trivial trivial (by first | exact c0 | exact h1 | exact h2 | exact k1 | exact k2) (.inl rfl) (fun A eA => ?_)); simp (disch := first | omega | (simp only [avs_len, List.length_cons, List.length_append, List.length_nil, List.length_take, List.length_drop, List.length_map]; omega) | (simp only [cells, scal1, allSz, List.length_cons, List.length_nil, List.length_append, List.length_map, List.all_cons, List.all_nil, avs_len, beq_self_eq_true, Bool.and_self, and_self, or_true, true_or, reduceCtorEq, *]; done) | fail) only [c_law14_RingLists, wl_law14_RingLists_0, s_law14_RingLists_0, c_law14_RingLists_l0, wb_law14_RingLists_0, c_law14_RingLists_k0, go_sem, Nat.reduceAdd, Nat.reduceSub, Nat.reduceMul, Nat.reduceLT, Nat.reduceLeDiff, Int.reduceToNat, Nat.reduceEqDiff, Nat.reduceBEq, ↓reduceIte, reduceCtorEq, eA, scal1, cells, List.all_cons, List.all_nil, w0, w1, w2, w3, List.map_cons, List.map_nil])
          exact doneG rfl
theorem ringLists_calls (key : ByteArray) (s c n : Int) : PCalls Try.prog F_law14_RingLists [.str key, .int .i64 s, .int .i64 c, .int .i64 n] (.bool true) := by
  by_cases hk : key.size ≤ 1000
  · rcases lists_calls key s c hk with ⟨h1, h2, h3⟩ | ⟨x, R, hR, h1, h2, h3⟩
    · exact lists_none key s c n hk h1 h2 h3
    · exact lists_some key s c n hk x R hR h1 h2 h3
  · have c0 := awake14_calls
    have hk' : (1000 : Int) < (key.size : Int) := by omega
    have w1 : IntKind.i64.wrap ((0 : Int) + 1) = 1 := by decide
    have w2 : IntKind.i64.wrap ((1 : Int) + 1) = 2 := by decide
    have w3 : IntKind.i64.wrap ((2 : Int) + 1) = 3 := by decide
    have w0 : IntKind.i64.wrap ((0 : Int) - 1) = -1 := by decide
    refine calls_law14_RingLists (walk0 300 trivial (fun A eA => ?_))
    simp (disch := first | omega | (simp only [avs_len, List.length_cons, List.length_append, List.length_nil, List.length_take, List.length_drop, List.length_map]; omega) | (simp only [cells, scal1, allSz, List.length_cons, List.length_nil, List.length_append, List.length_map, List.all_cons, List.all_nil, avs_len, beq_self_eq_true, Bool.and_self, and_self, or_true, true_or, reduceCtorEq, *]; done) | fail) only [c_law14_RingLists, wl_law14_RingLists_0, s_law14_RingLists_0, c_law14_RingLists_l0, wb_law14_RingLists_0, c_law14_RingLists_k0, go_sem, Nat.reduceAdd, Nat.reduceSub, Nat.reduceMul, Nat.reduceLT, Nat.reduceLeDiff, Int.reduceToNat, Nat.reduceEqDiff, Nat.reduceBEq, ↓reduceIte, reduceCtorEq, eA, scal1, cells, List.all_cons, List.all_nil, w0, w1, w2, w3, List.map_cons, List.map_nil]
    repeat ((first | refine roundO 300 trivial trivial (fun A eA => ?_) | refine call0 300 trivial trivial (by first | exact c0) (.inl rfl) (fun A eA => ?_)); simp (disch := first | omega | (simp only [avs_len, List.length_cons, List.length_append, List.length_nil, List.length_take, List.length_drop, List.length_map]; omega) | (simp only [cells, scal1, allSz, List.length_cons, List.length_nil, List.length_append, List.length_map, List.all_cons, List.all_nil, avs_len, beq_self_eq_true, Bool.and_self, and_self, or_true, true_or, reduceCtorEq, *]; done) | fail) only [c_law14_RingLists, wl_law14_RingLists_0, s_law14_RingLists_0, c_law14_RingLists_l0, wb_law14_RingLists_0, c_law14_RingLists_k0, go_sem, Nat.reduceAdd, Nat.reduceSub, Nat.reduceMul, Nat.reduceLT, Nat.reduceLeDiff, Int.reduceToNat, Nat.reduceEqDiff, Nat.reduceBEq, ↓reduceIte, reduceCtorEq, eA, scal1, cells, List.all_cons, List.all_nil, w0, w1, w2, w3, List.map_cons, List.map_nil])
    exact doneG rfl
theorem ringLists_row (key : ByteArray) (s : Int) (_ : -9223372036854775808 ≤ s ∧ s < 9223372036854775808) (c : Int) (_ : -9223372036854775808 ≤ c ∧ c < 9223372036854775808) (n : Int) (_ : -9223372036854775808 ≤ n ∧ n < 9223372036854775808) :
    PCalls Try.prog F_law14_RingLists [.str key, .int .i64 s, .int .i64 c, .int .i64 n] (.bool true) := ringLists_calls key s c n
end Go.Proofs.Ytmokhopjnjecbab
/- Rows of bytes out of a row's reading of the arguments. -/
namespace Go.Proofs.Ytmokhopjnjecbab.Sized
open Go.ChangeShapes Go.WideShapes Go.RowKit
open Go.Ev (PCalls Rep Reps none4 zeroC avs avs_get avs_len add_mk)
set_option linter.unusedVariables false
set_option linter.unusedSimpArgs false
/-- A slice of whole numbers, opened. -/
def IsRow (k : IntKind) (w : World) (a : Option Addr) (len cap : Nat) (zs : List Int) : Prop :=
  (a = none ∧ len = 0 ∧ cap = 0 ∧ zs = []) ∨
  ∃ x, a = some x ∧ len ≤ cap ∧ cap ≤ maxLen ∧ zs.length = cap ∧ (∀ i, i < zs.length → w.cell? (x.add i) = some (.int k (zs.getD i 0))) ∧ ∀ n ∈ zs, (Lit.int k n).wf = true
theorem rep_bytes {w : World} {a : Option Addr} {len cap : Nat} {zs : List Int} (h : IsRow .u8 w a len cap zs) :
    ∃ bs : List Nat, (∀ b ∈ bs, b < 256) ∧ bs.length = len ∧ Rep none4 (fun _ => False) zeroC w true (.fz 1 (avs bs) none) (.slice a len cap) := by
  rcases h with ⟨rfl, rfl, rfl, rfl⟩ | ⟨x, rfl, hl, hm, hz, hcell, hwf⟩
  · exact ⟨[], by simp, rfl, .fz0 (by simp) (fun _ => ⟨rfl, rfl⟩)⟩
  · have hrange : ∀ n ∈ zs, 0 ≤ n ∧ n < 256 := by
      intro n hn
      have := hwf n hn
      simp [Lit.wf, IntKind.min, IntKind.max, IntKind.signed, IntKind.bits] at this
      omega
    have hlen : ((zs.take len).map Int.toNat).length = len := by simp; omega
    refine ⟨(zs.take len).map Int.toNat, ?_, hlen, ?_⟩
    · intro b hb
      obtain ⟨n, hn, rfl⟩ := List.mem_map.1 hb
      have := hrange n (List.mem_of_mem_take hn)
      omega
    · by_cases h0 : len = 0
      · subst h0
        simp only [List.take_zero, List.map_nil, avs]
        exact .fz0 (by simp) (fun e => by cases e)
      · have hal : (avs ((zs.take len).map Int.toNat)).length = len := by rw [avs_len]; exact hlen
        have hsl : (Value.slice (some x) len cap) = .slice (some x) (avs ((zs.take len).map Int.toNat)).length cap := by rw [hal]
        rw [hsl]
        have hget : ∀ (i : Nat) e, (avs ((zs.take len).map Int.toNat))[i]? = some e → i < zs.length ∧ e = .int .u8 (zs.getD i 0) := by
          intro i e hi
          have hlt : i < len := by have := (List.getElem?_eq_some_iff.1 hi).1; omega
          rw [avs_get, List.getElem?_map, List.getElem?_take_of_lt hlt, List.getElem?_eq_getElem (by omega)] at hi
          simp at hi
          subst hi
          refine ⟨by omega, ?_⟩
          have := hrange zs[i] (List.getElem_mem (by omega))
          have e2 : zs.getD i 0 = zs[i] := by simp [List.getD, show i < zs.length by omega]
          rw [e2]
          congr 1
          omega
        refine .fz (fun i _ => .int .u8 (zs.getD i 0)) (fun e => by rw [e] at hal; simp at hal; omega) (by omega) (by simp) (fun i e hi => ?_) (fun i e j y hi hj => ?_) (fun i e j y hi hj => ?_) (fun i e j y hi hj => rfl) ⟨fun _ _ _ h => h, fun h => h, ?_⟩
        · obtain ⟨_, rfl⟩ := hget i e hi; rfl
        · obtain ⟨hlt, rfl⟩ := hget i e hi
          cases j with
          | succ j => simp [Ev.cells] at hj
          | zero => rw [Nat.mul_one, Nat.add_zero]; exact hcell i hlt
        · obtain ⟨hlt, rfl⟩ := hget i e hi
          cases j with
          | succ j => simp [Ev.cells] at hj
          | zero => simp [Ev.cells] at hj; subst hj; exact .int
        · have := hcell 0 (by omega)
          have := World.block_lt_of_cell? w _ this
          rwa [Ev.add_block] at this
/-- A slice of rows of bytes, opened. -/
theorem rep_rows {H : Type} {enc : TypeId × Value → H} {P : Program} {w : World} {base : Nat} {held : Bool} {fuel : Nat} {t e b : TypeId} {a : Option Addr} {len cap : Nat} {x : DataW H × List MemPlace}
    (ht : P.underlying t = some (.slice e)) (he : P.underlying e = some (.slice b)) (hb : P.underlying b = some (.int .u8)) (hc1 : P.cellsOf e = 1) (hc2 : P.cellsOf b = 1)
    (h : DataW.trod enc P w base (fun _ => true) held fuel t [.slice a len cap] = some x) :
    ∃ ls : List (List Nat), ls.length = len ∧ (∀ l ∈ ls, ∀ b ∈ l, b < 256) ∧ Rep none4 (fun _ => False) zeroC w true (.fz 1 (ls.map fun l => .fz 1 (avs l) none) none) (.slice a len cap) := by
  rcases DataW.trod_slice ht h with ⟨hcs, _⟩ | ⟨a', len', cap', elems, rest, n, _, hcs, rfl, hbb, hl, hm, hlen, hel, _, _⟩
  · simp only [List.cons.injEq, Value.slice.injEq, and_true] at hcs
    obtain ⟨rfl, rfl, rfl⟩ := hcs
    exact ⟨[], rfl, by simp, .fz0 (by simp) (fun _ => ⟨rfl, rfl⟩)⟩
  · simp only [List.cons.injEq, Value.slice.injEq, and_true] at hcs
    obtain ⟨rfl, rfl, rfl⟩ := hcs
    have each : ∀ i, i < len → ∃ (bs : List Nat) (v : Value), (∀ b ∈ bs, b < 256) ∧ w.cell? (a'.add i) = some v ∧ Rep none4 (fun _ => False) zeroC w true (.fz 1 (avs bs) none) v ∧ v.oneCell' = true := by
      intro i hi
      have h1 := hel i hi
      rw [List.getElem?_eq_getElem (by omega), hc1, Nat.mul_one, Option.bind_eq_some_iff] at h1
      obtain ⟨cs', h2, h3⟩ := h1
      have row : ∃ a1 l1 c1 zs, cs' = [.slice a1 l1 c1] ∧ IsRow .u8 w a1 l1 c1 zs := by
        rcases open_ints he hb hc2 h3 with ⟨rfl, _⟩ | ⟨x1, l1, c1, zs, rfl, _, hl1, hm1, hz, _, hcell, hwz⟩
        · exact ⟨none, 0, 0, [], rfl, .inl ⟨rfl, rfl, rfl, rfl⟩⟩
        · exact ⟨some x1, l1, c1, zs, rfl, .inr ⟨x1, rfl, hl1, hm1, by simpa using hz, hcell, hwz⟩⟩
      obtain ⟨a1, l1, c1, zs, rfl, hrow⟩ := row
      obtain ⟨bs, hbs, _, hrep⟩ := rep_bytes hrow
      exact ⟨bs, _, hbs, cell_of_cells?_one h2, hrep, rfl⟩
    obtain ⟨f, hf⟩ : ∃ f : Nat → List Nat × Value, ∀ i, i < len → (∀ b ∈ (f i).1, b < 256) ∧ w.cell? (a'.add i) = some (f i).2 ∧ Rep none4 (fun _ => False) zeroC w true (.fz 1 (avs (f i).1) none) (f i).2 ∧ (f i).2.oneCell' = true :=
      ⟨fun i => if hi : i < len then (Classical.choose (each i hi), Classical.choose (Classical.choose_spec (each i hi))) else ([], undef), fun i hi => by
        simp only [dif_pos hi]
        exact Classical.choose_spec (Classical.choose_spec (each i hi))⟩
    clear each
    refine ⟨(List.range len).map fun i => (f i).1, by simp, ?_, ?_⟩
    · intro l hl'
      obtain ⟨i, hi, rfl⟩ := List.mem_map.1 hl'
      exact (hf i (List.mem_range.1 hi)).1
    · by_cases h0 : len = 0
      · subst h0
        exact .fz0 (by simp) (fun e => by cases e)
      · have hget : ∀ (i : Nat) y, (((List.range len).map fun i => (f i).1).map fun l => Ev.AV.fz 1 (avs l) none)[i]? = some y → i < len ∧ y = .fz 1 (avs (f i).1) none := by
          intro i y hy
          have hi : i < len := by have := (List.getElem?_eq_some_iff.1 hy).1; simpa using this
          simp [List.getElem?_map, hi] at hy
          exact ⟨hi, hy.symm⟩
        have hsl : (Value.slice (some a') len cap) = .slice (some a') (((List.range len).map fun i => (f i).1).map fun l => Ev.AV.fz 1 (avs l) none).length cap := by simp
        rw [hsl]
        refine .fz (fun i _ => (f i).2) (fun e => by have := congrArg List.length e; simp at this; omega) (by simpa using hl) (by simp) (fun i y hy => ?_) (fun i y j z hy hj => ?_) (fun i y j z hy hj => ?_) (fun i y j z hy hj => ?_) ⟨fun _ _ _ h => h, fun h => h, ?_⟩
        · obtain ⟨hi, rfl⟩ := hget i y hy; rfl
        · obtain ⟨hi, rfl⟩ := hget i y hy
          cases j with
          | succ j => simp [Ev.cells] at hj
          | zero => rw [Nat.mul_one, Nat.add_zero]; exact (hf i hi).2.1
        · obtain ⟨hi, rfl⟩ := hget i y hy
          cases j with
          | succ j => simp [Ev.cells] at hj
          | zero =>
            simp [Ev.cells] at hj; subst hj
            exact (hf i hi).2.2.1
        · obtain ⟨hi, rfl⟩ := hget i y hy
          exact (hf i hi).2.2.2
        · have := World.block_lt_of_cell? w _ (hf 0 (by omega)).2.1
          rwa [Ev.add_block] at this
/-- A row's slice of whole numbers is no longer than its weight allows. -/
theorem sized_ints {H : Type} {enc : TypeId × Value → H} {P : Program} {W : World} {base : Nat} {spare : Nat → Bool} {held : Bool} {t e : TypeId} {k : IntKind} {a : Option Addr} {len cap : Nat} {d : DataW H} {ps : List MemPlace} {ts : List TypeId} {ds : List (DataW H)} {j : Nat}
    (hsz : (DataW.weightsEach P ts ds).all (· ≤ reachBytes) = true) (ht : ts[j]? = some t) (hd : ds[j]? = some d) (hu : P.underlying t = some (.slice e)) (he : P.underlying e = some (.int k)) (hc : P.cellsOf e = 1) {B : Nat} (hB : P.bytesOf e = B)
    (h : DataW.Trod enc P W base spare held t (.slice a len cap) d ps) : len * B ≤ 140737488351232 := by
  obtain ⟨fuel, hf⟩ := h
  rcases open_ints hu he hc hf with ⟨hcs, _⟩ | ⟨x, l, c, zs, hcs, _, hl, _, hz, hx, _, _⟩
  · simp [Value.cells] at hcs
    obtain ⟨rfl, rfl, rfl⟩ := hcs
    simp
  · simp [Value.cells] at hcs
    obtain ⟨rfl, rfl, rfl⟩ := hcs
    obtain ⟨hx, _⟩ := Prod.mk.inj hx
    subst hx
    have z := sized_slice hsz ht hd hu
    rw [hB] at z
    have hl2 : len ≤ zs.length := by
      rw [hz]
      split
      · exact hl
      · exact Nat.le_refl _
    have h1 : (lits (H := H) k (zs.take len)).length + (lits (H := H) k (zs.drop len)).length = zs.length := by
      simp [lits]
      omega
    rw [h1] at z
    exact Nat.le_trans (Nat.mul_le_mul_right _ hl2) z
end Go.Proofs.Ytmokhopjnjecbab.Sized
/- Whatever data a row reads as an argument: its cells by their types, as abstract values. -/
namespace Go.Ev
open Go.ChangeShapes Go.WideShapes Go.RowKit
set_option linter.unusedVariables false
set_option linter.unusedSimpArgs false
/-- The types of cells. -/
inductive Sh where
  | int (k : IntKind) | bool | str | sl (e : TypeId)
def shFields (P : Program) (f : TypeId → Option (List Sh)) : Nat → List Field → Option (List Sh)
  | _, [] => some []
  | o, fd :: l => if fd.offset = o then (match f fd.type with
    | some a => if P.cellsOf fd.type = a.length then (match shFields P f (o + a.length) l with
      | some b => some (a ++ b)
      | none => none) else none
    | none => none) else none
def shapes (P : Program) : Nat → TypeId → Option (List Sh)
  | 0, _ => none
  | n + 1, t => match P.underlying t with
    | some (.int k) => some [.int k]
    | some .bool => some [.bool]
    | some .string => some [.str]
    | some (.slice e) => some [.sl e]
    | some (.struct fs) => (match shFields P (shapes P n) 0 fs.toList with
      | some ss => if P.cellsOf t = ss.length then some ss else none
      | none => none)
    | _ => none
/-- Structs are told as their cells. -/
def mkE (P : Program) (e : TypeId) (xs : List AV) : AV := match P.underlying e with
  | some (.struct _) => .agg xs
  | _ => xs.headD .any
inductive CellOk (P : Program) : Sh → AV → Prop
  | int {k n} (h : (Lit.int k n).wf = true) : CellOk P (.int k) (.int k n)
  | bool {b} : CellOk P .bool (.bool b)
  | str {s : ByteArray} (h : s.size ≤ maxLen) : CellOk P .str (.str s)
  | sl {e ss es} (hs : shapes P 9 e = some ss) (hlen : es.length ≤ maxLen) (hl : ∀ y ∈ es, (cells y).length = ss.length) (hf : ∀ y ∈ es, y = mkE P e (cells y))
      (h : ∀ y ∈ es, ∀ (j : Nat) s c, ss[j]? = some s → (cells y)[j]? = some c → CellOk P s c) : CellOk P (.sl e) (.fz ss.length es none)
/-- Cell by cell: typed, and standing for that value. -/
inductive All3 (P : Program) (w : World) : List Sh → List AV → List Value → Prop
  | nil : All3 P w [] [] []
  | cons {s c v ss xs vs} (hc : CellOk P s c) (hr : Rep none4 (fun _ => False) zeroC w true c v) (h1 : v.oneCell' = true) (t : All3 P w ss xs vs) : All3 P w (s :: ss) (c :: xs) (v :: vs)
section
variable {P : Program} {w : World}
theorem All3.append {ss xs vs ss' xs' vs'} (h : All3 P w ss xs vs) (h' : All3 P w ss' xs' vs') : All3 P w (ss ++ ss') (xs ++ xs') (vs ++ vs') := by
  induction h with
  | nil => exact h'
  | cons a b c t ih => exact .cons a b c ih
theorem All3.len {ss xs vs} (h : All3 P w ss xs vs) : xs.length = ss.length ∧ vs.length = ss.length := by
  induction h with
  | nil => exact ⟨rfl, rfl⟩
  | cons a b c t ih => simp only [List.length_cons]; omega
theorem All3.get {ss xs vs} (h : All3 P w ss xs vs) : ∀ (j : Nat) x, xs[j]? = some x → ∃ s v, ss[j]? = some s ∧ vs[j]? = some v ∧ CellOk P s x ∧ Rep none4 (fun _ => False) zeroC w true x v ∧ v.oneCell' = true := by
  induction h with
  | nil => intro j x hx; simp at hx
  | cons a b c t ih =>
    intro j x hx
    cases j with
    | zero => simp at hx; subst hx; exact ⟨_, _, rfl, rfl, a, b, c⟩
    | succ j => simp at hx; simpa using ih j x hx
theorem CellOk.one {s : Sh} {c : AV} (h : CellOk P s c) : cells c = [c] := by cases h <;> rfl
theorem shapes_scalar {n : Nat} {t : TypeId} {ss : List Sh} (h : shapes P (n + 1) t = some ss) (hn : ∀ fs, P.underlying t ≠ some (.struct fs)) : ss.length = 1 := by
  simp only [shapes] at h
  split at h
  · simp at h; subst h; rfl
  · simp at h; subst h; rfl
  · simp at h; subst h; rfl
  · simp at h; subst h; rfl
  · rename_i fs hf; exact absurd hf (hn fs)
  · cases h
theorem cells_mkE {e : TypeId} {ss : List Sh} (hs : shapes P 9 e = some ss) {xs : List AV} {vs : List Value} (h : All3 P w ss xs vs) : cells (mkE P e xs) = xs := by
  unfold mkE
  split
  · rfl
  · rename_i hn
    have h1 := shapes_scalar hs (fun fs hf => hn fs hf)
    have hl := h.len.1
    match xs, hl with
    | [c], _ =>
      obtain ⟨s, v, _, _, hc, _⟩ := h.get 0 c rfl
      exact hc.one
    | [], hl => simp at hl; omega
    | _ :: _ :: _, hl => simp at hl; omega
/-- The types of elements, all with shapes, closed. -/
def okEs (P : Program) (Es : List TypeId) : Bool := Es.all fun e => match shapes P 9 e with
  | some ss => P.cellsOf e == ss.length && (ss.length != 0 && ss.all (fun s => match s with | .sl e' => Es.contains e' | _ => true))
  | none => false
def inEs (Es : List TypeId) (ss : List Sh) : Prop := ∀ e, Sh.sl e ∈ ss → e ∈ Es
theorem okEs_get {Es : List TypeId} (h : okEs P Es = true) {e : TypeId} (he : e ∈ Es) : ∃ ss, shapes P 9 e = some ss ∧ P.cellsOf e = ss.length ∧ 0 < ss.length ∧ inEs Es ss := by
  have := List.all_eq_true.1 h e he
  split at this
  · rename_i ss hs
    simp only [Bool.and_eq_true, beq_iff_eq, bne_iff_ne, ne_eq, List.all_eq_true] at this
    refine ⟨ss, hs, this.1, by omega, fun e' he' => ?_⟩
    simpa using this.2.2 _ he'
  · cases this
theorem fields_cells {H : Type} {enc : TypeId × Value → H} {base : Nat} {held : Bool} {Es : List TypeId} {n m : Nat} {cs : List Value}
    (ih : ∀ (t : TypeId) (ss : List Sh) (cs : List Value) (x : DataW H × List MemPlace), shapes P n t = some ss → inEs Es ss → DataW.trod enc P w base (fun _ => true) held m t cs = some x → ∃ xs, All3 P w ss xs cs) :
    ∀ (l : List Field) (o : Nat) (ss : List Sh), shFields P (shapes P n) o l = some ss → inEs Es ss → o + ss.length ≤ cs.length →
      (∀ f ∈ l, ∃ x, DataW.trod enc P w base (fun _ => true) held m f.type ((cs.drop f.offset).take (P.cellsOf f.type)) = some x) → ∃ xs, All3 P w ss xs ((cs.drop o).take ss.length)
  | [], o, ss, h, _, _, _ => by simp [shFields] at h; subst h; exact ⟨[], by simpa using All3.nil⟩
  | f :: l, o, ss, h, hE, hlen, hf => by
    simp only [shFields] at h
    split at h
    case isFalse => cases h
    rename_i ho
    split at h
    case h_2 => cases h
    rename_i a ha
    split at h
    case isFalse => cases h
    rename_i hc
    split at h
    case h_2 => cases h
    rename_i b hb
    simp only [Option.some.injEq] at h
    subst h
    rw [List.length_append] at hlen ⊢
    obtain ⟨x, hx⟩ := hf f List.mem_cons_self
    rw [ho, hc] at hx
    obtain ⟨ys, hys⟩ := ih _ _ _ _ ha (fun e he => hE e (List.mem_append_left _ he)) hx
    obtain ⟨zs, hzs⟩ := fields_cells ih l (o + a.length) b hb (fun e he => hE e (List.mem_append_right _ he)) (by omega) (fun g hg => hf g (List.mem_cons_of_mem _ hg))
    refine ⟨ys ++ zs, ?_⟩
    have := hys.append hzs
    rwa [← List.drop_drop, ← List.take_add] at this
theorem rep_cells {H : Type} {enc : TypeId × Value → H} {base : Nat} {held : Bool} {Es : List TypeId} (hEs : okEs P Es = true) :
    ∀ (fuel n : Nat) (t : TypeId) (ss : List Sh) (cs : List Value) (x : DataW H × List MemPlace), shapes P n t = some ss → inEs Es ss → DataW.trod enc P w base (fun _ => true) held fuel t cs = some x → ∃ xs, All3 P w ss xs cs := by
  intro fuel
  induction fuel using Nat.strongRecOn with
  | ind fuel ih =>
    intro n t ss cs x hs hE h
    cases n with
    | zero => simp [shapes] at hs
    | succ n =>
      simp only [shapes] at hs
      split at hs
      · rename_i k hu
        simp only [Option.some.injEq] at hs; subst hs
        obtain ⟨z, rfl, _, hw⟩ := DataW.trod_int hu h
        exact ⟨[.int k z], .cons (.int hw) .int rfl .nil⟩
      · rename_i hu
        simp only [Option.some.injEq] at hs; subst hs
        obtain ⟨b, rfl, _⟩ := DataW.trod_bool hu h
        exact ⟨[.bool b], .cons .bool .bool rfl .nil⟩
      · rename_i hu
        simp only [Option.some.injEq] at hs; subst hs
        obtain ⟨b, rfl, _, hb⟩ := DataW.trod_string hu h
        exact ⟨[.str b], .cons (.str hb) .str rfl .nil⟩
      · rename_i e hu
        simp only [Option.some.injEq] at hs; subst hs
        obtain ⟨se, hse, hce, hpos, hEe⟩ := okEs_get hEs (hE e List.mem_cons_self)
        rcases DataW.trod_slice hu h with ⟨hcs, _⟩ | ⟨a', len, cap, elems, rest, m, hm, hcs, _, hbb, hl, hmx, hle, hel, _, _⟩
        · subst hcs
          exact ⟨[.fz se.length [] none], .cons (.sl hse (by simp) (by simp) (by simp) (by simp)) (.fz0 (by simp) (fun _ => ⟨rfl, rfl⟩)) rfl .nil⟩
        · subst hcs
          have each : ∀ i, i < len → ∃ q : List AV × List Value, All3 P w se q.1 q.2 ∧ ∀ (j : Nat) v, q.2[j]? = some v → w.cell? (a'.add (i * se.length + j)) = some v := by
            intro i hi
            have h1 := hel i hi
            rw [List.getElem?_eq_getElem (by omega), hce, Option.bind_eq_some_iff] at h1
            obtain ⟨cs', h3, h4⟩ := h1
            obtain ⟨xs, hx⟩ := ih m (by omega) 9 e se cs' _ hse hEe h4
            refine ⟨(xs, cs'), hx, fun j v hv => ?_⟩
            have hc := (World.cells?_some h3).2.2
            have hv' : cs'[j]? = some v := hv
            have hj : j < se.length := by have := (List.getElem?_eq_some_iff.1 hv').1; have := hx.len.2; omega
            have g := hc j hj
            rw [Ev.add_add] at g
            rw [g]; exact hv
          obtain ⟨f, hf⟩ : ∃ f : Nat → List AV × List Value, ∀ i, i < len → All3 P w se (f i).1 (f i).2 ∧ ∀ (j : Nat) v, (f i).2[j]? = some v → w.cell? (a'.add (i * se.length + j)) = some v :=
            ⟨fun i => if hi : i < len then Classical.choose (each i hi) else ([], []), fun i hi => by
              simp only [dif_pos hi]
              exact Classical.choose_spec (each i hi)⟩
          have hcE : ∀ i, i < len → cells (mkE P e (f i).1) = (f i).1 := fun i hi => cells_mkE hse (hf i hi).1
          obtain ⟨es, hes⟩ : ∃ es, es = (List.range len).map fun i => mkE P e (f i).1 := ⟨_, rfl⟩
          have hlen2 : es.length = len := by rw [hes]; simp
          have hget : ∀ (i : Nat) y, es[i]? = some y → i < len ∧ y = mkE P e (f i).1 := by
            intro i y hy
            have hi : i < len := by have := (List.getElem?_eq_some_iff.1 hy).1; omega
            rw [hes, List.getElem?_map, List.getElem?_range hi] at hy
            simp only [Option.map_some, Option.some.injEq] at hy
            exact ⟨hi, hy.symm⟩
          have hmem : ∀ y ∈ es, ∃ i, i < len ∧ y = mkE P e (f i).1 := by
            intro y hy
            obtain ⟨i, hi⟩ := List.mem_iff_getElem?.1 hy
            exact ⟨i, hget i y hi⟩
          refine ⟨[.fz se.length es none], .cons (.sl hse (by omega) (fun y hy => ?_) (fun y hy => ?_) (fun y hy j s c h1 h2 => ?_)) ?_ rfl .nil⟩
          · obtain ⟨i, hi, rfl⟩ := hmem y hy
            rw [hcE i hi]; exact (hf i hi).1.len.1
          · obtain ⟨i, hi, rfl⟩ := hmem y hy
            rw [hcE i hi]
          · obtain ⟨i, hi, rfl⟩ := hmem y hy
            rw [hcE i hi] at h2
            obtain ⟨s', v, h3, _, h4, _⟩ := (hf i hi).1.get j c h2
            rw [h1] at h3; cases h3
            exact h4
          · by_cases h0 : len = 0
            · subst h0
              have : es = [] := List.eq_nil_of_length_eq_zero hlen2
              subst this
              exact .fz0 (by simp) (fun e => by cases e)
            · have hsl : (Value.slice (some a') len cap) = .slice (some a') es.length cap := by rw [hlen2]
              rw [hsl]
              have one : ∀ (i : Nat) y (j : Nat) z, es[i]? = some y → (cells y)[j]? = some z → ∃ v, (f i).2[j]? = some v ∧ w.cell? (a'.add (i * se.length + j)) = some v ∧ Rep none4 (fun _ => False) zeroC w true z v ∧ v.oneCell' = true := by
                intro i y j z hy hj
                obtain ⟨hi, rfl⟩ := hget i y hy
                rw [hcE i hi] at hj
                obtain ⟨s', v, _, h3, _, h5, h6⟩ := (hf i hi).1.get j z hj
                exact ⟨v, h3, (hf i hi).2 j v h3, h5, h6⟩
              refine .fz (fun i j => ((f i).2[j]?).getD undef) (fun e => by rw [e] at hlen2; simp at hlen2; omega) (by omega) (by simp) (fun i y hy => ?_) (fun i y j z hy hj => ?_) (fun i y j z hy hj => ?_) (fun i y j z hy hj => ?_) ⟨fun _ _ _ h => h, fun h => h, ?_⟩
              · obtain ⟨hi, rfl⟩ := hget i y hy
                rw [hcE i hi]; exact (hf i hi).1.len.1
              · obtain ⟨v, h1, h2, _⟩ := one i y j z hy hj
                rw [h1]; exact h2
              · obtain ⟨v, h1, _, h2, _⟩ := one i y j z hy hj
                rw [h1]; exact h2
              · obtain ⟨v, h1, _, _, h2⟩ := one i y j z hy hj
                rw [h1]; exact h2
              · have hl2 := (hf 0 (by omega)).1.len.2
                have := World.block_lt_of_cell? w _ ((hf 0 (by omega)).2 0 _ (List.getElem?_eq_getElem (by omega)))
                rwa [Ev.add_block] at this
      · rename_i fs hu
        split at hs
        case h_2 => cases hs
        rename_i ss' hsf
        split at hs
        case isFalse => cases hs
        rename_i hct
        simp only [Option.some.injEq] at hs; subst hs
        obtain ⟨xs, m, hm, rfl, hl, hlen, hf⟩ := DataW.trod_struct hu h
        have hl' : cs.length = ss'.length := by omega
        obtain ⟨ys, hys⟩ := fields_cells (Es := Es) (n := n) (m := m) (cs := cs) (fun t ss cs x h1 h2 h3 => ih m (by omega) n t ss cs x h1 h2 h3) fs.toList 0 ss' hsf hE (by omega) (fun f hmemf => by
          obtain ⟨i, hi⟩ := List.mem_iff_getElem?.1 hmemf
          have hi' : fs[i]? = some f := by simpa using hi
          have h1 := hf i f hi'
          have hlt : i < xs.length := by have := (List.getElem?_eq_some_iff.1 hi).1; simp at this; omega
          rw [List.getElem?_eq_getElem hlt] at h1
          exact ⟨_, h1⟩)
        refine ⟨ys, ?_⟩
        rw [List.drop_zero, List.take_of_length_le (by omega)] at hys
        exact hys
      · cases hs
/-- An argument of a struct type. -/
theorem rep_struct {H : Type} {enc : TypeId × Value → H} {base : Nat} {held : Bool} (Es : List TypeId) {t : TypeId} {ss : List Sh} {vs : Array Value} {d : DataW H} {ps : List MemPlace}
    (hEs : okEs P Es = true) (hs : shapes P 9 t = some ss) (hE : inEs Es ss) (h : DataW.Trod enc P w base (fun _ => true) held t (.agg vs) d ps) :
    ∃ xs, xs.length = ss.length ∧ (∀ (j : Nat) s x, ss[j]? = some s → xs[j]? = some x → CellOk P s x) ∧ Rep none4 (fun _ => False) zeroC w true (.agg xs) (.agg vs) := by
  obtain ⟨fuel, hf⟩ := h
  obtain ⟨xs, hx⟩ := rep_cells hEs fuel 9 t ss _ _ hs hE hf
  have hcs : (Value.agg vs).cells.toList = vs.toList := rfl
  rw [hcs] at hx
  have hl := hx.len
  refine ⟨xs, hl.1, fun j s x h1 h2 => ?_, .agg (by rw [← Array.length_toList]; omega) (fun j x hj => ?_)⟩
  · obtain ⟨s', v, h3, _, h4, _⟩ := hx.get j x h2
    rw [h1] at h3; cases h3
    exact h4
  · obtain ⟨s', v, _, h3, _, h4, _⟩ := hx.get j x hj
    have : vs.getD j undef = v := by
      rw [Array.getElem?_toList] at h3
      rw [Array.getD_eq_getD_getElem?, h3]; rfl
    rw [this]; exact h4
/-- An argument of a slice's type. -/
theorem rep_slice {H : Type} {enc : TypeId × Value → H} {base : Nat} {held : Bool} (Es : List TypeId) {t e : TypeId} {a : Option Addr} {len cap : Nat} {d : DataW H} {ps : List MemPlace}
    (hEs : okEs P Es = true) (hs : P.underlying t = some (.slice e)) (hE : e ∈ Es) (h : DataW.Trod enc P w base (fun _ => true) held t (.slice a len cap) d ps) :
    ∃ x, CellOk P (.sl e) x ∧ Rep none4 (fun _ => False) zeroC w true x (.slice a len cap) := by
  obtain ⟨fuel, hf⟩ := h
  have hsh : shapes P 9 t = some [.sl e] := by simp only [shapes, hs]
  obtain ⟨xs, hx⟩ := rep_cells hEs fuel 9 t _ _ _ hsh (fun e' he' => by simp at he'; subst he'; exact hE) hf
  have hcs : (Value.slice a len cap).cells.toList = [.slice a len cap] := rfl
  rw [hcs] at hx
  have hl := hx.len
  match xs, hl with
  | [x], _ =>
    obtain ⟨s', v, h1, h3, h2, h4, _⟩ := hx.get 0 x rfl
    simp at h1 h3; subst h1 h3
    exact ⟨x, h2, h4⟩
  | [], hl => simp at hl
  | _ :: _ :: _, hl => simp at hl
end
end Go.Ev
/- THE LAW RingLists: a key is kept by so many servers, in the order of sums: the row's function answers true and leaves memory as it was.
   The walks step through the compiled bodies; here the row's reading of the arguments is opened and the answer shut. -/
namespace Go.Proofs.Ytmokhopjnjecbab.ringLists
open Go.ChangeShapes Go.WideShapes Go.ChangeAt Go.RowKit
open Go.Ev (PCalls Rep Reps none4 avs)
set_option linter.unusedVariables false
set_option maxRecDepth 100000
theorem own : ownKnob Try.prog.godebug = none := by kernel_rfl
theorem laidOut : laidOutB Try.prog = true := by kernel_rfl
theorem lifted (os : Os) (started : os.Started) (H : Type) (enc : TypeId × Value → H) :
    ReturnsInHanded {} Try.checked os 8 .any (Rows.ringListsSpec.pre6 enc Try.prog Try.f8 Rows.ringListsRow.domain false) (Rows.ringListsSpec.post enc Try.prog Try.f8 false true false false) := by
  refine returnsInHanded_of_change_sized (C := Try.checked) own started (by kernel_rfl) Try.func8
    (ChangeSpec.witness6 (enc := enc) (C := Try.checked) false ⟨#[], #[.string ⟨#[]⟩, .int .i64 0, .int .i64 0, .int .i64 0], []⟩ 8 (by kernel_rfl) (by kernel_rfl) (by kernel_rfl) (by kernel_rfl)) ?_
  intro W base args ds gs before hval0 hW hcnd hsz0 _
  have hval : ∀ (j : Nat) t v, Try.f8.params[j]? = some t → args[j]? = some v → Value.okWide Try.prog W .any base t v := hval0
  have hW' := hW
  obtain ⟨p, q, hA0, hV, rfl, hfz, hnd⟩ := hW
  have hA : DataW.TrodAll enc Try.prog W 0 (fun _ => true) true Try.f8.params.toList args.toList ds p := hA0
  rw [Try.params8] at hA hval
  obtain ⟨v0, vs0, d0, ds0, p0, q0, hargs, rfl, rfl, h0, r0⟩ := trodAll_cons hA
  obtain ⟨v1, vs1, d1, ds1, p1, q1, rfl, rfl, rfl, h1, r1⟩ := trodAll_cons r0
  obtain ⟨v2, vs2, d2, ds2, p2, q2, rfl, rfl, rfl, h2, r2⟩ := trodAll_cons r1
  obtain ⟨v3, vs3, d3, ds3, p3, q3, rfl, rfl, rfl, h3, r3⟩ := trodAll_cons r2
  obtain ⟨rfl, rfl, rfl⟩ := trodAll_nil r3
  obtain rfl : args = #[v0, v1, v2, v3] := by cases args; simp_all
  obtain ⟨rfl, rfl⟩ := trodVars_none hV
  have k0 := h0
  have lt0 : ∀ x ∈ p0, x.block < W.heap.size := by obtain ⟨m, hm⟩ := k0; exact DataW.trod_lt m _ _ _ hm
  obtain ⟨s0, rfl, _⟩ := Go.ChangeMaps.open_string Try.underlying9 (hval 0 9 v0 rfl rfl) h0
  have k1 := h1
  have lt1 : ∀ x ∈ p1, x.block < W.heap.size := by obtain ⟨m, hm⟩ := k1; exact DataW.trod_lt m _ _ _ hm
  obtain ⟨n1, rfl, _, _, hwf1⟩ := open_int Try.underlying3 (hval 1 3 v1 rfl rfl) h1
  have hr1 : -9223372036854775808 ≤ n1 ∧ n1 < 9223372036854775808 := by
    simp [Lit.wf, IntKind.min, IntKind.max, IntKind.signed, IntKind.bits] at hwf1
    omega
  have k2 := h2
  have lt2 : ∀ x ∈ p2, x.block < W.heap.size := by obtain ⟨m, hm⟩ := k2; exact DataW.trod_lt m _ _ _ hm
  obtain ⟨n2, rfl, _, _, hwf2⟩ := open_int Try.underlying3 (hval 2 3 v2 rfl rfl) h2
  have hr2 : -9223372036854775808 ≤ n2 ∧ n2 < 9223372036854775808 := by
    simp [Lit.wf, IntKind.min, IntKind.max, IntKind.signed, IntKind.bits] at hwf2
    omega
  have k3 := h3
  have lt3 : ∀ x ∈ p3, x.block < W.heap.size := by obtain ⟨m, hm⟩ := k3; exact DataW.trod_lt m _ _ _ hm
  obtain ⟨n3, rfl, _, _, hwf3⟩ := open_int Try.underlying3 (hval 3 3 v3 rfl rfl) h3
  have hr3 : -9223372036854775808 ≤ n3 ∧ n3 < 9223372036854775808 := by
    simp [Lit.wf, IntKind.min, IntKind.max, IntKind.signed, IntKind.bits] at hwf3
    omega
  refine ((ringLists_row s0 n1 hr1 n2 hr2 n3 hr3).calls (fun _ => False) W [.string s0, .int .i64 n1, .int .i64 n2, .int .i64 n3] (fun _ h => h.elim) (.cons .str (.cons .int (.cons .int (.cons .int .nil))))).mono fun e W' he => ?_
  obtain ⟨v, rfl, bel, hv⟩ := he
  cases hv
  exact ⟨_, rfl, _, _, _, [], _, [], hW', trodAll_mk1 (shut_bool Try.underlying4 _), (trodAll_cons_mk (Below.trod laidOut (by kernel_rfl) (of_decide_eq_true (by kernel_rfl)) k0 bel lt0) (trodAll_cons_mk (Below.trod laidOut (by kernel_rfl) (of_decide_eq_true (by kernel_rfl)) k1 bel lt1) (trodAll_cons_mk (Below.trod laidOut (by kernel_rfl) (of_decide_eq_true (by kernel_rfl)) k2 bel lt2) (trodAll_cons_mk (Below.trod laidOut (by kernel_rfl) (of_decide_eq_true (by kernel_rfl)) k3 bel lt3) trodAll_mk0)))), rfl, bel.frame _, fun h => by cases h⟩
theorem over : Rows.ringListsRow.holds Try.pinned (OpenSpec.ofChange Rows.ringListsSpec) :=
  OpenClaim.holds_of_wide 8 Try.f8 rfl rfl rfl rfl rfl rfl rfl ⟨rfl, rfl, rfl, rfl, rfl⟩ rfl rfl rfl rfl rfl (by kernel_rfl) Try.func8 (by kernel_rfl)
    (of_decide_eq_true (by kernel_rfl)) (by unfold Func.isWrapper; first | (rw [if_pos (by decide +kernel)]; kernel_rfl) | (rw [if_neg (by decide +kernel)]; exact ⟨rfl, rfl⟩))
    (fun os started H enc _ => lifted os started H enc)
theorem proved : Rows.RingListsSaid := over
#print axioms proved
end Go.Proofs.Ytmokhopjnjecbab.ringLists
namespace Go.Proofs.Ytmokhopjnjecbab
/-- The row, under a short name, for the claim. -/
theorem ringLists_holds : Rows.RingListsSaid := ringLists.proved
end Go.Proofs.Ytmokhopjnjecbab
