/- The walk through the reference's sum, and the law. -/
import Derived.Test.YtmokhopjnjecbaaWSum
namespace Go.Proofs.Ytmokhopjnjecbaa
open Go.Ev
set_option linter.unusedVariables false
set_option linter.unusedSimpArgs false
set_option maxRecDepth 100000

theorem bits_loop (bs : List Nat) (i b : Nat) (hi : bs[i]? = some b) (hb : b < 256) (R : List AV → Heap → Nat → Prop) (k : List It) (hk : flat k) (a1 a2 a7 a8 a9 a10 a11 : AV) : ∀ (n j r : Nat), j + n = 8 → r < 2 ^ 32 → ∀ (j5 j6 j13 j14 j15 j16 j17 j18 j19 j20 j21 j22 j23 j24 j25 j26 j27 j28 j29 j30 j31 j32 j33 j34 j35 j36 j37 : AV),
    (∀ (j5 j6 j12 j13 j14 j15 j16 j17 j18 j19 j20 j21 j22 j23 j24 j25 j26 j27 j28 j29 j30 j31 j32 j33 j34 j35 j36 j37 : AV), RunsX Try.prog 0 R k [.fz 1 (avs bs) none, a1, a2, .int .u64 (rsteps n r b j : Nat), .int .i64 (i : Nat), j5, j6, a7, a8, a9, a10, a11, j12, j13, j14, j15, j16, j17, j18, j19, j20, j21, j22, j23, j24, j25, j26, j27, j28, j29, j30, j31, j32, j33, j34, j35, j36, j37] [] 0) →
    RunsX Try.prog 0 R (.lp c17_l0 :: .blk 2 :: k) [.fz 1 (avs bs) none, a1, a2, .int .u64 (r : Nat), .int .i64 (i : Nat), j5, j6, a7, a8, a9, a10, a11, .int .i64 (j : Nat), j13, j14, j15, j16, j17, j18, j19, j20, j21, j22, j23, j24, j25, j26, j27, j28, j29, j30, j31, j32, j33, j34, j35, j36, j37] [] 0 := by
  intro n
  induction n with
  | zero =>
    intro j r hj hr j5 j6 j13 j14 j15 j16 j17 j18 j19 j20 j21 j22 j23 j24 j25 j26 j27 j28 j29 j30 j31 j32 j33 j34 j35 j36 j37 h
    simp only [rsteps] at h
    refine round (its := [.blk 2]) 60 hk trivial (fun A eA => ?_)
    obtain rfl : j = 8 := by omega
    simp only [c17_l0, advStep, execK, opK, binK, intK, strK, evs, ev, getT, setT, put, List.replicate, List.cons_append, List.nil_append, List.length_cons, List.length_nil, mapK, frzK, getB, setB, kill, find, cells, nilpK, nilsK, nilfK, niliK, bndK, cutK, fillK, exitK, List.append_nil, List.drop, List.take, Nat.reduceAdd, Nat.reduceSub, Nat.reduceMul, Nat.reduceLT, Nat.reduceLeDiff, Nat.zero_add, Nat.add_zero, Nat.mul_one, if_true, if_false, ite_self, reduceIte, reduceCtorEq, Bool.not_true, Bool.not_false, Bool.false_eq_true, Bool.true_eq_false, and_self, and_true, true_and, false_and, and_false, decide_true, decide_false, eA]
    exact h _ _ _ _ _ _ _ _ _ _ _ _ _ _ _ _ _ _ _ _ _ _ _ _ _ _ _ _
  | succ n ih =>
    intro j r hj hr j5 j6 j13 j14 j15 j16 j17 j18 j19 j20 j21 j22 j23 j24 j25 j26 j27 j28 j29 j30 j31 j32 j33 j34 j35 j36 j37 h
    simp only [rsteps] at h
    refine round (its := [.blk 2]) 60 hk trivial (fun A eA => ?_)
    have h1 : (j : Int) < 8 := by omega
    have h2 : ¬ ((i : Int) < 0) := by omega
    have h3 : ¬ ((j : Int) < 0) := by omega
    have h4 : ¬ ((2 : Int) = 0) := by omega
    have e1 : (avs bs)[(i : Int).toNat]? = some (.int .u8 (b : Nat)) := by
      rw [Int.toNat_natCast, avs_get, hi]; rfl
    have e2 : IntKind.u64.wrap (j : Int) = ((j : Nat) : Int) := wrap_nat .u64 rfl j (by show j < 2 ^ 64; omega)
    have e3 : ishr .u8 (b : Int) (j : Int) = ((b / 2 ^ j : Nat) : Int) := ishr_nat .u8 .u64 b j (by show j ≤ 8; omega)
    have e4 : ibits .and .u8 ((b / 2 ^ j : Nat) : Int) 1 = ((b / 2 ^ j % 2 : Nat) : Int) := by
      have := ibits_and .u8 rfl (b / 2 ^ j) 1 (Nat.lt_of_le_of_lt (Nat.div_le_self _ _) hb) (by decide)
      rw [Nat.and_one_is_mod] at this; exact this
    have e5 : IntKind.u64.wrap ((b / 2 ^ j % 2 : Nat) : Int) = ((b / 2 ^ j % 2 : Nat) : Int) := wrap_nat .u64 rfl _ (by show _ < 2 ^ 64; omega)
    have e6 : (r : Int).tmod 2 = ((r % 2 : Nat) : Int) := by rw [Int.tmod_eq_emod_of_nonneg (by omega)]; omega
    have e7 : ibits .xor .u64 ((r % 2 : Nat) : Int) ((b / 2 ^ j % 2 : Nat) : Int) = ((rbit r b j : Nat) : Int) := ibits_xor .u64 rfl _ _ (by show _ < 2 ^ 64; omega) (by show _ < 2 ^ 64; omega)
    have e8 : IntKind.u64.wrap ((r : Int).tdiv 2) = ((r / 2 : Nat) : Int) := by
      have : (r : Int).tdiv 2 = ((r / 2 : Nat) : Int) := by rw [Int.tdiv_eq_ediv_of_nonneg (by omega)]; omega
      rw [this]
      exact wrap_nat .u64 rfl _ (by show _ < 2 ^ 64; omega)
    have e9 : ibits .xor .u64 ((r / 2 : Nat) : Int) 2197175160 = ((r / 2 ^^^ 2197175160 : Nat) : Int) := ibits_xor .u64 rfl (r / 2) 2197175160 (by show r / 2 < 2 ^ 64; omega) (by decide)
    have e10 : IntKind.i64.wrap ((j : Int) + 1) = ((j + 1 : Nat) : Int) := by rw [IntKind.wrap_i64]; omega
    have hst := rstep_lt (b := b) (j := j) hr
    by_cases hbit : rbit r b j = 1
    · have g5 : rstep r b j = r / 2 ^^^ 2197175160 := by simp [rstep, hbit]
      have g6 : (((rbit r b j : Nat) : Int) = 1) := by omega
      simp only [c17_l0, advStep, execK, opK, binK, intK, strK, evs, ev, getT, setT, put, List.replicate, List.cons_append, List.nil_append, List.length_cons, List.length_nil, mapK, frzK, getB, setB, kill, find, cells, nilpK, nilsK, nilfK, niliK, bndK, cutK, fillK, exitK, List.append_nil, List.drop, List.take, Nat.reduceAdd, Nat.reduceSub, Nat.reduceMul, Nat.reduceLT, Nat.reduceLeDiff, Nat.zero_add, Nat.add_zero, Nat.mul_one, if_true, if_false, ite_self, reduceIte, reduceCtorEq, Bool.not_true, Bool.not_false, Bool.false_eq_true, Bool.true_eq_false, and_self, and_true, true_and, false_and, and_false, decide_true, decide_false, eA, h1, h2, h3, h4, e1, e2, e3, e4, e5, e6, e7, e8, e9, e10, g6]
      rw [← g5]
      exact ih (j + 1) (rstep r b j) (by omega) hst _ _ _ _ _ _ _ _ _ _ _ _ _ _ _ _ _ _ _ _ _ _ _ _ _ _ _ h
    · have g5 : rstep r b j = r / 2 := by simp [rstep, hbit]
      have g6 : ¬ (((rbit r b j : Nat) : Int) = 1) := by omega
      simp only [c17_l0, advStep, execK, opK, binK, intK, strK, evs, ev, getT, setT, put, List.replicate, List.cons_append, List.nil_append, List.length_cons, List.length_nil, mapK, frzK, getB, setB, kill, find, cells, nilpK, nilsK, nilfK, niliK, bndK, cutK, fillK, exitK, List.append_nil, List.drop, List.take, Nat.reduceAdd, Nat.reduceSub, Nat.reduceMul, Nat.reduceLT, Nat.reduceLeDiff, Nat.zero_add, Nat.add_zero, Nat.mul_one, if_true, if_false, ite_self, reduceIte, reduceCtorEq, Bool.not_true, Bool.not_false, Bool.false_eq_true, Bool.true_eq_false, and_self, and_true, true_and, false_and, and_false, decide_true, decide_false, eA, h1, h2, h3, h4, e1, e2, e3, e4, e5, e6, e7, e8, e9, e10, g6]
      rw [← g5]
      exact ih (j + 1) (rstep r b j) (by omega) hst _ _ _ _ _ _ _ _ _ _ _ _ _ _ _ _ _ _ _ _ _ _ _ _ _ _ _ h

theorem ref_loop (bs : List Nat) (hbs : ∀ b ∈ bs, b < 256) (hlen : bs.length ≤ 140737488351232) (R : List AV → Heap → Nat → Prop) (k : List It) (hk : flat k) : ∀ (rest pre : List Nat), bs = pre ++ rest → ∀ (s : Nat), s < 2 ^ 32 → ∀ (j1 j2 j4 j5 j6 j10 j11 j12 j13 j14 j15 j16 j17 j18 j19 j20 j21 j22 j23 j24 j25 j26 j27 j28 j29 j30 j31 j32 j33 j34 j35 j36 j37 : AV),
    (∀ (j1 j2 j4 j5 j6 j10 j11 j12 j13 j14 j15 j16 j17 j18 j19 j20 j21 j22 j23 j24 j25 j26 j27 j28 j29 j30 j31 j32 j33 j34 j35 j36 j37 : AV), RunsX Try.prog 0 R k [.fz 1 (avs bs) none, j1, j2, .int .u64 (rest.foldl add s : Nat), j4, j5, j6, .fz 1 (avs bs) none, .int .i64 (bs.length : Nat), .int .i64 (bs.length : Nat), j10, j11, j12, j13, j14, j15, j16, j17, j18, j19, j20, j21, j22, j23, j24, j25, j26, j27, j28, j29, j30, j31, j32, j33, j34, j35, j36, j37] [] 0) →
    RunsX Try.prog 0 R (.lp c17_l1 :: .blk 0 :: k) [.fz 1 (avs bs) none, j1, j2, .int .u64 (s : Nat), j4, j5, j6, .fz 1 (avs bs) none, .int .i64 (bs.length : Nat), .int .i64 (pre.length : Nat), j10, j11, j12, j13, j14, j15, j16, j17, j18, j19, j20, j21, j22, j23, j24, j25, j26, j27, j28, j29, j30, j31, j32, j33, j34, j35, j36, j37] [] 0 := by
  intro rest
  induction rest with
  | nil =>
    intro pre hpre s hs j1 j2 j4 j5 j6 j10 j11 j12 j13 j14 j15 j16 j17 j18 j19 j20 j21 j22 j23 j24 j25 j26 j27 j28 j29 j30 j31 j32 j33 j34 j35 j36 j37 h
    simp only [List.foldl_nil] at h
    refine round (its := [.blk 0]) 60 hk trivial (fun A eA => ?_)
    rw [List.append_nil] at hpre
    subst hpre
    have h1 : ¬ ((bs.length : Int) < bs.length) := by omega
    simp only [c17_l1, advStep, execK, opK, binK, intK, strK, evs, ev, getT, setT, put, List.replicate, List.cons_append, List.nil_append, List.length_cons, List.length_nil, mapK, frzK, getB, setB, kill, find, cells, nilpK, nilsK, nilfK, niliK, bndK, cutK, fillK, exitK, List.append_nil, List.drop, List.take, Nat.reduceAdd, Nat.reduceSub, Nat.reduceMul, Nat.reduceLT, Nat.reduceLeDiff, Nat.zero_add, Nat.add_zero, Nat.mul_one, if_true, if_false, ite_self, reduceIte, reduceCtorEq, Bool.not_true, Bool.not_false, Bool.false_eq_true, Bool.true_eq_false, and_self, and_true, true_and, false_and, and_false, decide_true, decide_false, eA, h1]
    exact h _ _ _ _ _ _ _ _ _ _ _ _ _ _ _ _ _ _ _ _ _ _ _ _ _ _ _ _ _ _ _ _ _
  | cons b rest ih =>
    intro pre hpre s hs j1 j2 j4 j5 j6 j10 j11 j12 j13 j14 j15 j16 j17 j18 j19 j20 j21 j22 j23 j24 j25 j26 j27 j28 j29 j30 j31 j32 j33 j34 j35 j36 j37 h
    simp only [List.foldl_cons] at h
    have hl : pre.length < bs.length := by rw [hpre]; simp
    have hb : b < 256 := hbs b (by rw [hpre]; simp)
    have h1 : (pre.length : Int) < bs.length := by omega
    have e1 : bs[pre.length]? = some b := by
      rw [hpre, List.getElem?_append_right (Nat.le_refl _), Nat.sub_self]; rfl
    have e4 : IntKind.i64.wrap ((pre.length : Int) + 1) = (((pre ++ [b]).length : Nat) : Int) := by
      rw [IntKind.wrap_i64, List.length_append]; simp only [List.length_cons, List.length_nil]; omega
    refine round (its := [.blk 0]) 60 hk trivial (fun A eA => ?_)
    simp only [c17_l1, advStep, execK, opK, binK, intK, strK, evs, ev, getT, setT, put, List.replicate, List.cons_append, List.nil_append, List.length_cons, List.length_nil, mapK, frzK, getB, setB, kill, find, cells, nilpK, nilsK, nilfK, niliK, bndK, cutK, fillK, exitK, List.append_nil, List.drop, List.take, Nat.reduceAdd, Nat.reduceSub, Nat.reduceMul, Nat.reduceLT, Nat.reduceLeDiff, Nat.zero_add, Nat.add_zero, Nat.mul_one, if_true, if_false, ite_self, reduceIte, reduceCtorEq, Bool.not_true, Bool.not_false, Bool.false_eq_true, Bool.true_eq_false, and_self, and_true, true_and, false_and, and_false, decide_true, decide_false, eA, h1]
    refine bits_loop bs pre.length b e1 hb R (.blk 1 :: .c c17_k0 :: .lp c17_l1 :: .blk 0 :: k) hk _ _ _ _ _ _ _ 8 0 s rfl hs _ _ _ _ _ _ _ _ _ _ _ _ _ _ _ _ _ _ _ _ _ _ _ _ _ _ _ ?_
    intro j5 j6 j12 j13 j14 j15 j16 j17 j18 j19 j20 j21 j22 j23 j24 j25 j26 j27 j28 j29 j30 j31 j32 j33 j34 j35 j36 j37
    refine walk 60 (its := [.blk 1, .c c17_k0, .lp c17_l1, .blk 0]) hk trivial (fun A eA => ?_)
    rw [rsteps_add s b hb]
    simp only [c17_k0, advStep, execK, opK, binK, intK, strK, evs, ev, getT, setT, put, List.replicate, List.cons_append, List.nil_append, List.length_cons, List.length_nil, mapK, frzK, getB, setB, kill, find, cells, nilpK, nilsK, nilfK, niliK, bndK, cutK, fillK, exitK, List.append_nil, List.drop, List.take, Nat.reduceAdd, Nat.reduceSub, Nat.reduceMul, Nat.reduceLT, Nat.reduceLeDiff, Nat.zero_add, Nat.add_zero, Nat.mul_one, if_true, if_false, ite_self, reduceIte, reduceCtorEq, Bool.not_true, Bool.not_false, Bool.false_eq_true, Bool.true_eq_false, and_self, and_true, true_and, false_and, and_false, decide_true, decide_false, eA, e4]
    exact ih (pre ++ [b]) (by rw [hpre]; simp) (add s b) (add_lt hs hb) _ _ _ _ _ _ _ _ _ _ _ _ _ _ _ _ _ _ _ _ _ _ _ _ _ _ _ _ _ _ _ _ _ h
theorem ref_calls (bs : List Nat) (hbs : ∀ b ∈ bs, b < 256) (hlen : bs.length ≤ 140737488351232) : PCalls Try.prog 17 [.fz 1 (avs bs) none] (.int .u32 (crcOf bs : Nat)) := by
  refine calls17 (walk0 60 trivial (fun A eA => ?_))
  simp only [c17, advStep, execK, opK, binK, intK, strK, evs, ev, getT, setT, put, List.replicate, List.cons_append, List.nil_append, List.length_cons, List.length_nil, mapK, frzK, getB, setB, kill, find, cells, nilpK, nilsK, nilfK, niliK, bndK, cutK, fillK, exitK, List.append_nil, List.drop, List.take, Nat.reduceAdd, Nat.reduceSub, Nat.reduceMul, Nat.reduceLT, Nat.reduceLeDiff, Nat.zero_add, Nat.add_zero, Nat.mul_one, if_true, if_false, ite_self, reduceIte, reduceCtorEq, Bool.not_true, Bool.not_false, Bool.false_eq_true, Bool.true_eq_false, and_self, and_true, true_and, false_and, and_false, decide_true, decide_false, eA, avs_len]
  refine ref_loop bs hbs hlen _ [.c c17_k1] trivial bs [] rfl 4294967295 (by decide) _ _ _ _ _ _ _ _ _ _ _ _ _ _ _ _ _ _ _ _ _ _ _ _ _ _ _ _ _ _ _ _ _ ?_
  intro j1 j2 j4 j5 j6 j10 j11 j12 j13 j14 j15 j16 j17 j18 j19 j20 j21 j22 j23 j24 j25 j26 j27 j28 j29 j30 j31 j32 j33 j34 j35 j36 j37
  refine walk0 60 trivial (fun A eA => ?_)
  have hf := fold_lt bs (s := 4294967295) (by decide) hbs
  have e2 : ibits .xor .u64 ((bs.foldl add 4294967295 : Nat) : Int) 4294967295 = ((crcOf bs : Nat) : Int) := ibits_xor .u64 rfl _ 4294967295 (Nat.lt_trans hf (by decide)) (by decide)
  have e3 : IntKind.u32.wrap ((crcOf bs : Nat) : Int) = ((crcOf bs : Nat) : Int) := wrap_nat .u32 rfl _ (Nat.xor_lt_two_pow hf (by decide))
  simp only [c17_k1, advStep, execK, opK, binK, intK, strK, evs, ev, getT, setT, put, List.replicate, List.cons_append, List.nil_append, List.length_cons, List.length_nil, mapK, frzK, getB, setB, kill, find, cells, nilpK, nilsK, nilfK, niliK, bndK, cutK, fillK, exitK, List.append_nil, List.drop, List.take, Nat.reduceAdd, Nat.reduceSub, Nat.reduceMul, Nat.reduceLT, Nat.reduceLeDiff, Nat.zero_add, Nat.add_zero, Nat.mul_one, if_true, if_false, ite_self, reduceIte, reduceCtorEq, Bool.not_true, Bool.not_false, Bool.false_eq_true, Bool.true_eq_false, and_self, and_true, true_and, false_and, and_false, decide_true, decide_false, eA, e2, e3]
  simp only [RunsO, Gives, retK, gets, retv, advStep, execK, opK, binK, intK, strK, evs, ev, getT, setT, put, List.replicate, List.cons_append, List.nil_append, List.length_cons, List.length_nil, mapK, frzK, getB, setB, kill, find, cells, nilpK, nilsK, nilfK, niliK, bndK, cutK, fillK, exitK, List.append_nil, List.drop, List.take, Nat.reduceAdd, Nat.reduceSub, Nat.reduceMul, Nat.reduceLT, Nat.reduceLeDiff, Nat.zero_add, Nat.add_zero, Nat.mul_one, if_true, if_false, ite_self, reduceIte, reduceCtorEq, Bool.not_true, Bool.not_false, Bool.false_eq_true, Bool.true_eq_false, and_self, and_true, true_and, false_and, and_false, decide_true, decide_false, eA]
theorem law_calls (bs : List Nat) (hbs : ∀ b ∈ bs, b < 256) (hlen : bs.length ≤ 140737488351232) : PCalls Try.prog 3 [.fz 1 (avs bs) none] (.bool true) := by
  refine calls3 (walk0 60 trivial (fun A eA => ?_))
  simp only [c3, advStep, execK, opK, binK, intK, strK, evs, ev, getT, setT, put, List.replicate, List.cons_append, List.nil_append, List.length_cons, List.length_nil, mapK, frzK, getB, setB, kill, find, cells, nilpK, nilsK, nilfK, niliK, bndK, cutK, fillK, exitK, List.append_nil, List.drop, List.take, Nat.reduceAdd, Nat.reduceSub, Nat.reduceMul, Nat.reduceLT, Nat.reduceLeDiff, Nat.zero_add, Nat.add_zero, Nat.mul_one, if_true, if_false, ite_self, reduceIte, reduceCtorEq, Bool.not_true, Bool.not_false, Bool.false_eq_true, Bool.true_eq_false, and_self, and_true, true_and, false_and, and_false, decide_true, decide_false, eA, avs_len]
  refine call0 60 trivial trivial awake_calls (.inl rfl) (fun A eA => ?_)
  by_cases hbig : (20000 : Int) < bs.length
  · simp only [advStep, execK, opK, binK, intK, strK, evs, ev, getT, setT, put, List.replicate, List.cons_append, List.nil_append, List.length_cons, List.length_nil, mapK, frzK, getB, setB, kill, find, cells, nilpK, nilsK, nilfK, niliK, bndK, cutK, fillK, exitK, List.append_nil, List.drop, List.take, Nat.reduceAdd, Nat.reduceSub, Nat.reduceMul, Nat.reduceLT, Nat.reduceLeDiff, Nat.zero_add, Nat.add_zero, Nat.mul_one, if_true, if_false, ite_self, reduceIte, reduceCtorEq, Bool.not_true, Bool.not_false, Bool.false_eq_true, Bool.true_eq_false, and_self, and_true, true_and, false_and, and_false, decide_true, decide_false, eA, avs_len, hbig]
    refine call0 60 trivial trivial awake_calls (.inl rfl) (fun A eA => ?_)
    simp only [advStep, execK, opK, binK, intK, strK, evs, ev, getT, setT, put, List.replicate, List.cons_append, List.nil_append, List.length_cons, List.length_nil, mapK, frzK, getB, setB, kill, find, cells, nilpK, nilsK, nilfK, niliK, bndK, cutK, fillK, exitK, List.append_nil, List.drop, List.take, Nat.reduceAdd, Nat.reduceSub, Nat.reduceMul, Nat.reduceLT, Nat.reduceLeDiff, Nat.zero_add, Nat.add_zero, Nat.mul_one, if_true, if_false, ite_self, reduceIte, reduceCtorEq, Bool.not_true, Bool.not_false, Bool.false_eq_true, Bool.true_eq_false, and_self, and_true, true_and, false_and, and_false, decide_true, decide_false, eA]
    simp only [RunsO, Gives, retK, gets, retv, advStep, execK, opK, binK, intK, strK, evs, ev, getT, setT, put, List.replicate, List.cons_append, List.nil_append, List.length_cons, List.length_nil, mapK, frzK, getB, setB, kill, find, cells, nilpK, nilsK, nilfK, niliK, bndK, cutK, fillK, exitK, List.append_nil, List.drop, List.take, Nat.reduceAdd, Nat.reduceSub, Nat.reduceMul, Nat.reduceLT, Nat.reduceLeDiff, Nat.zero_add, Nat.add_zero, Nat.mul_one, if_true, if_false, ite_self, reduceIte, reduceCtorEq, Bool.not_true, Bool.not_false, Bool.false_eq_true, Bool.true_eq_false, and_self, and_true, true_and, false_and, and_false, decide_true, decide_false, eA]
  · simp only [advStep, execK, opK, binK, intK, strK, evs, ev, getT, setT, put, List.replicate, List.cons_append, List.nil_append, List.length_cons, List.length_nil, mapK, frzK, getB, setB, kill, find, cells, nilpK, nilsK, nilfK, niliK, bndK, cutK, fillK, exitK, List.append_nil, List.drop, List.take, Nat.reduceAdd, Nat.reduceSub, Nat.reduceMul, Nat.reduceLT, Nat.reduceLeDiff, Nat.zero_add, Nat.add_zero, Nat.mul_one, if_true, if_false, ite_self, reduceIte, reduceCtorEq, Bool.not_true, Bool.not_false, Bool.false_eq_true, Bool.true_eq_false, and_self, and_true, true_and, false_and, and_false, decide_true, decide_false, eA, avs_len, hbig, frz_ints]
    refine call0 60 trivial trivial (crc_calls bs hbs hlen) (.inl rfl) (fun A eA => ?_)
    simp only [advStep, execK, opK, binK, intK, strK, evs, ev, getT, setT, put, List.replicate, List.cons_append, List.nil_append, List.length_cons, List.length_nil, mapK, frzK, getB, setB, kill, find, cells, nilpK, nilsK, nilfK, niliK, bndK, cutK, fillK, exitK, List.append_nil, List.drop, List.take, Nat.reduceAdd, Nat.reduceSub, Nat.reduceMul, Nat.reduceLT, Nat.reduceLeDiff, Nat.zero_add, Nat.add_zero, Nat.mul_one, if_true, if_false, ite_self, reduceIte, reduceCtorEq, Bool.not_true, Bool.not_false, Bool.false_eq_true, Bool.true_eq_false, and_self, and_true, true_and, false_and, and_false, decide_true, decide_false, eA, frz_ints]
    refine call0 60 trivial trivial (ref_calls bs hbs hlen) (.inl rfl) (fun A eA => ?_)
    simp only [advStep, execK, opK, binK, intK, strK, evs, ev, getT, setT, put, List.replicate, List.cons_append, List.nil_append, List.length_cons, List.length_nil, mapK, frzK, getB, setB, kill, find, cells, nilpK, nilsK, nilfK, niliK, bndK, cutK, fillK, exitK, List.append_nil, List.drop, List.take, Nat.reduceAdd, Nat.reduceSub, Nat.reduceMul, Nat.reduceLT, Nat.reduceLeDiff, Nat.zero_add, Nat.add_zero, Nat.mul_one, if_true, if_false, ite_self, reduceIte, reduceCtorEq, Bool.not_true, Bool.not_false, Bool.false_eq_true, Bool.true_eq_false, and_self, and_true, true_and, false_and, and_false, decide_true, decide_false, eA]
    simp only [RunsO, Gives, retK, gets, retv, advStep, execK, opK, binK, intK, strK, evs, ev, getT, setT, put, List.replicate, List.cons_append, List.nil_append, List.length_cons, List.length_nil, mapK, frzK, getB, setB, kill, find, cells, nilpK, nilsK, nilfK, niliK, bndK, cutK, fillK, exitK, List.append_nil, List.drop, List.take, Nat.reduceAdd, Nat.reduceSub, Nat.reduceMul, Nat.reduceLT, Nat.reduceLeDiff, Nat.zero_add, Nat.add_zero, Nat.mul_one, if_true, if_false, ite_self, reduceIte, reduceCtorEq, Bool.not_true, Bool.not_false, Bool.false_eq_true, Bool.true_eq_false, and_self, and_true, true_and, false_and, and_false, decide_true, decide_false, eA]
end Go.Proofs.Ytmokhopjnjecbaa
