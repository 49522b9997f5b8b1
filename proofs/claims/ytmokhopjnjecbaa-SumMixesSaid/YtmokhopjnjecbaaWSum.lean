/- The walk through the sum functions. -/
import Derived.Test.YtmokhopjnjecbaaCdSum
import Derived.Test.YtmokhopjnjecbaaPSum
namespace Go.Proofs.Ytmokhopjnjecbaa
open Go.Ev
set_option linter.unusedVariables false
set_option linter.unusedSimpArgs false
set_option maxRecDepth 100000

theorem add_loop (b : AV) (R : List AV → Heap → Nat → Prop) (k : List It) (hk : flat k) : ∀ (n i s : Nat), i + n = 8 → s < 2 ^ 32 → ∀ (j2 j3 j4 j5 j6 j7 j8 j9 j11 j12 j13 j14 j15 j16 j17 j18 j19 j20 j21 : AV),
    (∀ (j2 j3 j4 j5 j6 j7 j8 j9 j10 j11 j12 j13 j14 j15 j16 j17 j18 j19 j20 j21 : AV), RunsX Try.prog 0 R k [.int .u32 (csteps n s : Nat), b, j2, j3, j4, j5, j6, j7, j8, j9, j10, j11, j12, j13, j14, j15, j16, j17, j18, j19, j20, j21] [] 0) →
    RunsX Try.prog 0 R (.lp c79_l0 :: .blk 0 :: k) [.int .u32 (s : Nat), b, j2, j3, j4, j5, j6, j7, j8, j9, .int .i64 (i : Nat), j11, j12, j13, j14, j15, j16, j17, j18, j19, j20, j21] [] 0 := by
  intro n
  induction n with
  | zero =>
    intro i s hi hs j2 j3 j4 j5 j6 j7 j8 j9 j11 j12 j13 j14 j15 j16 j17 j18 j19 j20 j21 h
    simp only [csteps] at h
    refine round (its := [.blk 0]) 60 hk trivial (fun A eA => ?_)
    obtain rfl : i = 8 := by omega
    simp only [c79_l0, advStep, execK, opK, binK, intK, strK, evs, ev, getT, setT, put, List.replicate, List.cons_append, List.nil_append, List.length_cons, List.length_nil, mapK, frzK, getB, setB, kill, find, cells, nilpK, nilsK, nilfK, niliK, bndK, cutK, fillK, exitK, List.append_nil, List.drop, List.take, Nat.reduceAdd, Nat.reduceSub, Nat.reduceMul, Nat.reduceLT, Nat.reduceLeDiff, Nat.zero_add, Nat.add_zero, Nat.mul_one, if_true, if_false, ite_self, reduceIte, reduceCtorEq, Bool.not_true, Bool.not_false, Bool.false_eq_true, Bool.true_eq_false, and_self, and_true, true_and, false_and, and_false, decide_true, decide_false, eA]
    exact h _ _ _ _ _ _ _ _ _ _ _ _ _ _ _ _ _ _ _ _
  | succ n ih =>
    intro i s hi hs j2 j3 j4 j5 j6 j7 j8 j9 j11 j12 j13 j14 j15 j16 j17 j18 j19 j20 j21 h
    simp only [csteps] at h
    refine round (its := [.blk 0]) 60 hk trivial (fun A eA => ?_)
    have h1 : (i : Int) < 8 := by omega
    have e1 : ibits .and .u32 (s : Int) 1 = ((s % 2 : Nat) : Int) := by
      have := ibits_and .u32 rfl s 1 hs (by decide)
      rw [Nat.and_one_is_mod] at this; exact this
    have e2 : ishr .u32 (s : Int) 1 = ((s / 2 : Nat) : Int) := by
      have := ishr_nat .u32 .u64 s 1 (by decide); simpa using this
    have e3 : ibits .xor .u32 ((s / 2 : Nat) : Int) 2197175160 = ((s / 2 ^^^ 2197175160 : Nat) : Int) := ibits_xor .u32 rfl (s / 2) 2197175160 (by show s / 2 < 2 ^ 32; omega) (by decide)
    have e4 : IntKind.i64.wrap ((i : Int) + 1) = ((i + 1 : Nat) : Int) := by
      have : (i : Int) + 1 = ((i + 1 : Nat) : Int) := by omega
      rw [this]
      rw [IntKind.wrap_i64]; omega
    have hst := cstep_lt hs
    by_cases hb : s % 2 = 1
    · have e5 : cstep s = s / 2 ^^^ 2197175160 := by simp [cstep, hb]
      have e6 : (((s % 2 : Nat) : Int) = 1) := by omega
      simp only [c79_l0, advStep, execK, opK, binK, intK, strK, evs, ev, getT, setT, put, List.replicate, List.cons_append, List.nil_append, List.length_cons, List.length_nil, mapK, frzK, getB, setB, kill, find, cells, nilpK, nilsK, nilfK, niliK, bndK, cutK, fillK, exitK, List.append_nil, List.drop, List.take, Nat.reduceAdd, Nat.reduceSub, Nat.reduceMul, Nat.reduceLT, Nat.reduceLeDiff, Nat.zero_add, Nat.add_zero, Nat.mul_one, if_true, if_false, ite_self, reduceIte, reduceCtorEq, Bool.not_true, Bool.not_false, Bool.false_eq_true, Bool.true_eq_false, and_self, and_true, true_and, false_and, and_false, decide_true, decide_false, eA, h1, e1, e2, e3, e4, e6]
      rw [← e5]
      exact ih (i + 1) (cstep s) (by omega) hst _ _ _ _ _ _ _ _ _ _ _ _ _ _ _ _ _ _ _ h
    · have e5 : cstep s = s / 2 := by simp [cstep, hb]
      have e6 : ¬ (((s % 2 : Nat) : Int) = 1) := by omega
      simp only [c79_l0, advStep, execK, opK, binK, intK, strK, evs, ev, getT, setT, put, List.replicate, List.cons_append, List.nil_append, List.length_cons, List.length_nil, mapK, frzK, getB, setB, kill, find, cells, nilpK, nilsK, nilfK, niliK, bndK, cutK, fillK, exitK, List.append_nil, List.drop, List.take, Nat.reduceAdd, Nat.reduceSub, Nat.reduceMul, Nat.reduceLT, Nat.reduceLeDiff, Nat.zero_add, Nat.add_zero, Nat.mul_one, if_true, if_false, ite_self, reduceIte, reduceCtorEq, Bool.not_true, Bool.not_false, Bool.false_eq_true, Bool.true_eq_false, and_self, and_true, true_and, false_and, and_false, decide_true, decide_false, eA, h1, e1, e2, e3, e4, e6]
      rw [← e5]
      exact ih (i + 1) (cstep s) (by omega) hst _ _ _ _ _ _ _ _ _ _ _ _ _ _ _ _ _ _ _ h
theorem add_calls (s b : Nat) (hs : s < 2 ^ 32) (hb : b < 256) : PCalls Try.prog 79 [.int .u32 (s : Nat), .int .u8 (b : Nat)] (.int .u32 (add s b : Nat)) := by
  refine calls79 (walk0 60 trivial (fun A eA => ?_))
  have e1 : IntKind.u32.wrap (b : Int) = ((b : Nat) : Int) := wrap_nat .u32 rfl b (by show b < 2 ^ 32; omega)
  have e2 : ibits .xor .u32 (s : Int) (b : Int) = ((s ^^^ b : Nat) : Int) := ibits_xor .u32 rfl s b hs (by show b < 2 ^ 32; omega)
  simp only [c79, advStep, execK, opK, binK, intK, strK, evs, ev, getT, setT, put, List.replicate, List.cons_append, List.nil_append, List.length_cons, List.length_nil, mapK, frzK, getB, setB, kill, find, cells, nilpK, nilsK, nilfK, niliK, bndK, cutK, fillK, exitK, List.append_nil, List.drop, List.take, Nat.reduceAdd, Nat.reduceSub, Nat.reduceMul, Nat.reduceLT, Nat.reduceLeDiff, Nat.zero_add, Nat.add_zero, Nat.mul_one, if_true, if_false, ite_self, reduceIte, reduceCtorEq, Bool.not_true, Bool.not_false, Bool.false_eq_true, Bool.true_eq_false, and_self, and_true, true_and, false_and, and_false, decide_true, decide_false, eA, e1, e2]
  refine add_loop _ _ [.c c79_k0] trivial 8 0 _ rfl (Nat.xor_lt_two_pow hs (by omega)) _ _ _ _ _ _ _ _ _ _ _ _ _ _ _ _ _ _ _ ?_
  intro j2 j3 j4 j5 j6 j7 j8 j9 j10 j11 j12 j13 j14 j15 j16 j17 j18 j19 j20 j21
  refine walk0 60 trivial (fun A eA => ?_)
  simp only [c79_k0, advStep, execK, opK, binK, intK, strK, evs, ev, getT, setT, put, List.replicate, List.cons_append, List.nil_append, List.length_cons, List.length_nil, mapK, frzK, getB, setB, kill, find, cells, nilpK, nilsK, nilfK, niliK, bndK, cutK, fillK, exitK, List.append_nil, List.drop, List.take, Nat.reduceAdd, Nat.reduceSub, Nat.reduceMul, Nat.reduceLT, Nat.reduceLeDiff, Nat.zero_add, Nat.add_zero, Nat.mul_one, if_true, if_false, ite_self, reduceIte, reduceCtorEq, Bool.not_true, Bool.not_false, Bool.false_eq_true, Bool.true_eq_false, and_self, and_true, true_and, false_and, and_false, decide_true, decide_false, eA]
  simp only [RunsO, Gives, retK, gets, retv, advStep, execK, opK, binK, intK, strK, evs, ev, getT, setT, put, List.replicate, List.cons_append, List.nil_append, List.length_cons, List.length_nil, mapK, frzK, getB, setB, kill, find, cells, nilpK, nilsK, nilfK, niliK, bndK, cutK, fillK, exitK, List.append_nil, List.drop, List.take, Nat.reduceAdd, Nat.reduceSub, Nat.reduceMul, Nat.reduceLT, Nat.reduceLeDiff, Nat.zero_add, Nat.add_zero, Nat.mul_one, if_true, if_false, ite_self, reduceIte, reduceCtorEq, Bool.not_true, Bool.not_false, Bool.false_eq_true, Bool.true_eq_false, and_self, and_true, true_and, false_and, and_false, decide_true, decide_false, eA]
  rfl
theorem crc_loop (bs : List Nat) (hbs : ∀ b ∈ bs, b < 256) (hlen : bs.length ≤ 140737488351232) (R : List AV → Heap → Nat → Prop) (k : List It) (hk : flat k) : ∀ (rest pre : List Nat), bs = pre ++ rest → ∀ (s : Nat), s < 2 ^ 32 → ∀ (j1 j2 j4 j5 j9 j10 j11 j12 j13 j14 j15 j16 j17 : AV),
    (∀ (j1 j2 j4 j5 j9 j10 j11 j12 j13 j14 j15 j16 j17 : AV), RunsX Try.prog 0 R k [.fz 1 (avs bs) none, j1, j2, .int .u32 (rest.foldl add s : Nat), j4, j5, .fz 1 (avs bs) none, .int .i64 (bs.length : Nat), .int .i64 (bs.length : Nat), j9, j10, j11, j12, j13, j14, j15, j16, j17] [] 0) →
    RunsX Try.prog 0 R (.lp c16_l0 :: .blk 0 :: k) [.fz 1 (avs bs) none, j1, j2, .int .u32 (s : Nat), j4, j5, .fz 1 (avs bs) none, .int .i64 (bs.length : Nat), .int .i64 (pre.length : Nat), j9, j10, j11, j12, j13, j14, j15, j16, j17] [] 0 := by
  intro rest
  induction rest with
  | nil =>
    intro pre hpre s hs j1 j2 j4 j5 j9 j10 j11 j12 j13 j14 j15 j16 j17 h
    simp only [List.foldl_nil] at h
    refine round (its := [.blk 0]) 60 hk trivial (fun A eA => ?_)
    rw [List.append_nil] at hpre
    subst hpre
    have h1 : ¬ ((bs.length : Int) < bs.length) := by omega
    simp only [c16_l0, advStep, execK, opK, binK, intK, strK, evs, ev, getT, setT, put, List.replicate, List.cons_append, List.nil_append, List.length_cons, List.length_nil, mapK, frzK, getB, setB, kill, find, cells, nilpK, nilsK, nilfK, niliK, bndK, cutK, fillK, exitK, List.append_nil, List.drop, List.take, Nat.reduceAdd, Nat.reduceSub, Nat.reduceMul, Nat.reduceLT, Nat.reduceLeDiff, Nat.zero_add, Nat.add_zero, Nat.mul_one, if_true, if_false, ite_self, reduceIte, reduceCtorEq, Bool.not_true, Bool.not_false, Bool.false_eq_true, Bool.true_eq_false, and_self, and_true, true_and, false_and, and_false, decide_true, decide_false, eA, h1]
    exact h _ _ _ _ _ _ _ _ _ _ _ _ _
  | cons b rest ih =>
    intro pre hpre s hs j1 j2 j4 j5 j9 j10 j11 j12 j13 j14 j15 j16 j17 h
    simp only [List.foldl_cons] at h
    have hl : pre.length < bs.length := by rw [hpre]; simp
    have hb : b < 256 := hbs b (by rw [hpre]; simp)
    have h1 : (pre.length : Int) < bs.length := by omega
    have h2 : ¬ ((pre.length : Int) < 0) := by omega
    have e1 : (avs bs)[(pre.length : Int).toNat]? = some (.int .u8 (b : Nat)) := by
      rw [Int.toNat_natCast, avs_get, hpre, List.getElem?_append_right (Nat.le_refl _), Nat.sub_self]; rfl
    have e4 : IntKind.i64.wrap ((pre.length : Int) + 1) = (((pre ++ [b]).length : Nat) : Int) := by
      rw [IntKind.wrap_i64, List.length_append]; simp only [List.length_cons, List.length_nil]; omega
    refine round (its := [.blk 0]) 60 hk trivial (fun A eA => ?_)
    simp only [c16_l0, advStep, execK, opK, binK, intK, strK, evs, ev, getT, setT, put, List.replicate, List.cons_append, List.nil_append, List.length_cons, List.length_nil, mapK, frzK, getB, setB, kill, find, cells, nilpK, nilsK, nilfK, niliK, bndK, cutK, fillK, exitK, List.append_nil, List.drop, List.take, Nat.reduceAdd, Nat.reduceSub, Nat.reduceMul, Nat.reduceLT, Nat.reduceLeDiff, Nat.zero_add, Nat.add_zero, Nat.mul_one, if_true, if_false, ite_self, reduceIte, reduceCtorEq, Bool.not_true, Bool.not_false, Bool.false_eq_true, Bool.true_eq_false, and_self, and_true, true_and, false_and, and_false, decide_true, decide_false, eA, h1, h2, e1]
    refine call0 60 hk trivial (add_calls s b hs hb) (.inl rfl) (fun A eA => ?_)
    simp only [advStep, execK, opK, binK, intK, strK, evs, ev, getT, setT, put, List.replicate, List.cons_append, List.nil_append, List.length_cons, List.length_nil, mapK, frzK, getB, setB, kill, find, cells, nilpK, nilsK, nilfK, niliK, bndK, cutK, fillK, exitK, List.append_nil, List.drop, List.take, Nat.reduceAdd, Nat.reduceSub, Nat.reduceMul, Nat.reduceLT, Nat.reduceLeDiff, Nat.zero_add, Nat.add_zero, Nat.mul_one, if_true, if_false, ite_self, reduceIte, reduceCtorEq, Bool.not_true, Bool.not_false, Bool.false_eq_true, Bool.true_eq_false, and_self, and_true, true_and, false_and, and_false, decide_true, decide_false, eA, e4]
    exact ih (pre ++ [b]) (by rw [hpre]; simp) (add s b) (add_lt hs hb) _ _ _ _ _ _ _ _ _ _ _ _ _ h
theorem crc_calls (bs : List Nat) (hbs : ∀ b ∈ bs, b < 256) (hlen : bs.length ≤ 140737488351232) : PCalls Try.prog 16 [.fz 1 (avs bs) none] (.int .u32 (crcOf bs : Nat)) := by
  refine calls16 (walk0 60 trivial (fun A eA => ?_))
  simp only [c16, advStep, execK, opK, binK, intK, strK, evs, ev, getT, setT, put, List.replicate, List.cons_append, List.nil_append, List.length_cons, List.length_nil, mapK, frzK, getB, setB, kill, find, cells, nilpK, nilsK, nilfK, niliK, bndK, cutK, fillK, exitK, List.append_nil, List.drop, List.take, Nat.reduceAdd, Nat.reduceSub, Nat.reduceMul, Nat.reduceLT, Nat.reduceLeDiff, Nat.zero_add, Nat.add_zero, Nat.mul_one, if_true, if_false, ite_self, reduceIte, reduceCtorEq, Bool.not_true, Bool.not_false, Bool.false_eq_true, Bool.true_eq_false, and_self, and_true, true_and, false_and, and_false, decide_true, decide_false, eA, avs_len]
  refine crc_loop bs hbs hlen _ [.c c16_k0] trivial bs [] rfl 4294967295 (by decide) _ _ _ _ _ _ _ _ _ _ _ _ _ ?_
  intro j1 j2 j4 j5 j9 j10 j11 j12 j13 j14 j15 j16 j17
  refine walk0 60 trivial (fun A eA => ?_)
  have e2 : ibits .xor .u32 ((bs.foldl add 4294967295 : Nat) : Int) 4294967295 = ((crcOf bs : Nat) : Int) := ibits_xor .u32 rfl _ 4294967295 (fold_lt bs (by decide) hbs) (by decide)
  simp only [c16_k0, advStep, execK, opK, binK, intK, strK, evs, ev, getT, setT, put, List.replicate, List.cons_append, List.nil_append, List.length_cons, List.length_nil, mapK, frzK, getB, setB, kill, find, cells, nilpK, nilsK, nilfK, niliK, bndK, cutK, fillK, exitK, List.append_nil, List.drop, List.take, Nat.reduceAdd, Nat.reduceSub, Nat.reduceMul, Nat.reduceLT, Nat.reduceLeDiff, Nat.zero_add, Nat.add_zero, Nat.mul_one, if_true, if_false, ite_self, reduceIte, reduceCtorEq, Bool.not_true, Bool.not_false, Bool.false_eq_true, Bool.true_eq_false, and_self, and_true, true_and, false_and, and_false, decide_true, decide_false, eA, e2]
  simp only [RunsO, Gives, retK, gets, retv, advStep, execK, opK, binK, intK, strK, evs, ev, getT, setT, put, List.replicate, List.cons_append, List.nil_append, List.length_cons, List.length_nil, mapK, frzK, getB, setB, kill, find, cells, nilpK, nilsK, nilfK, niliK, bndK, cutK, fillK, exitK, List.append_nil, List.drop, List.take, Nat.reduceAdd, Nat.reduceSub, Nat.reduceMul, Nat.reduceLT, Nat.reduceLeDiff, Nat.zero_add, Nat.add_zero, Nat.mul_one, if_true, if_false, ite_self, reduceIte, reduceCtorEq, Bool.not_true, Bool.not_false, Bool.false_eq_true, Bool.true_eq_false, and_self, and_true, true_and, false_and, and_false, decide_true, decide_false, eA]
theorem awake_calls : PCalls Try.prog 15 [] (.bool true) := by
  refine calls15 (walk0 60 trivial (fun A eA => ?_))
  have e1 : (crcOf [49, 50, 51, 52, 53, 54, 55, 56, 57] : Nat) = 3808858755 := by decide +kernel
  simp only [c15, advStep, execK, opK, binK, intK, strK, evs, ev, getT, setT, put, List.replicate, List.cons_append, List.nil_append, List.length_cons, List.length_nil, mapK, frzK, getB, setB, kill, find, cells, nilpK, nilsK, nilfK, niliK, bndK, cutK, fillK, exitK, List.append_nil, List.drop, List.take, Nat.reduceAdd, Nat.reduceSub, Nat.reduceMul, Nat.reduceLT, Nat.reduceLeDiff, Nat.zero_add, Nat.add_zero, Nat.mul_one, if_true, if_false, ite_self, reduceIte, reduceCtorEq, Bool.not_true, Bool.not_false, Bool.false_eq_true, Bool.true_eq_false, and_self, and_true, true_and, false_and, and_false, decide_true, decide_false, eA, allSz, scal1, catCells, List.all_cons, List.all_nil, isBytes, beq_self_eq_true, Bool.and_true, Bool.and_self]
  refine call0 60 trivial trivial (crc_calls [49, 50, 51, 52, 53, 54, 55, 56, 57] (by decide) (by decide)) (.inl rfl) (fun A eA => ?_)
  simp only [advStep, execK, opK, binK, intK, strK, evs, ev, getT, setT, put, List.replicate, List.cons_append, List.nil_append, List.length_cons, List.length_nil, mapK, frzK, getB, setB, kill, find, cells, nilpK, nilsK, nilfK, niliK, bndK, cutK, fillK, exitK, List.append_nil, List.drop, List.take, Nat.reduceAdd, Nat.reduceSub, Nat.reduceMul, Nat.reduceLT, Nat.reduceLeDiff, Nat.zero_add, Nat.add_zero, Nat.mul_one, if_true, if_false, ite_self, reduceIte, reduceCtorEq, Bool.not_true, Bool.not_false, Bool.false_eq_true, Bool.true_eq_false, and_self, and_true, true_and, false_and, and_false, decide_true, decide_false, eA, e1]
  simp only [RunsO, Gives, retK, gets, retv, advStep, execK, opK, binK, intK, strK, evs, ev, getT, setT, put, List.replicate, List.cons_append, List.nil_append, List.length_cons, List.length_nil, mapK, frzK, getB, setB, kill, find, cells, nilpK, nilsK, nilfK, niliK, bndK, cutK, fillK, exitK, List.append_nil, List.drop, List.take, Nat.reduceAdd, Nat.reduceSub, Nat.reduceMul, Nat.reduceLT, Nat.reduceLeDiff, Nat.zero_add, Nat.add_zero, Nat.mul_one, if_true, if_false, ite_self, reduceIte, reduceCtorEq, Bool.not_true, Bool.not_false, Bool.false_eq_true, Bool.true_eq_false, and_self, and_true, true_and, false_and, and_false, decide_true, decide_false, eA]
  try rfl
end Go.Proofs.Ytmokhopjnjecbaa
