/- The walk through the reference's functions on events. -/
import Derived.Test.YtmokhopjnjecbabM3
import Derived.Test.YtmokhopjnjecbabRows
import Derived.Eval
import Derived.KernelRfl
import Derived.ChangeKeysEq
-- short
namespace Go.Proofs.Ytmokhopjnjecbab
open Go.Ev
set_option linter.unusedVariables false
set_option linter.unusedSimpArgs false
set_option maxRecDepth 100000
variable {R : List AV → Heap → Ctr → Prop} {k : List It} {H : Heap} {nx : Ctr} {φ : Nat}

def xlf (l r : ET) : Bool := decide (l.ps.length = 0) && decide (r.ps.length = 0) && decide (l.n = r.n)
def xz (l r : ET) : Bool := decide (l.n = 0) || decide (r.n = 0)
set_option maxHeartbeats 4000000 in
theorem refEcount_nd {t l r : ET} {n1 n2 : Nat} {x y : Bool} (hlr : t.ps = [l, r]) (hn : 0 ≤ t.n ∧ t.n ≤ 1099511627776) (c1 : PCalls Try.prog F_ref04_ecount [xtv l] (.tup [.int .i64 (n1 : Nat), .bool x])) (c2 : PCalls Try.prog F_ref04_ecount [xtv r] (.tup [.int .i64 (n2 : Nat), .bool y])) (b1 : n1 ≤ 1000) (b2 : n2 ≤ 1000) : PCalls Try.prog F_ref04_ecount [xtv t] (.tup [.int .i64 ((min (n1 + n2 + 1) 1000 : Nat) : Int), .bool (x && y && !xlf l r && xz l r)]) := by
  have g0 : (xtavs [l, r])[0]? = some (xtv l) := by rw [xtavs_get]; rfl
  have g1 : (xtavs [l, r])[1]? = some (xtv r) := by rw [xtavs_get]; rfl
  have w1 : IntKind.i64.wrap ((n1 : Int) + (n2 : Nat)) = ((n1 + n2 : Nat) : Int) := by rw [IntKind.wrap_i64]; omega
  have w2 : IntKind.i64.wrap (((n1 + n2 : Nat) : Int) + 1) = ((n1 + n2 + 1 : Nat) : Int) := by rw [IntKind.wrap_i64]; omega
  have w3 : (if (1000 : Int) < ((n1 + n2 + 1 : Nat) : Int) then (1000 : Int) else ((n1 + n2 + 1 : Nat) : Int)) = ((min (n1 + n2 + 1) 1000 : Nat) : Int) := by split <;> omega
  refine calls_ref04_ecount (walk0 100 trivial (fun A eA => ?_))
  simp (disch := first | omega | (simp only [avs_len, List.length_cons, List.length_append, List.length_nil, List.length_take, List.length_drop, List.length_map]; omega) | (simp only [cells, scal1, allSz, List.length_cons, List.length_nil, List.length_append, List.length_map, List.all_cons, List.all_nil, avs_len, beq_self_eq_true, Bool.and_self, and_self, or_true, true_or, reduceCtorEq, *]; done) | fail) only [c_ref04_ecount, go_sem, Nat.reduceAdd, Nat.reduceSub, Nat.reduceMul, Nat.reduceLT, Nat.reduceLeDiff, Int.reduceToNat, Nat.reduceEqDiff, Nat.reduceBEq, ↓reduceIte, reduceCtorEq, eA, scal1, xtavs_len, hlr, g0, g1, List.all_cons, List.all_nil, Bool.and_self]
  refine call0 100 trivial trivial c1 (.inl rfl) (fun A eA => ?_)
  simp (disch := first | omega | (simp only [avs_len, List.length_cons, List.length_append, List.length_nil, List.length_take, List.length_drop, List.length_map]; omega) | (simp only [cells, scal1, allSz, List.length_cons, List.length_nil, List.length_append, List.length_map, List.all_cons, List.all_nil, avs_len, beq_self_eq_true, Bool.and_self, and_self, or_true, true_or, reduceCtorEq, *]; done) | fail) only [c_ref04_ecount, go_sem, Nat.reduceAdd, Nat.reduceSub, Nat.reduceMul, Nat.reduceLT, Nat.reduceLeDiff, Int.reduceToNat, Nat.reduceEqDiff, Nat.reduceBEq, ↓reduceIte, reduceCtorEq, eA, hlr, g0, g1, List.all_cons, List.all_nil, Bool.and_self, scal1]
  refine call0 100 trivial trivial c2 (.inl rfl) (fun A eA => ?_)
  have kk : (l.ps.length = 0 ∧ r.ps.length = 0 ∧ l.n = r.n) ∨ (l.ps.length = 0 ∧ r.ps.length = 0 ∧ ¬ l.n = r.n) ∨ (l.ps.length = 0 ∧ ¬ r.ps.length = 0) ∨ ¬ l.ps.length = 0 := by omega
  have zz : l.n = 0 ∨ (¬ l.n = 0 ∧ r.n = 0) ∨ (¬ l.n = 0 ∧ ¬ r.n = 0) := by omega
  cases x <;> cases y
  case true.true =>
    rcases kk with ⟨a1, a2, a3⟩ | ⟨a1, a2, a3⟩ | ⟨a1, a2⟩ | a1
    · have e : xlf l r = true := by simp only [xlf, a1, a2, a3, decide_true, Bool.and_self]
      rw [e]
      simp (disch := first | omega | (simp only [avs_len, List.length_cons, List.length_append, List.length_nil, List.length_take, List.length_drop, List.length_map]; omega) | (simp only [cells, scal1, allSz, List.length_cons, List.length_nil, List.length_append, List.length_map, List.all_cons, List.all_nil, avs_len, beq_self_eq_true, Bool.and_self, and_self, or_true, true_or, reduceCtorEq, *]; done) | fail) only [c_ref04_ecount, go_sem, Nat.reduceAdd, Nat.reduceSub, Nat.reduceMul, Nat.reduceLT, Nat.reduceLeDiff, Int.reduceToNat, Nat.reduceEqDiff, Nat.reduceBEq, ↓reduceIte, reduceCtorEq, eA, hlr, g0, g1, List.all_cons, List.all_nil, Bool.and_self, scal1, xtavs_len, w1, w2, w3, Bool.and_false, Bool.false_and, Bool.true_or]
      refine doneG ?_
      simp (disch := first | omega | (simp only [avs_len, List.length_cons, List.length_append, List.length_nil, List.length_take, List.length_drop, List.length_map]; omega) | (simp only [cells, scal1, allSz, List.length_cons, List.length_nil, List.length_append, List.length_map, List.all_cons, List.all_nil, avs_len, beq_self_eq_true, Bool.and_self, and_self, or_true, true_or, reduceCtorEq, *]; done) | fail) only [go_sem, Nat.reduceAdd, Nat.reduceSub, Nat.reduceMul, Nat.reduceLT, Nat.reduceLeDiff, Int.reduceToNat, Nat.reduceEqDiff, Nat.reduceBEq, ↓reduceIte, reduceCtorEq, w3, Bool.and_self, Bool.and_false, Bool.false_and]
    all_goals
      have e : xlf l r = false := by simp only [xlf, a1, decide_true, decide_false, Bool.false_and, Bool.true_and, Bool.and_eq_false_iff, decide_eq_false_iff_not]; first | done | exact .inl a2 | exact .inr a3
      rw [e]
      rcases zz with z1 | ⟨z1, z2⟩ | ⟨z1, z2⟩
      · have e2 : xz l r = true := by simp only [xz, z1, decide_true, Bool.true_or]
        rw [e2]
        simp (disch := first | omega | (simp only [avs_len, List.length_cons, List.length_append, List.length_nil, List.length_take, List.length_drop, List.length_map]; omega) | (simp only [cells, scal1, allSz, List.length_cons, List.length_nil, List.length_append, List.length_map, List.all_cons, List.all_nil, avs_len, beq_self_eq_true, Bool.and_self, and_self, or_true, true_or, reduceCtorEq, *]; done) | fail) only [c_ref04_ecount, go_sem, Nat.reduceAdd, Nat.reduceSub, Nat.reduceMul, Nat.reduceLT, Nat.reduceLeDiff, Int.reduceToNat, Nat.reduceEqDiff, Nat.reduceBEq, ↓reduceIte, reduceCtorEq, eA, hlr, g0, g1, List.all_cons, List.all_nil, Bool.and_self, scal1, xtavs_len, w1, w2, w3, Bool.and_false, Bool.false_and, Bool.true_or]
        refine doneG ?_
        simp (disch := first | omega | (simp only [avs_len, List.length_cons, List.length_append, List.length_nil, List.length_take, List.length_drop, List.length_map]; omega) | (simp only [cells, scal1, allSz, List.length_cons, List.length_nil, List.length_append, List.length_map, List.all_cons, List.all_nil, avs_len, beq_self_eq_true, Bool.and_self, and_self, or_true, true_or, reduceCtorEq, *]; done) | fail) only [go_sem, Nat.reduceAdd, Nat.reduceSub, Nat.reduceMul, Nat.reduceLT, Nat.reduceLeDiff, Int.reduceToNat, Nat.reduceEqDiff, Nat.reduceBEq, ↓reduceIte, reduceCtorEq, w3, Bool.and_self]
      · have e2 : xz l r = true := by simp only [xz, z2, decide_true, Bool.or_true]
        rw [e2]
        simp (disch := first | omega | (simp only [avs_len, List.length_cons, List.length_append, List.length_nil, List.length_take, List.length_drop, List.length_map]; omega) | (simp only [cells, scal1, allSz, List.length_cons, List.length_nil, List.length_append, List.length_map, List.all_cons, List.all_nil, avs_len, beq_self_eq_true, Bool.and_self, and_self, or_true, true_or, reduceCtorEq, *]; done) | fail) only [c_ref04_ecount, go_sem, Nat.reduceAdd, Nat.reduceSub, Nat.reduceMul, Nat.reduceLT, Nat.reduceLeDiff, Int.reduceToNat, Nat.reduceEqDiff, Nat.reduceBEq, ↓reduceIte, reduceCtorEq, eA, hlr, g0, g1, List.all_cons, List.all_nil, Bool.and_self, scal1, xtavs_len, w1, w2, w3, Bool.and_false, Bool.false_and, Bool.true_or]
        refine doneG ?_
        simp (disch := first | omega | (simp only [avs_len, List.length_cons, List.length_append, List.length_nil, List.length_take, List.length_drop, List.length_map]; omega) | (simp only [cells, scal1, allSz, List.length_cons, List.length_nil, List.length_append, List.length_map, List.all_cons, List.all_nil, avs_len, beq_self_eq_true, Bool.and_self, and_self, or_true, true_or, reduceCtorEq, *]; done) | fail) only [go_sem, Nat.reduceAdd, Nat.reduceSub, Nat.reduceMul, Nat.reduceLT, Nat.reduceLeDiff, Int.reduceToNat, Nat.reduceEqDiff, Nat.reduceBEq, ↓reduceIte, reduceCtorEq, w3, Bool.and_self]
      · have e2 : xz l r = false := by simp only [xz, z1, z2, decide_false, Bool.or_false]
        rw [e2]
        simp (disch := first | omega | (simp only [avs_len, List.length_cons, List.length_append, List.length_nil, List.length_take, List.length_drop, List.length_map]; omega) | (simp only [cells, scal1, allSz, List.length_cons, List.length_nil, List.length_append, List.length_map, List.all_cons, List.all_nil, avs_len, beq_self_eq_true, Bool.and_self, and_self, or_true, true_or, reduceCtorEq, *]; done) | fail) only [c_ref04_ecount, go_sem, Nat.reduceAdd, Nat.reduceSub, Nat.reduceMul, Nat.reduceLT, Nat.reduceLeDiff, Int.reduceToNat, Nat.reduceEqDiff, Nat.reduceBEq, ↓reduceIte, reduceCtorEq, eA, hlr, g0, g1, List.all_cons, List.all_nil, Bool.and_self, scal1, xtavs_len, w1, w2, w3, Bool.and_false, Bool.false_and, Bool.true_or]
        refine doneG ?_
        simp (disch := first | omega | (simp only [avs_len, List.length_cons, List.length_append, List.length_nil, List.length_take, List.length_drop, List.length_map]; omega) | (simp only [cells, scal1, allSz, List.length_cons, List.length_nil, List.length_append, List.length_map, List.all_cons, List.all_nil, avs_len, beq_self_eq_true, Bool.and_self, and_self, or_true, true_or, reduceCtorEq, *]; done) | fail) only [go_sem, Nat.reduceAdd, Nat.reduceSub, Nat.reduceMul, Nat.reduceLT, Nat.reduceLeDiff, Int.reduceToNat, Nat.reduceEqDiff, Nat.reduceBEq, ↓reduceIte, reduceCtorEq, w3, Bool.and_self]
  all_goals
    simp only [Bool.and_false, Bool.false_and, Bool.and_true, Bool.true_and]
    rcases kk with ⟨a1, a2, a3⟩ | ⟨a1, a2, a3⟩ | ⟨a1, a2⟩ | a1
    all_goals
      simp (disch := first | omega | (simp only [avs_len, List.length_cons, List.length_append, List.length_nil, List.length_take, List.length_drop, List.length_map]; omega) | (simp only [cells, scal1, allSz, List.length_cons, List.length_nil, List.length_append, List.length_map, List.all_cons, List.all_nil, avs_len, beq_self_eq_true, Bool.and_self, and_self, or_true, true_or, reduceCtorEq, *]; done) | fail) only [c_ref04_ecount, go_sem, Nat.reduceAdd, Nat.reduceSub, Nat.reduceMul, Nat.reduceLT, Nat.reduceLeDiff, Int.reduceToNat, Nat.reduceEqDiff, Nat.reduceBEq, ↓reduceIte, reduceCtorEq, eA, hlr, g0, g1, List.all_cons, List.all_nil, Bool.and_self, scal1, xtavs_len, w1, w2, w3, Bool.and_false, Bool.false_and, Bool.true_or]
      refine doneG ?_
      simp (disch := first | omega | (simp only [avs_len, List.length_cons, List.length_append, List.length_nil, List.length_take, List.length_drop, List.length_map]; omega) | (simp only [cells, scal1, allSz, List.length_cons, List.length_nil, List.length_append, List.length_map, List.all_cons, List.all_nil, avs_len, beq_self_eq_true, Bool.and_self, and_self, or_true, true_or, reduceCtorEq, *]; done) | fail) only [go_sem, Nat.reduceAdd, Nat.reduceSub, Nat.reduceMul, Nat.reduceLT, Nat.reduceLeDiff, Int.reduceToNat, Nat.reduceEqDiff, Nat.reduceBEq, ↓reduceIte, reduceCtorEq, w3, Bool.and_self]
theorem refEcount_calls : ∀ t : ET, ∃ (n : Nat) (ok : Bool), PCalls Try.prog F_ref04_ecount [xtv t] (.tup [.int .i64 (n : Nat), .bool ok]) ∧ n ≤ 1000 ∧ (ok = true ↔ ∃ b : E, t = b.t ∧ b.short = true ∧ b.small = true) ∧ (ok = true → ∀ b : E, t = b.t → n = min b.nodes 1000) := by
  intro t
  induction t using ET.ind with
  | h t ih =>
    have he := t.eta
    by_cases hn : 0 ≤ t.n ∧ t.n ≤ 1099511627776
    case neg =>
      refine ⟨0, false, ?_, by omega, ?_, fun h => by cases h⟩
      · by_cases h1 : t.n < 0
        · refine calls_ref04_ecount (walk0 100 trivial (fun A eA => ?_))
          simp (disch := first | omega | (simp only [avs_len, List.length_cons, List.length_append, List.length_nil, List.length_take, List.length_drop, List.length_map]; omega) | (simp only [cells, scal1, allSz, List.length_cons, List.length_nil, List.length_append, List.length_map, List.all_cons, List.all_nil, avs_len, beq_self_eq_true, Bool.and_self, and_self, or_true, true_or, reduceCtorEq, *]; done) | fail) only [c_ref04_ecount, go_sem, Nat.reduceAdd, Nat.reduceSub, Nat.reduceMul, Nat.reduceLT, Nat.reduceLeDiff, Int.reduceToNat, Nat.reduceEqDiff, Nat.reduceBEq, ↓reduceIte, reduceCtorEq, eA, scal1, xtavs_len]
          exact doneG rfl
        · refine calls_ref04_ecount (walk0 100 trivial (fun A eA => ?_))
          simp (disch := first | omega | (simp only [avs_len, List.length_cons, List.length_append, List.length_nil, List.length_take, List.length_drop, List.length_map]; omega) | (simp only [cells, scal1, allSz, List.length_cons, List.length_nil, List.length_append, List.length_map, List.all_cons, List.all_nil, avs_len, beq_self_eq_true, Bool.and_self, and_self, or_true, true_or, reduceCtorEq, *]; done) | fail) only [c_ref04_ecount, go_sem, Nat.reduceAdd, Nat.reduceSub, Nat.reduceMul, Nat.reduceLT, Nat.reduceLeDiff, Int.reduceToNat, Nat.reduceEqDiff, Nat.reduceBEq, ↓reduceIte, reduceCtorEq, eA, scal1, xtavs_len]
          exact doneG rfl
      · simp only [Bool.false_eq_true, false_iff]
        rintro ⟨b, rfl, -, hs⟩
        have := b.t_n
        have := E.small_n hs
        omega
    obtain ⟨m, hm⟩ : ∃ m : Nat, t.n = (m : Int) := ⟨t.n.toNat, by omega⟩
    by_cases h0 : t.ps.length = 0
    · have h00 : t.ps = [] := List.eq_nil_of_length_eq_zero h0
      refine ⟨1, true, ?_, by omega, ?_, ?_⟩
      · refine calls_ref04_ecount (walk0 100 trivial (fun A eA => ?_))
        simp (disch := first | omega | (simp only [avs_len, List.length_cons, List.length_append, List.length_nil, List.length_take, List.length_drop, List.length_map]; omega) | (simp only [cells, scal1, allSz, List.length_cons, List.length_nil, List.length_append, List.length_map, List.all_cons, List.all_nil, avs_len, beq_self_eq_true, Bool.and_self, and_self, or_true, true_or, reduceCtorEq, *]; done) | fail) only [c_ref04_ecount, go_sem, Nat.reduceAdd, Nat.reduceSub, Nat.reduceMul, Nat.reduceLT, Nat.reduceLeDiff, Int.reduceToNat, Nat.reduceEqDiff, Nat.reduceBEq, ↓reduceIte, reduceCtorEq, eA, scal1, xtavs_len]
        exact doneG rfl
      · simp only [true_iff]
        exact ⟨.lf m, by rw [← he, hm, h00]; rfl, rfl, by simp only [E.small, decide_eq_true_eq]; omega⟩
      · rintro - b rfl
        cases b with
        | lf o => rfl
        | nd n l r => simp [E.t, ET.ps] at h00
    by_cases h2 : t.ps.length = 2
    · obtain ⟨l, r, hlr⟩ : ∃ l r, t.ps = [l, r] := by
        match t.ps, h2 with
        | [l, r], _ => exact ⟨l, r, rfl⟩
      obtain ⟨n1, x, c1, b1, e1, f1⟩ := ih l (by rw [hlr]; simp)
      obtain ⟨n2, y, c2, b2, e2, f2⟩ := ih r (by rw [hlr]; simp)
      have key : ∀ b : E, t = b.t → ∃ n bl br, b = .nd n bl br ∧ l = bl.t ∧ r = br.t := by
        rintro b rfl
        cases b with
        | lf o => simp [E.t, ET.ps] at h0
        | nd n bl br => simp [E.t, ET.ps] at hlr; exact ⟨n, bl, br, rfl, hlr.1.symm, hlr.2.symm⟩
      have hlf : ∀ bl br : E, xlf bl.t br.t = (bl.leaf && br.leaf && decide (bl.n = br.n)) := by
        intro bl br
        simp only [xlf, E.t_leaf, E.t_n]
        congr 1
        rw [decide_eq_decide]; omega
      have hz : ∀ bl br : E, xz bl.t br.t = (decide (bl.n = 0) || decide (br.n = 0)) := by
        intro bl br
        simp only [xz, E.t_n]
        congr 1 <;> (rw [decide_eq_decide]; omega)
      refine ⟨min (n1 + n2 + 1) 1000, x && y && !xlf l r && xz l r, ?_, by omega, ?_, ?_⟩
      · exact refEcount_nd hlr hn c1 c2 b1 b2
      · simp only [Bool.and_eq_true, e1, e2]
        constructor
        · rintro ⟨⟨⟨⟨bl, rfl, s1, m1⟩, ⟨br, rfl, s2, m2⟩⟩, s3⟩, s4⟩
          rw [hlf] at s3
          rw [hz] at s4
          exact ⟨.nd m bl br, by rw [← he, hm, hlr]; rfl, by simp only [E.short, s1, s2, s3, s4, Bool.and_self], by simp only [E.small, m1, m2, Bool.and_true, decide_eq_true_eq]; omega⟩
        · rintro ⟨b, hb, hsh, hsm⟩
          obtain ⟨n, bl, br, rfl, rfl, rfl⟩ := key b hb
          simp only [E.short, Bool.and_eq_true] at hsh
          simp only [E.small, Bool.and_eq_true] at hsm
          rw [hlf, hz]
          exact ⟨⟨⟨⟨bl, rfl, hsh.1.1.1, hsm.1.2⟩, ⟨br, rfl, hsh.1.1.2, hsm.2⟩⟩, hsh.2⟩, hsh.1.2⟩
      · intro hok b hb
        obtain ⟨n, bl, br, rfl, hl, hr⟩ := key b hb
        simp only [Bool.and_eq_true] at hok
        have := f1 hok.1.1.1 bl hl
        have := f2 hok.1.1.2 br hr
        simp only [E.nodes]
        omega
    · refine ⟨0, false, ?_, by omega, ?_, fun h => by cases h⟩
      · refine calls_ref04_ecount (walk0 100 trivial (fun A eA => ?_))
        simp (disch := first | omega | (simp only [avs_len, List.length_cons, List.length_append, List.length_nil, List.length_take, List.length_drop, List.length_map]; omega) | (simp only [cells, scal1, allSz, List.length_cons, List.length_nil, List.length_append, List.length_map, List.all_cons, List.all_nil, avs_len, beq_self_eq_true, Bool.and_self, and_self, or_true, true_or, reduceCtorEq, *]; done) | fail) only [c_ref04_ecount, go_sem, Nat.reduceAdd, Nat.reduceSub, Nat.reduceMul, Nat.reduceLT, Nat.reduceLeDiff, Int.reduceToNat, Nat.reduceEqDiff, Nat.reduceBEq, ↓reduceIte, reduceCtorEq, eA, scal1, xtavs_len]
        exact doneG rfl
      · simp only [Bool.false_eq_true, false_iff]
        rintro ⟨b, rfl, -⟩
        cases b with
        | lf o => simp [E.t, ET.ps] at h0
        | nd n l r => simp [E.t, ET.ps] at h2
theorem refERight_calls (t : ET) (hs : t.size < 2 ^ 60) : PCalls Try.prog F_ref04_ERight [xtv t] (.bool (xrtb t)) := by
  refine calls_ref04_ERight (walk0 100 trivial (fun A eA => ?_))
  simp (disch := first | omega | (simp only [avs_len, List.length_cons, List.length_append, List.length_nil, List.length_take, List.length_drop, List.length_map]; omega) | (simp only [cells, scal1, allSz, List.length_cons, List.length_nil, List.length_append, List.length_map, List.all_cons, List.all_nil, avs_len, beq_self_eq_true, Bool.and_self, and_self, or_true, true_or, reduceCtorEq, *]; done) | fail) only [c_ref04_ERight, go_sem, Nat.reduceAdd, Nat.reduceSub, Nat.reduceMul, Nat.reduceLT, Nat.reduceLeDiff, Int.reduceToNat, Nat.reduceEqDiff, Nat.reduceBEq, ↓reduceIte, reduceCtorEq, eA, scal1, xtavs_len]
  refine call0 100 trivial trivial (xdeep_calls 8 t (by omega) hs) (.inl rfl) (fun A eA => ?_)
  have hno : ¬ XRt t → xrtb t = false := fun h => by rw [Bool.eq_false_iff, ne_eq, xrtb_true]; exact h
  by_cases h : xdeep 8 t ≤ 8
  · simp (disch := first | omega | (simp only [avs_len, List.length_cons, List.length_append, List.length_nil, List.length_take, List.length_drop, List.length_map]; omega) | (simp only [cells, scal1, allSz, List.length_cons, List.length_nil, List.length_append, List.length_map, List.all_cons, List.all_nil, avs_len, beq_self_eq_true, Bool.and_self, and_self, or_true, true_or, reduceCtorEq, *]; done) | fail) only [c_ref04_ERight, go_sem, Nat.reduceAdd, Nat.reduceSub, Nat.reduceMul, Nat.reduceLT, Nat.reduceLeDiff, Int.reduceToNat, Nat.reduceEqDiff, Nat.reduceBEq, ↓reduceIte, reduceCtorEq, eA]
    obtain ⟨n, ok, c, hn, h1, h2⟩ := refEcount_calls t
    refine call0 100 trivial trivial c (.inl rfl) (fun A eA => ?_)
    cases ok with
    | false =>
      simp (disch := first | omega | (simp only [avs_len, List.length_cons, List.length_append, List.length_nil, List.length_take, List.length_drop, List.length_map]; omega) | (simp only [cells, scal1, allSz, List.length_cons, List.length_nil, List.length_append, List.length_map, List.all_cons, List.all_nil, avs_len, beq_self_eq_true, Bool.and_self, and_self, or_true, true_or, reduceCtorEq, *]; done) | fail) only [c_ref04_ERight, go_sem, Nat.reduceAdd, Nat.reduceSub, Nat.reduceMul, Nat.reduceLT, Nat.reduceLeDiff, Int.reduceToNat, Nat.reduceEqDiff, Nat.reduceBEq, ↓reduceIte, reduceCtorEq, eA]
      rw [hno (by rintro ⟨b, hb, -, -, hsh, hsm⟩; have := h1.2 ⟨b, hb, hsh, hsm⟩; cases this)]
      exact doneG rfl
    | true =>
      obtain ⟨b, rfl, hsh, hsm⟩ := h1.1 rfl
      have hn2 := h2 rfl b rfl
      have hdp := (xflat_dep 8 b).1 ((xdeep_le 8 _).1 h)
      by_cases h6 : n ≤ 60
      · simp (disch := first | omega | (simp only [avs_len, List.length_cons, List.length_append, List.length_nil, List.length_take, List.length_drop, List.length_map]; omega) | (simp only [cells, scal1, allSz, List.length_cons, List.length_nil, List.length_append, List.length_map, List.all_cons, List.all_nil, avs_len, beq_self_eq_true, Bool.and_self, and_self, or_true, true_or, reduceCtorEq, *]; done) | fail) only [c_ref04_ERight, go_sem, Nat.reduceAdd, Nat.reduceSub, Nat.reduceMul, Nat.reduceLT, Nat.reduceLeDiff, Int.reduceToNat, Nat.reduceEqDiff, Nat.reduceBEq, ↓reduceIte, reduceCtorEq, eA]
        rw [xrtb_true.2 ⟨b, rfl, hdp, by omega, hsh, hsm⟩]
        exact doneG rfl
      · simp (disch := first | omega | (simp only [avs_len, List.length_cons, List.length_append, List.length_nil, List.length_take, List.length_drop, List.length_map]; omega) | (simp only [cells, scal1, allSz, List.length_cons, List.length_nil, List.length_append, List.length_map, List.all_cons, List.all_nil, avs_len, beq_self_eq_true, Bool.and_self, and_self, or_true, true_or, reduceCtorEq, *]; done) | fail) only [c_ref04_ERight, go_sem, Nat.reduceAdd, Nat.reduceSub, Nat.reduceMul, Nat.reduceLT, Nat.reduceLeDiff, Int.reduceToNat, Nat.reduceEqDiff, Nat.reduceBEq, ↓reduceIte, reduceCtorEq, eA]
        rw [hno (by rintro ⟨b', hb, -, h7, -⟩; obtain rfl := E.inj hb; omega)]
        exact doneG rfl
  · simp (disch := first | omega | (simp only [avs_len, List.length_cons, List.length_append, List.length_nil, List.length_take, List.length_drop, List.length_map]; omega) | (simp only [cells, scal1, allSz, List.length_cons, List.length_nil, List.length_append, List.length_map, List.all_cons, List.all_nil, avs_len, beq_self_eq_true, Bool.and_self, and_self, or_true, true_or, reduceCtorEq, *]; done) | fail) only [c_ref04_ERight, go_sem, Nat.reduceAdd, Nat.reduceSub, Nat.reduceMul, Nat.reduceLT, Nat.reduceLeDiff, Int.reduceToNat, Nat.reduceEqDiff, Nat.reduceBEq, ↓reduceIte, reduceCtorEq, eA]
    rw [hno (by rintro ⟨b, rfl, h7, -, -⟩; exact h ((xdeep_le 8 _).2 ((xflat_dep 8 b).2 h7)))]
    exact doneG rfl
end Go.Proofs.Ytmokhopjnjecbab
/- The walk through versions. -/
namespace Go.Proofs.Ytmokhopjnjecbab
open Go.Ev
set_option linter.unusedVariables false
set_option linter.unusedSimpArgs false
set_option maxRecDepth 100000
variable {R : List AV → Heap → Ctr → Prop} {k : List It} {H : Heap} {nx : Ctr} {φ : Nat}

structure Ver where
  client : Int
  token : Int
  key : ByteArray
  value : ByteArray
  gone : Bool
  event : ET
abbrev vcs (v : Ver) : List AV := [.int .i64 v.client, .int .i64 v.token, .str v.key, .str v.value, .bool v.gone, .int .i64 v.event.n, .fz 2 (xtavs v.event.ps) none]
abbrev vv (v : Ver) : AV := .agg (vcs v)
def VRt (v : Ver) : Prop := ¬ v.client < 0 ∧ ¬ 1048576 ≤ v.client ∧ ¬ v.token < 1 ∧ ¬ 1099511627776 < v.token ∧ ¬ v.key.size < 1 ∧ ¬ 20 < v.key.size ∧ ¬ 100 < v.value.size ∧ (v.gone = true → v.value.size = 0) ∧ XRt v.event ∧ v.event ≠ .mk 0 []
noncomputable def vrtb (v : Ver) : Bool := @decide (VRt v) (Classical.propDecidable _)
theorem vrtb_true {v : Ver} : vrtb v = true ↔ VRt v := by simp [vrtb]
theorem vrtb_no {v : Ver} (h : ¬ VRt v) : vrtb v = false := by rw [Bool.eq_false_iff, ne_eq, vrtb_true]; exact h
theorem str_inj {x y : ByteArray} (h : x.toList = y.toList) : x = y := by
  rw [ByteArray.toList_eq, ByteArray.toList_eq] at h
  cases x; cases y
  congr 1
  exact Array.toList_inj.1 h
theorem str_beq_true {x y : ByteArray} (h : x = y) : (x.toList == y.toList) = true := by rw [h]; simp
theorem str_beq_false {x y : ByteArray} (h : ¬ x = y) : (x.toList == y.toList) = false := by
  rw [Bool.eq_false_iff, ne_eq, beq_iff_eq]
  exact fun e => h (str_inj e)
theorem str_size0 {s : ByteArray} : s = ⟨#[]⟩ ↔ s.size = 0 := by
  constructor
  · rintro rfl; rfl
  · intro h
    cases s with
    | mk d => congr 1; exact Array.eq_empty_of_size_eq_zero h
theorem xright_zero : XRt (.mk 0 []) := ⟨.lf 0, rfl, by decide, by decide, rfl, by decide⟩
theorem xsm_self (t : ET) (h : XRt t) (b : ET) : xsm 8 t b = xteq t b := by
  rw [Bool.eq_iff_iff, xsm_iff, xteq_true]
  obtain ⟨x, rfl, h1, _⟩ := h
  exact ⟨fun h => h.1, fun e => ⟨e, (xflat_dep 8 x).2 h1⟩⟩
theorem xrt_size {t : ET} (h : XRt t) : t.size < 2 ^ 20 := by
  obtain ⟨x, rfl, _, h2, _⟩ := h
  rw [E.t_size]; omega
set_option maxHeartbeats 1600000 in
theorem vRight_calls (v : Ver) : PCalls Try.prog F_version_Right [vv v] (.bool (vrtb v)) := by
  by_cases c0 : v.client < 0
  · rw [vrtb_no (fun h => by unfold VRt at h; omega)]
    refine calls_version_Right (walk0 100 trivial (fun A eA => ?_))
    simp (disch := first | omega | (simp only [avs_len, List.length_cons, List.length_append, List.length_nil, List.length_take, List.length_drop, List.length_map]; omega)) only [c_version_Right, ↓advStep, ↓execK, ↓opK, ↓binK, ↓intK, ↓strK, evs, ev, getT, setT, put, List.replicate, List.cons_append, List.nil_append, List.length_cons, List.length_nil, ↓mapK, ↓frzK_sl, ↓frzK_agg, ↓frzK_tup, ↓frzK_ifc, ↓frzK_func, ↓frzK_int, ↓frzK_bool, ↓frzK_str, ↓frzK_nilp, ↓frzK_nils, ↓frzK_nilm, ↓frzK_nilf, ↓frzK_nili, ↓frzK_fz, ↓frzK_any, ↓frzK_ptr, ↓frzK_ro, ↓getB, setB, kill, killM, dropK, keysOf, capOf_nn, zeroC, bump, frzT, thaw, gets, putAll, ↓getsK, ↓getR, ↓retK, retv, find, cells, ↓nilpK, ↓nilsK, ↓nilfK, ↓niliK, ↓bndK, ↓cutK, ↓fillK, ↓exitK, List.append_nil, List.drop, List.take, Nat.reduceAdd, Nat.reduceSub, Nat.reduceMul, Nat.reduceLT, Nat.reduceLeDiff, Nat.zero_add, Nat.add_zero, Nat.mul_one, Int.reduceToNat, Nat.reduceEqDiff, Nat.succ_ne_self, Nat.le_refl, Nat.one_ne_zero, Nat.reduceBEq, Nat.lt_irrefl, List.length_append, Int.toNat_zero, Int.toNat_one, List.take_zero, List.drop_zero, Nat.zero_mul, sel, rest, keyIn, ↓reduceIte, ↓if_pos, ↓if_neg, reduceCtorEq, Bool.not_true, Bool.not_false, Bool.false_eq_true, Bool.true_eq_false, and_self, and_true, true_and, false_and, and_false, decide_true, decide_false, decide_eq_true, decide_eq_false, decide_eq_true_eq, decide_eq_false_iff_not, Bool.not_eq_true, Bool.not_eq_false, Bool.not_eq_eq_eq_not, Decidable.not_not, eA, scal1, List.all_cons, List.all_nil, Bool.and_self]
    exact doneG rfl
  by_cases c1 : 1048576 ≤ v.client
  · rw [vrtb_no (fun h => by unfold VRt at h; omega)]
    refine calls_version_Right (walk0 100 trivial (fun A eA => ?_))
    simp (disch := first | omega | (simp only [avs_len, List.length_cons, List.length_append, List.length_nil, List.length_take, List.length_drop, List.length_map]; omega)) only [c_version_Right, ↓advStep, ↓execK, ↓opK, ↓binK, ↓intK, ↓strK, evs, ev, getT, setT, put, List.replicate, List.cons_append, List.nil_append, List.length_cons, List.length_nil, ↓mapK, ↓frzK_sl, ↓frzK_agg, ↓frzK_tup, ↓frzK_ifc, ↓frzK_func, ↓frzK_int, ↓frzK_bool, ↓frzK_str, ↓frzK_nilp, ↓frzK_nils, ↓frzK_nilm, ↓frzK_nilf, ↓frzK_nili, ↓frzK_fz, ↓frzK_any, ↓frzK_ptr, ↓frzK_ro, ↓getB, setB, kill, killM, dropK, keysOf, capOf_nn, zeroC, bump, frzT, thaw, gets, putAll, ↓getsK, ↓getR, ↓retK, retv, find, cells, ↓nilpK, ↓nilsK, ↓nilfK, ↓niliK, ↓bndK, ↓cutK, ↓fillK, ↓exitK, List.append_nil, List.drop, List.take, Nat.reduceAdd, Nat.reduceSub, Nat.reduceMul, Nat.reduceLT, Nat.reduceLeDiff, Nat.zero_add, Nat.add_zero, Nat.mul_one, Int.reduceToNat, Nat.reduceEqDiff, Nat.succ_ne_self, Nat.le_refl, Nat.one_ne_zero, Nat.reduceBEq, Nat.lt_irrefl, List.length_append, Int.toNat_zero, Int.toNat_one, List.take_zero, List.drop_zero, Nat.zero_mul, sel, rest, keyIn, ↓reduceIte, ↓if_pos, ↓if_neg, reduceCtorEq, Bool.not_true, Bool.not_false, Bool.false_eq_true, Bool.true_eq_false, and_self, and_true, true_and, false_and, and_false, decide_true, decide_false, decide_eq_true, decide_eq_false, decide_eq_true_eq, decide_eq_false_iff_not, Bool.not_eq_true, Bool.not_eq_false, Bool.not_eq_eq_eq_not, Decidable.not_not, eA, scal1, List.all_cons, List.all_nil, Bool.and_self]
    exact doneG rfl
  by_cases c2 : v.token < 1
  · rw [vrtb_no (fun h => by unfold VRt at h; omega)]
    refine calls_version_Right (walk0 100 trivial (fun A eA => ?_))
    simp (disch := first | omega | (simp only [avs_len, List.length_cons, List.length_append, List.length_nil, List.length_take, List.length_drop, List.length_map]; omega)) only [c_version_Right, ↓advStep, ↓execK, ↓opK, ↓binK, ↓intK, ↓strK, evs, ev, getT, setT, put, List.replicate, List.cons_append, List.nil_append, List.length_cons, List.length_nil, ↓mapK, ↓frzK_sl, ↓frzK_agg, ↓frzK_tup, ↓frzK_ifc, ↓frzK_func, ↓frzK_int, ↓frzK_bool, ↓frzK_str, ↓frzK_nilp, ↓frzK_nils, ↓frzK_nilm, ↓frzK_nilf, ↓frzK_nili, ↓frzK_fz, ↓frzK_any, ↓frzK_ptr, ↓frzK_ro, ↓getB, setB, kill, killM, dropK, keysOf, capOf_nn, zeroC, bump, frzT, thaw, gets, putAll, ↓getsK, ↓getR, ↓retK, retv, find, cells, ↓nilpK, ↓nilsK, ↓nilfK, ↓niliK, ↓bndK, ↓cutK, ↓fillK, ↓exitK, List.append_nil, List.drop, List.take, Nat.reduceAdd, Nat.reduceSub, Nat.reduceMul, Nat.reduceLT, Nat.reduceLeDiff, Nat.zero_add, Nat.add_zero, Nat.mul_one, Int.reduceToNat, Nat.reduceEqDiff, Nat.succ_ne_self, Nat.le_refl, Nat.one_ne_zero, Nat.reduceBEq, Nat.lt_irrefl, List.length_append, Int.toNat_zero, Int.toNat_one, List.take_zero, List.drop_zero, Nat.zero_mul, sel, rest, keyIn, ↓reduceIte, ↓if_pos, ↓if_neg, reduceCtorEq, Bool.not_true, Bool.not_false, Bool.false_eq_true, Bool.true_eq_false, and_self, and_true, true_and, false_and, and_false, decide_true, decide_false, decide_eq_true, decide_eq_false, decide_eq_true_eq, decide_eq_false_iff_not, Bool.not_eq_true, Bool.not_eq_false, Bool.not_eq_eq_eq_not, Decidable.not_not, eA, scal1, List.all_cons, List.all_nil, Bool.and_self]
    exact doneG rfl
  by_cases c3 : 1099511627776 < v.token
  · rw [vrtb_no (fun h => by unfold VRt at h; omega)]
    refine calls_version_Right (walk0 100 trivial (fun A eA => ?_))
    simp (disch := first | omega | (simp only [avs_len, List.length_cons, List.length_append, List.length_nil, List.length_take, List.length_drop, List.length_map]; omega)) only [c_version_Right, ↓advStep, ↓execK, ↓opK, ↓binK, ↓intK, ↓strK, evs, ev, getT, setT, put, List.replicate, List.cons_append, List.nil_append, List.length_cons, List.length_nil, ↓mapK, ↓frzK_sl, ↓frzK_agg, ↓frzK_tup, ↓frzK_ifc, ↓frzK_func, ↓frzK_int, ↓frzK_bool, ↓frzK_str, ↓frzK_nilp, ↓frzK_nils, ↓frzK_nilm, ↓frzK_nilf, ↓frzK_nili, ↓frzK_fz, ↓frzK_any, ↓frzK_ptr, ↓frzK_ro, ↓getB, setB, kill, killM, dropK, keysOf, capOf_nn, zeroC, bump, frzT, thaw, gets, putAll, ↓getsK, ↓getR, ↓retK, retv, find, cells, ↓nilpK, ↓nilsK, ↓nilfK, ↓niliK, ↓bndK, ↓cutK, ↓fillK, ↓exitK, List.append_nil, List.drop, List.take, Nat.reduceAdd, Nat.reduceSub, Nat.reduceMul, Nat.reduceLT, Nat.reduceLeDiff, Nat.zero_add, Nat.add_zero, Nat.mul_one, Int.reduceToNat, Nat.reduceEqDiff, Nat.succ_ne_self, Nat.le_refl, Nat.one_ne_zero, Nat.reduceBEq, Nat.lt_irrefl, List.length_append, Int.toNat_zero, Int.toNat_one, List.take_zero, List.drop_zero, Nat.zero_mul, sel, rest, keyIn, ↓reduceIte, ↓if_pos, ↓if_neg, reduceCtorEq, Bool.not_true, Bool.not_false, Bool.false_eq_true, Bool.true_eq_false, and_self, and_true, true_and, false_and, and_false, decide_true, decide_false, decide_eq_true, decide_eq_false, decide_eq_true_eq, decide_eq_false_iff_not, Bool.not_eq_true, Bool.not_eq_false, Bool.not_eq_eq_eq_not, Decidable.not_not, eA, scal1, List.all_cons, List.all_nil, Bool.and_self]
    exact doneG rfl
  by_cases c4 : v.key.size < 1
  · rw [vrtb_no (fun h => by unfold VRt at h; omega)]
    refine calls_version_Right (walk0 100 trivial (fun A eA => ?_))
    simp (disch := first | omega | (simp only [avs_len, List.length_cons, List.length_append, List.length_nil, List.length_take, List.length_drop, List.length_map]; omega)) only [c_version_Right, ↓advStep, ↓execK, ↓opK, ↓binK, ↓intK, ↓strK, evs, ev, getT, setT, put, List.replicate, List.cons_append, List.nil_append, List.length_cons, List.length_nil, ↓mapK, ↓frzK_sl, ↓frzK_agg, ↓frzK_tup, ↓frzK_ifc, ↓frzK_func, ↓frzK_int, ↓frzK_bool, ↓frzK_str, ↓frzK_nilp, ↓frzK_nils, ↓frzK_nilm, ↓frzK_nilf, ↓frzK_nili, ↓frzK_fz, ↓frzK_any, ↓frzK_ptr, ↓frzK_ro, ↓getB, setB, kill, killM, dropK, keysOf, capOf_nn, zeroC, bump, frzT, thaw, gets, putAll, ↓getsK, ↓getR, ↓retK, retv, find, cells, ↓nilpK, ↓nilsK, ↓nilfK, ↓niliK, ↓bndK, ↓cutK, ↓fillK, ↓exitK, List.append_nil, List.drop, List.take, Nat.reduceAdd, Nat.reduceSub, Nat.reduceMul, Nat.reduceLT, Nat.reduceLeDiff, Nat.zero_add, Nat.add_zero, Nat.mul_one, Int.reduceToNat, Nat.reduceEqDiff, Nat.succ_ne_self, Nat.le_refl, Nat.one_ne_zero, Nat.reduceBEq, Nat.lt_irrefl, List.length_append, Int.toNat_zero, Int.toNat_one, List.take_zero, List.drop_zero, Nat.zero_mul, sel, rest, keyIn, ↓reduceIte, ↓if_pos, ↓if_neg, reduceCtorEq, Bool.not_true, Bool.not_false, Bool.false_eq_true, Bool.true_eq_false, and_self, and_true, true_and, false_and, and_false, decide_true, decide_false, decide_eq_true, decide_eq_false, decide_eq_true_eq, decide_eq_false_iff_not, Bool.not_eq_true, Bool.not_eq_false, Bool.not_eq_eq_eq_not, Decidable.not_not, eA, scal1, List.all_cons, List.all_nil, Bool.and_self]
    exact doneG rfl
  by_cases c5 : 20 < v.key.size
  · rw [vrtb_no (fun h => by unfold VRt at h; omega)]
    refine calls_version_Right (walk0 100 trivial (fun A eA => ?_))
    simp (disch := first | omega | (simp only [avs_len, List.length_cons, List.length_append, List.length_nil, List.length_take, List.length_drop, List.length_map]; omega)) only [c_version_Right, ↓advStep, ↓execK, ↓opK, ↓binK, ↓intK, ↓strK, evs, ev, getT, setT, put, List.replicate, List.cons_append, List.nil_append, List.length_cons, List.length_nil, ↓mapK, ↓frzK_sl, ↓frzK_agg, ↓frzK_tup, ↓frzK_ifc, ↓frzK_func, ↓frzK_int, ↓frzK_bool, ↓frzK_str, ↓frzK_nilp, ↓frzK_nils, ↓frzK_nilm, ↓frzK_nilf, ↓frzK_nili, ↓frzK_fz, ↓frzK_any, ↓frzK_ptr, ↓frzK_ro, ↓getB, setB, kill, killM, dropK, keysOf, capOf_nn, zeroC, bump, frzT, thaw, gets, putAll, ↓getsK, ↓getR, ↓retK, retv, find, cells, ↓nilpK, ↓nilsK, ↓nilfK, ↓niliK, ↓bndK, ↓cutK, ↓fillK, ↓exitK, List.append_nil, List.drop, List.take, Nat.reduceAdd, Nat.reduceSub, Nat.reduceMul, Nat.reduceLT, Nat.reduceLeDiff, Nat.zero_add, Nat.add_zero, Nat.mul_one, Int.reduceToNat, Nat.reduceEqDiff, Nat.succ_ne_self, Nat.le_refl, Nat.one_ne_zero, Nat.reduceBEq, Nat.lt_irrefl, List.length_append, Int.toNat_zero, Int.toNat_one, List.take_zero, List.drop_zero, Nat.zero_mul, sel, rest, keyIn, ↓reduceIte, ↓if_pos, ↓if_neg, reduceCtorEq, Bool.not_true, Bool.not_false, Bool.false_eq_true, Bool.true_eq_false, and_self, and_true, true_and, false_and, and_false, decide_true, decide_false, decide_eq_true, decide_eq_false, decide_eq_true_eq, decide_eq_false_iff_not, Bool.not_eq_true, Bool.not_eq_false, Bool.not_eq_eq_eq_not, Decidable.not_not, eA, scal1, List.all_cons, List.all_nil, Bool.and_self]
    exact doneG rfl
  by_cases c6 : 100 < v.value.size
  · rw [vrtb_no (fun h => by unfold VRt at h; omega)]
    refine calls_version_Right (walk0 100 trivial (fun A eA => ?_))
    simp (disch := first | omega | (simp only [avs_len, List.length_cons, List.length_append, List.length_nil, List.length_take, List.length_drop, List.length_map]; omega)) only [c_version_Right, ↓advStep, ↓execK, ↓opK, ↓binK, ↓intK, ↓strK, evs, ev, getT, setT, put, List.replicate, List.cons_append, List.nil_append, List.length_cons, List.length_nil, ↓mapK, ↓frzK_sl, ↓frzK_agg, ↓frzK_tup, ↓frzK_ifc, ↓frzK_func, ↓frzK_int, ↓frzK_bool, ↓frzK_str, ↓frzK_nilp, ↓frzK_nils, ↓frzK_nilm, ↓frzK_nilf, ↓frzK_nili, ↓frzK_fz, ↓frzK_any, ↓frzK_ptr, ↓frzK_ro, ↓getB, setB, kill, killM, dropK, keysOf, capOf_nn, zeroC, bump, frzT, thaw, gets, putAll, ↓getsK, ↓getR, ↓retK, retv, find, cells, ↓nilpK, ↓nilsK, ↓nilfK, ↓niliK, ↓bndK, ↓cutK, ↓fillK, ↓exitK, List.append_nil, List.drop, List.take, Nat.reduceAdd, Nat.reduceSub, Nat.reduceMul, Nat.reduceLT, Nat.reduceLeDiff, Nat.zero_add, Nat.add_zero, Nat.mul_one, Int.reduceToNat, Nat.reduceEqDiff, Nat.succ_ne_self, Nat.le_refl, Nat.one_ne_zero, Nat.reduceBEq, Nat.lt_irrefl, List.length_append, Int.toNat_zero, Int.toNat_one, List.take_zero, List.drop_zero, Nat.zero_mul, sel, rest, keyIn, ↓reduceIte, ↓if_pos, ↓if_neg, reduceCtorEq, Bool.not_true, Bool.not_false, Bool.false_eq_true, Bool.true_eq_false, and_self, and_true, true_and, false_and, and_false, decide_true, decide_false, decide_eq_true, decide_eq_false, decide_eq_true_eq, decide_eq_false_iff_not, Bool.not_eq_true, Bool.not_eq_false, Bool.not_eq_eq_eq_not, Decidable.not_not, eA, scal1, List.all_cons, List.all_nil, Bool.and_self]
    exact doneG rfl
  have key : (v.gone = true → v.value.size = 0) → PCalls Try.prog F_version_Right [vv v] (.bool (vrtb v)) := by
    intro cg
    have cr := xright_calls v.event
    by_cases hr : XRt v.event
    · rw [xrtb_true.2 hr] at cr
      have cs := PCalls.arg [xtv v.event] (post := []) (xwk_leaf 0) (xSame4_calls v.event (.mk 0 []) (by have := xrt_size hr; omega))
      rw [xsm_self _ hr] at cs
      simp only [List.cons_append, List.nil_append] at cs
      have e : vrtb v = !xteq v.event (.mk 0 []) := by
        rw [Bool.eq_iff_iff, vrtb_true, Bool.not_eq_true', Bool.eq_false_iff, ne_eq, xteq_true]
        exact ⟨fun h => h.2.2.2.2.2.2.2.2.2, fun h => ⟨c0, c1, c2, c3, c4, c5, c6, cg, hr, h⟩⟩
      rw [e]
      generalize xteq v.event (.mk 0 []) = q at cs ⊢
      refine calls_version_Right (walk0 100 trivial (fun A eA => ?_))
      cases hg : v.gone with
      | true =>
        have hv : (v.value.toList == (⟨#[]⟩ : ByteArray).toList) = true := str_beq_true (str_size0.2 (cg hg))
        simp (disch := first | omega | (simp only [avs_len, List.length_cons, List.length_append, List.length_nil, List.length_take, List.length_drop, List.length_map]; omega)) only [c_version_Right, ↓advStep, ↓execK, ↓opK, ↓binK, ↓intK, ↓strK, evs, ev, getT, setT, put, List.replicate, List.cons_append, List.nil_append, List.length_cons, List.length_nil, ↓mapK, ↓frzK_sl, ↓frzK_agg, ↓frzK_tup, ↓frzK_ifc, ↓frzK_func, ↓frzK_int, ↓frzK_bool, ↓frzK_str, ↓frzK_nilp, ↓frzK_nils, ↓frzK_nilm, ↓frzK_nilf, ↓frzK_nili, ↓frzK_fz, ↓frzK_any, ↓frzK_ptr, ↓frzK_ro, ↓getB, setB, kill, killM, dropK, keysOf, capOf_nn, zeroC, bump, frzT, thaw, gets, putAll, ↓getsK, ↓getR, ↓retK, retv, find, cells, ↓nilpK, ↓nilsK, ↓nilfK, ↓niliK, ↓bndK, ↓cutK, ↓fillK, ↓exitK, List.append_nil, List.drop, List.take, Nat.reduceAdd, Nat.reduceSub, Nat.reduceMul, Nat.reduceLT, Nat.reduceLeDiff, Nat.zero_add, Nat.add_zero, Nat.mul_one, Int.reduceToNat, Nat.reduceEqDiff, Nat.succ_ne_self, Nat.le_refl, Nat.one_ne_zero, Nat.reduceBEq, Nat.lt_irrefl, List.length_append, Int.toNat_zero, Int.toNat_one, List.take_zero, List.drop_zero, Nat.zero_mul, sel, rest, keyIn, ↓reduceIte, ↓if_pos, ↓if_neg, reduceCtorEq, Bool.not_true, Bool.not_false, Bool.false_eq_true, Bool.true_eq_false, and_self, and_true, true_and, false_and, and_false, decide_true, decide_false, decide_eq_true, decide_eq_false, decide_eq_true_eq, decide_eq_false_iff_not, Bool.not_eq_true, Bool.not_eq_false, Bool.not_eq_eq_eq_not, Decidable.not_not, eA, scal1, List.all_cons, List.all_nil, Bool.and_self, hg, hv]
        repeat ((first | refine call0 100 trivial trivial (by first | exact cr | exact cs) (by first | exact .inl rfl | exact .inr rfl) (fun A eA => ?_) | refine call1 100 trivial trivial (by first | exact cr | exact cs) (fun A eA => ?_)); simp (disch := first | omega | (simp only [avs_len, List.length_cons, List.length_append, List.length_nil, List.length_take, List.length_drop, List.length_map]; omega)) only [c_version_Right, ↓advStep, ↓execK, ↓opK, ↓binK, ↓intK, ↓strK, evs, ev, getT, setT, put, List.replicate, List.cons_append, List.nil_append, List.length_cons, List.length_nil, ↓mapK, ↓frzK_sl, ↓frzK_agg, ↓frzK_tup, ↓frzK_ifc, ↓frzK_func, ↓frzK_int, ↓frzK_bool, ↓frzK_str, ↓frzK_nilp, ↓frzK_nils, ↓frzK_nilm, ↓frzK_nilf, ↓frzK_nili, ↓frzK_fz, ↓frzK_any, ↓frzK_ptr, ↓frzK_ro, ↓getB, setB, kill, killM, dropK, keysOf, capOf_nn, zeroC, bump, frzT, thaw, gets, putAll, ↓getsK, ↓getR, ↓retK, retv, find, cells, ↓nilpK, ↓nilsK, ↓nilfK, ↓niliK, ↓bndK, ↓cutK, ↓fillK, ↓exitK, List.append_nil, List.drop, List.take, Nat.reduceAdd, Nat.reduceSub, Nat.reduceMul, Nat.reduceLT, Nat.reduceLeDiff, Nat.zero_add, Nat.add_zero, Nat.mul_one, Int.reduceToNat, Nat.reduceEqDiff, Nat.succ_ne_self, Nat.le_refl, Nat.one_ne_zero, Nat.reduceBEq, Nat.lt_irrefl, List.length_append, Int.toNat_zero, Int.toNat_one, List.take_zero, List.drop_zero, Nat.zero_mul, sel, rest, keyIn, ↓reduceIte, ↓if_pos, ↓if_neg, reduceCtorEq, Bool.not_true, Bool.not_false, Bool.false_eq_true, Bool.true_eq_false, and_self, and_true, true_and, false_and, and_false, decide_true, decide_false, decide_eq_true, decide_eq_false, decide_eq_true_eq, decide_eq_false_iff_not, Bool.not_eq_true, Bool.not_eq_false, Bool.not_eq_eq_eq_not, Decidable.not_not, eA, scal1, List.all_cons, List.all_nil, Bool.and_self])
        exact doneG rfl
      | false =>
        simp (disch := first | omega | (simp only [avs_len, List.length_cons, List.length_append, List.length_nil, List.length_take, List.length_drop, List.length_map]; omega)) only [c_version_Right, ↓advStep, ↓execK, ↓opK, ↓binK, ↓intK, ↓strK, evs, ev, getT, setT, put, List.replicate, List.cons_append, List.nil_append, List.length_cons, List.length_nil, ↓mapK, ↓frzK_sl, ↓frzK_agg, ↓frzK_tup, ↓frzK_ifc, ↓frzK_func, ↓frzK_int, ↓frzK_bool, ↓frzK_str, ↓frzK_nilp, ↓frzK_nils, ↓frzK_nilm, ↓frzK_nilf, ↓frzK_nili, ↓frzK_fz, ↓frzK_any, ↓frzK_ptr, ↓frzK_ro, ↓getB, setB, kill, killM, dropK, keysOf, capOf_nn, zeroC, bump, frzT, thaw, gets, putAll, ↓getsK, ↓getR, ↓retK, retv, find, cells, ↓nilpK, ↓nilsK, ↓nilfK, ↓niliK, ↓bndK, ↓cutK, ↓fillK, ↓exitK, List.append_nil, List.drop, List.take, Nat.reduceAdd, Nat.reduceSub, Nat.reduceMul, Nat.reduceLT, Nat.reduceLeDiff, Nat.zero_add, Nat.add_zero, Nat.mul_one, Int.reduceToNat, Nat.reduceEqDiff, Nat.succ_ne_self, Nat.le_refl, Nat.one_ne_zero, Nat.reduceBEq, Nat.lt_irrefl, List.length_append, Int.toNat_zero, Int.toNat_one, List.take_zero, List.drop_zero, Nat.zero_mul, sel, rest, keyIn, ↓reduceIte, ↓if_pos, ↓if_neg, reduceCtorEq, Bool.not_true, Bool.not_false, Bool.false_eq_true, Bool.true_eq_false, and_self, and_true, true_and, false_and, and_false, decide_true, decide_false, decide_eq_true, decide_eq_false, decide_eq_true_eq, decide_eq_false_iff_not, Bool.not_eq_true, Bool.not_eq_false, Bool.not_eq_eq_eq_not, Decidable.not_not, eA, scal1, List.all_cons, List.all_nil, Bool.and_self, hg]
        repeat ((first | refine call0 100 trivial trivial (by first | exact cr | exact cs) (by first | exact .inl rfl | exact .inr rfl) (fun A eA => ?_) | refine call1 100 trivial trivial (by first | exact cr | exact cs) (fun A eA => ?_)); simp (disch := first | omega | (simp only [avs_len, List.length_cons, List.length_append, List.length_nil, List.length_take, List.length_drop, List.length_map]; omega)) only [c_version_Right, ↓advStep, ↓execK, ↓opK, ↓binK, ↓intK, ↓strK, evs, ev, getT, setT, put, List.replicate, List.cons_append, List.nil_append, List.length_cons, List.length_nil, ↓mapK, ↓frzK_sl, ↓frzK_agg, ↓frzK_tup, ↓frzK_ifc, ↓frzK_func, ↓frzK_int, ↓frzK_bool, ↓frzK_str, ↓frzK_nilp, ↓frzK_nils, ↓frzK_nilm, ↓frzK_nilf, ↓frzK_nili, ↓frzK_fz, ↓frzK_any, ↓frzK_ptr, ↓frzK_ro, ↓getB, setB, kill, killM, dropK, keysOf, capOf_nn, zeroC, bump, frzT, thaw, gets, putAll, ↓getsK, ↓getR, ↓retK, retv, find, cells, ↓nilpK, ↓nilsK, ↓nilfK, ↓niliK, ↓bndK, ↓cutK, ↓fillK, ↓exitK, List.append_nil, List.drop, List.take, Nat.reduceAdd, Nat.reduceSub, Nat.reduceMul, Nat.reduceLT, Nat.reduceLeDiff, Nat.zero_add, Nat.add_zero, Nat.mul_one, Int.reduceToNat, Nat.reduceEqDiff, Nat.succ_ne_self, Nat.le_refl, Nat.one_ne_zero, Nat.reduceBEq, Nat.lt_irrefl, List.length_append, Int.toNat_zero, Int.toNat_one, List.take_zero, List.drop_zero, Nat.zero_mul, sel, rest, keyIn, ↓reduceIte, ↓if_pos, ↓if_neg, reduceCtorEq, Bool.not_true, Bool.not_false, Bool.false_eq_true, Bool.true_eq_false, and_self, and_true, true_and, false_and, and_false, decide_true, decide_false, decide_eq_true, decide_eq_false, decide_eq_true_eq, decide_eq_false_iff_not, Bool.not_eq_true, Bool.not_eq_false, Bool.not_eq_eq_eq_not, Decidable.not_not, eA, scal1, List.all_cons, List.all_nil, Bool.and_self])
        exact doneG rfl
    · rw [show xrtb v.event = false by rw [Bool.eq_false_iff, ne_eq, xrtb_true]; exact hr] at cr
      rw [vrtb_no (fun h => hr h.2.2.2.2.2.2.2.2.1)]
      refine calls_version_Right (walk0 100 trivial (fun A eA => ?_))
      cases hg : v.gone with
      | true =>
        have hv : (v.value.toList == (⟨#[]⟩ : ByteArray).toList) = true := str_beq_true (str_size0.2 (cg hg))
        simp (disch := first | omega | (simp only [avs_len, List.length_cons, List.length_append, List.length_nil, List.length_take, List.length_drop, List.length_map]; omega)) only [c_version_Right, ↓advStep, ↓execK, ↓opK, ↓binK, ↓intK, ↓strK, evs, ev, getT, setT, put, List.replicate, List.cons_append, List.nil_append, List.length_cons, List.length_nil, ↓mapK, ↓frzK_sl, ↓frzK_agg, ↓frzK_tup, ↓frzK_ifc, ↓frzK_func, ↓frzK_int, ↓frzK_bool, ↓frzK_str, ↓frzK_nilp, ↓frzK_nils, ↓frzK_nilm, ↓frzK_nilf, ↓frzK_nili, ↓frzK_fz, ↓frzK_any, ↓frzK_ptr, ↓frzK_ro, ↓getB, setB, kill, killM, dropK, keysOf, capOf_nn, zeroC, bump, frzT, thaw, gets, putAll, ↓getsK, ↓getR, ↓retK, retv, find, cells, ↓nilpK, ↓nilsK, ↓nilfK, ↓niliK, ↓bndK, ↓cutK, ↓fillK, ↓exitK, List.append_nil, List.drop, List.take, Nat.reduceAdd, Nat.reduceSub, Nat.reduceMul, Nat.reduceLT, Nat.reduceLeDiff, Nat.zero_add, Nat.add_zero, Nat.mul_one, Int.reduceToNat, Nat.reduceEqDiff, Nat.succ_ne_self, Nat.le_refl, Nat.one_ne_zero, Nat.reduceBEq, Nat.lt_irrefl, List.length_append, Int.toNat_zero, Int.toNat_one, List.take_zero, List.drop_zero, Nat.zero_mul, sel, rest, keyIn, ↓reduceIte, ↓if_pos, ↓if_neg, reduceCtorEq, Bool.not_true, Bool.not_false, Bool.false_eq_true, Bool.true_eq_false, and_self, and_true, true_and, false_and, and_false, decide_true, decide_false, decide_eq_true, decide_eq_false, decide_eq_true_eq, decide_eq_false_iff_not, Bool.not_eq_true, Bool.not_eq_false, Bool.not_eq_eq_eq_not, Decidable.not_not, eA, scal1, List.all_cons, List.all_nil, Bool.and_self, hg, hv]
        repeat ((first | refine call0 100 trivial trivial (by first | exact cr) (by first | exact .inl rfl | exact .inr rfl) (fun A eA => ?_) | refine call1 100 trivial trivial (by first | exact cr) (fun A eA => ?_)); simp (disch := first | omega | (simp only [avs_len, List.length_cons, List.length_append, List.length_nil, List.length_take, List.length_drop, List.length_map]; omega)) only [c_version_Right, ↓advStep, ↓execK, ↓opK, ↓binK, ↓intK, ↓strK, evs, ev, getT, setT, put, List.replicate, List.cons_append, List.nil_append, List.length_cons, List.length_nil, ↓mapK, ↓frzK_sl, ↓frzK_agg, ↓frzK_tup, ↓frzK_ifc, ↓frzK_func, ↓frzK_int, ↓frzK_bool, ↓frzK_str, ↓frzK_nilp, ↓frzK_nils, ↓frzK_nilm, ↓frzK_nilf, ↓frzK_nili, ↓frzK_fz, ↓frzK_any, ↓frzK_ptr, ↓frzK_ro, ↓getB, setB, kill, killM, dropK, keysOf, capOf_nn, zeroC, bump, frzT, thaw, gets, putAll, ↓getsK, ↓getR, ↓retK, retv, find, cells, ↓nilpK, ↓nilsK, ↓nilfK, ↓niliK, ↓bndK, ↓cutK, ↓fillK, ↓exitK, List.append_nil, List.drop, List.take, Nat.reduceAdd, Nat.reduceSub, Nat.reduceMul, Nat.reduceLT, Nat.reduceLeDiff, Nat.zero_add, Nat.add_zero, Nat.mul_one, Int.reduceToNat, Nat.reduceEqDiff, Nat.succ_ne_self, Nat.le_refl, Nat.one_ne_zero, Nat.reduceBEq, Nat.lt_irrefl, List.length_append, Int.toNat_zero, Int.toNat_one, List.take_zero, List.drop_zero, Nat.zero_mul, sel, rest, keyIn, ↓reduceIte, ↓if_pos, ↓if_neg, reduceCtorEq, Bool.not_true, Bool.not_false, Bool.false_eq_true, Bool.true_eq_false, and_self, and_true, true_and, false_and, and_false, decide_true, decide_false, decide_eq_true, decide_eq_false, decide_eq_true_eq, decide_eq_false_iff_not, Bool.not_eq_true, Bool.not_eq_false, Bool.not_eq_eq_eq_not, Decidable.not_not, eA, scal1, List.all_cons, List.all_nil, Bool.and_self])
        exact doneG rfl
      | false =>
        simp (disch := first | omega | (simp only [avs_len, List.length_cons, List.length_append, List.length_nil, List.length_take, List.length_drop, List.length_map]; omega)) only [c_version_Right, ↓advStep, ↓execK, ↓opK, ↓binK, ↓intK, ↓strK, evs, ev, getT, setT, put, List.replicate, List.cons_append, List.nil_append, List.length_cons, List.length_nil, ↓mapK, ↓frzK_sl, ↓frzK_agg, ↓frzK_tup, ↓frzK_ifc, ↓frzK_func, ↓frzK_int, ↓frzK_bool, ↓frzK_str, ↓frzK_nilp, ↓frzK_nils, ↓frzK_nilm, ↓frzK_nilf, ↓frzK_nili, ↓frzK_fz, ↓frzK_any, ↓frzK_ptr, ↓frzK_ro, ↓getB, setB, kill, killM, dropK, keysOf, capOf_nn, zeroC, bump, frzT, thaw, gets, putAll, ↓getsK, ↓getR, ↓retK, retv, find, cells, ↓nilpK, ↓nilsK, ↓nilfK, ↓niliK, ↓bndK, ↓cutK, ↓fillK, ↓exitK, List.append_nil, List.drop, List.take, Nat.reduceAdd, Nat.reduceSub, Nat.reduceMul, Nat.reduceLT, Nat.reduceLeDiff, Nat.zero_add, Nat.add_zero, Nat.mul_one, Int.reduceToNat, Nat.reduceEqDiff, Nat.succ_ne_self, Nat.le_refl, Nat.one_ne_zero, Nat.reduceBEq, Nat.lt_irrefl, List.length_append, Int.toNat_zero, Int.toNat_one, List.take_zero, List.drop_zero, Nat.zero_mul, sel, rest, keyIn, ↓reduceIte, ↓if_pos, ↓if_neg, reduceCtorEq, Bool.not_true, Bool.not_false, Bool.false_eq_true, Bool.true_eq_false, and_self, and_true, true_and, false_and, and_false, decide_true, decide_false, decide_eq_true, decide_eq_false, decide_eq_true_eq, decide_eq_false_iff_not, Bool.not_eq_true, Bool.not_eq_false, Bool.not_eq_eq_eq_not, Decidable.not_not, eA, scal1, List.all_cons, List.all_nil, Bool.and_self, hg]
        repeat ((first | refine call0 100 trivial trivial (by first | exact cr) (by first | exact .inl rfl | exact .inr rfl) (fun A eA => ?_) | refine call1 100 trivial trivial (by first | exact cr) (fun A eA => ?_)); simp (disch := first | omega | (simp only [avs_len, List.length_cons, List.length_append, List.length_nil, List.length_take, List.length_drop, List.length_map]; omega)) only [c_version_Right, ↓advStep, ↓execK, ↓opK, ↓binK, ↓intK, ↓strK, evs, ev, getT, setT, put, List.replicate, List.cons_append, List.nil_append, List.length_cons, List.length_nil, ↓mapK, ↓frzK_sl, ↓frzK_agg, ↓frzK_tup, ↓frzK_ifc, ↓frzK_func, ↓frzK_int, ↓frzK_bool, ↓frzK_str, ↓frzK_nilp, ↓frzK_nils, ↓frzK_nilm, ↓frzK_nilf, ↓frzK_nili, ↓frzK_fz, ↓frzK_any, ↓frzK_ptr, ↓frzK_ro, ↓getB, setB, kill, killM, dropK, keysOf, capOf_nn, zeroC, bump, frzT, thaw, gets, putAll, ↓getsK, ↓getR, ↓retK, retv, find, cells, ↓nilpK, ↓nilsK, ↓nilfK, ↓niliK, ↓bndK, ↓cutK, ↓fillK, ↓exitK, List.append_nil, List.drop, List.take, Nat.reduceAdd, Nat.reduceSub, Nat.reduceMul, Nat.reduceLT, Nat.reduceLeDiff, Nat.zero_add, Nat.add_zero, Nat.mul_one, Int.reduceToNat, Nat.reduceEqDiff, Nat.succ_ne_self, Nat.le_refl, Nat.one_ne_zero, Nat.reduceBEq, Nat.lt_irrefl, List.length_append, Int.toNat_zero, Int.toNat_one, List.take_zero, List.drop_zero, Nat.zero_mul, sel, rest, keyIn, ↓reduceIte, ↓if_pos, ↓if_neg, reduceCtorEq, Bool.not_true, Bool.not_false, Bool.false_eq_true, Bool.true_eq_false, and_self, and_true, true_and, false_and, and_false, decide_true, decide_false, decide_eq_true, decide_eq_false, decide_eq_true_eq, decide_eq_false_iff_not, Bool.not_eq_true, Bool.not_eq_false, Bool.not_eq_eq_eq_not, Decidable.not_not, eA, scal1, List.all_cons, List.all_nil, Bool.and_self])
        exact doneG rfl
  by_cases c8 : v.gone = true → v.value.size = 0
  · exact key c8
  · rw [vrtb_no (fun h => c8 h.2.2.2.2.2.2.2.1)]
    have hg : v.gone = true := Classical.byContradiction (fun h => c8 (fun h2 => absurd h2 h))
    have hv : (v.value.toList == (⟨#[]⟩ : ByteArray).toList) = false := str_beq_false (fun h => c8 (fun _ => str_size0.1 h))
    refine calls_version_Right (walk0 100 trivial (fun A eA => ?_))
    simp (disch := first | omega | (simp only [avs_len, List.length_cons, List.length_append, List.length_nil, List.length_take, List.length_drop, List.length_map]; omega)) only [c_version_Right, ↓advStep, ↓execK, ↓opK, ↓binK, ↓intK, ↓strK, evs, ev, getT, setT, put, List.replicate, List.cons_append, List.nil_append, List.length_cons, List.length_nil, ↓mapK, ↓frzK_sl, ↓frzK_agg, ↓frzK_tup, ↓frzK_ifc, ↓frzK_func, ↓frzK_int, ↓frzK_bool, ↓frzK_str, ↓frzK_nilp, ↓frzK_nils, ↓frzK_nilm, ↓frzK_nilf, ↓frzK_nili, ↓frzK_fz, ↓frzK_any, ↓frzK_ptr, ↓frzK_ro, ↓getB, setB, kill, killM, dropK, keysOf, capOf_nn, zeroC, bump, frzT, thaw, gets, putAll, ↓getsK, ↓getR, ↓retK, retv, find, cells, ↓nilpK, ↓nilsK, ↓nilfK, ↓niliK, ↓bndK, ↓cutK, ↓fillK, ↓exitK, List.append_nil, List.drop, List.take, Nat.reduceAdd, Nat.reduceSub, Nat.reduceMul, Nat.reduceLT, Nat.reduceLeDiff, Nat.zero_add, Nat.add_zero, Nat.mul_one, Int.reduceToNat, Nat.reduceEqDiff, Nat.succ_ne_self, Nat.le_refl, Nat.one_ne_zero, Nat.reduceBEq, Nat.lt_irrefl, List.length_append, Int.toNat_zero, Int.toNat_one, List.take_zero, List.drop_zero, Nat.zero_mul, sel, rest, keyIn, ↓reduceIte, ↓if_pos, ↓if_neg, reduceCtorEq, Bool.not_true, Bool.not_false, Bool.false_eq_true, Bool.true_eq_false, and_self, and_true, true_and, false_and, and_false, decide_true, decide_false, decide_eq_true, decide_eq_false, decide_eq_true_eq, decide_eq_false_iff_not, Bool.not_eq_true, Bool.not_eq_false, Bool.not_eq_eq_eq_not, Decidable.not_not, eA, scal1, List.all_cons, List.all_nil, Bool.and_self, hg, hv]
    exact doneG rfl
set_option maxHeartbeats 1600000 in
theorem refVRight_calls (v : Ver) (hs : v.event.size < 2 ^ 32) : PCalls Try.prog F_ref04_VRight [vv v] (.bool (vrtb v)) := by
  by_cases c0 : v.client < 0
  · rw [vrtb_no (fun h => by unfold VRt at h; omega)]
    refine calls_ref04_VRight (walk0 100 trivial (fun A eA => ?_))
    simp (disch := first | omega | (simp only [avs_len, List.length_cons, List.length_append, List.length_nil, List.length_take, List.length_drop, List.length_map]; omega)) only [c_ref04_VRight, ↓advStep, ↓execK, ↓opK, ↓binK, ↓intK, ↓strK, evs, ev, getT, setT, put, List.replicate, List.cons_append, List.nil_append, List.length_cons, List.length_nil, ↓mapK, ↓frzK_sl, ↓frzK_agg, ↓frzK_tup, ↓frzK_ifc, ↓frzK_func, ↓frzK_int, ↓frzK_bool, ↓frzK_str, ↓frzK_nilp, ↓frzK_nils, ↓frzK_nilm, ↓frzK_nilf, ↓frzK_nili, ↓frzK_fz, ↓frzK_any, ↓frzK_ptr, ↓frzK_ro, ↓getB, setB, kill, killM, dropK, keysOf, capOf_nn, zeroC, bump, frzT, thaw, gets, putAll, ↓getsK, ↓getR, ↓retK, retv, find, cells, ↓nilpK, ↓nilsK, ↓nilfK, ↓niliK, ↓bndK, ↓cutK, ↓fillK, ↓exitK, List.append_nil, List.drop, List.take, Nat.reduceAdd, Nat.reduceSub, Nat.reduceMul, Nat.reduceLT, Nat.reduceLeDiff, Nat.zero_add, Nat.add_zero, Nat.mul_one, Int.reduceToNat, Nat.reduceEqDiff, Nat.succ_ne_self, Nat.le_refl, Nat.one_ne_zero, Nat.reduceBEq, Nat.lt_irrefl, List.length_append, Int.toNat_zero, Int.toNat_one, List.take_zero, List.drop_zero, Nat.zero_mul, sel, rest, keyIn, ↓reduceIte, ↓if_pos, ↓if_neg, reduceCtorEq, Bool.not_true, Bool.not_false, Bool.false_eq_true, Bool.true_eq_false, and_self, and_true, true_and, false_and, and_false, decide_true, decide_false, decide_eq_true, decide_eq_false, decide_eq_true_eq, decide_eq_false_iff_not, Bool.not_eq_true, Bool.not_eq_false, Bool.not_eq_eq_eq_not, Decidable.not_not, eA, scal1, List.all_cons, List.all_nil, Bool.and_self]
    exact doneG rfl
  by_cases c1 : 1048576 ≤ v.client
  · rw [vrtb_no (fun h => by unfold VRt at h; omega)]
    refine calls_ref04_VRight (walk0 100 trivial (fun A eA => ?_))
    simp (disch := first | omega | (simp only [avs_len, List.length_cons, List.length_append, List.length_nil, List.length_take, List.length_drop, List.length_map]; omega)) only [c_ref04_VRight, ↓advStep, ↓execK, ↓opK, ↓binK, ↓intK, ↓strK, evs, ev, getT, setT, put, List.replicate, List.cons_append, List.nil_append, List.length_cons, List.length_nil, ↓mapK, ↓frzK_sl, ↓frzK_agg, ↓frzK_tup, ↓frzK_ifc, ↓frzK_func, ↓frzK_int, ↓frzK_bool, ↓frzK_str, ↓frzK_nilp, ↓frzK_nils, ↓frzK_nilm, ↓frzK_nilf, ↓frzK_nili, ↓frzK_fz, ↓frzK_any, ↓frzK_ptr, ↓frzK_ro, ↓getB, setB, kill, killM, dropK, keysOf, capOf_nn, zeroC, bump, frzT, thaw, gets, putAll, ↓getsK, ↓getR, ↓retK, retv, find, cells, ↓nilpK, ↓nilsK, ↓nilfK, ↓niliK, ↓bndK, ↓cutK, ↓fillK, ↓exitK, List.append_nil, List.drop, List.take, Nat.reduceAdd, Nat.reduceSub, Nat.reduceMul, Nat.reduceLT, Nat.reduceLeDiff, Nat.zero_add, Nat.add_zero, Nat.mul_one, Int.reduceToNat, Nat.reduceEqDiff, Nat.succ_ne_self, Nat.le_refl, Nat.one_ne_zero, Nat.reduceBEq, Nat.lt_irrefl, List.length_append, Int.toNat_zero, Int.toNat_one, List.take_zero, List.drop_zero, Nat.zero_mul, sel, rest, keyIn, ↓reduceIte, ↓if_pos, ↓if_neg, reduceCtorEq, Bool.not_true, Bool.not_false, Bool.false_eq_true, Bool.true_eq_false, and_self, and_true, true_and, false_and, and_false, decide_true, decide_false, decide_eq_true, decide_eq_false, decide_eq_true_eq, decide_eq_false_iff_not, Bool.not_eq_true, Bool.not_eq_false, Bool.not_eq_eq_eq_not, Decidable.not_not, eA, scal1, List.all_cons, List.all_nil, Bool.and_self]
    exact doneG rfl
  by_cases c2 : v.token < 1
  · rw [vrtb_no (fun h => by unfold VRt at h; omega)]
    refine calls_ref04_VRight (walk0 100 trivial (fun A eA => ?_))
    simp (disch := first | omega | (simp only [avs_len, List.length_cons, List.length_append, List.length_nil, List.length_take, List.length_drop, List.length_map]; omega)) only [c_ref04_VRight, ↓advStep, ↓execK, ↓opK, ↓binK, ↓intK, ↓strK, evs, ev, getT, setT, put, List.replicate, List.cons_append, List.nil_append, List.length_cons, List.length_nil, ↓mapK, ↓frzK_sl, ↓frzK_agg, ↓frzK_tup, ↓frzK_ifc, ↓frzK_func, ↓frzK_int, ↓frzK_bool, ↓frzK_str, ↓frzK_nilp, ↓frzK_nils, ↓frzK_nilm, ↓frzK_nilf, ↓frzK_nili, ↓frzK_fz, ↓frzK_any, ↓frzK_ptr, ↓frzK_ro, ↓getB, setB, kill, killM, dropK, keysOf, capOf_nn, zeroC, bump, frzT, thaw, gets, putAll, ↓getsK, ↓getR, ↓retK, retv, find, cells, ↓nilpK, ↓nilsK, ↓nilfK, ↓niliK, ↓bndK, ↓cutK, ↓fillK, ↓exitK, List.append_nil, List.drop, List.take, Nat.reduceAdd, Nat.reduceSub, Nat.reduceMul, Nat.reduceLT, Nat.reduceLeDiff, Nat.zero_add, Nat.add_zero, Nat.mul_one, Int.reduceToNat, Nat.reduceEqDiff, Nat.succ_ne_self, Nat.le_refl, Nat.one_ne_zero, Nat.reduceBEq, Nat.lt_irrefl, List.length_append, Int.toNat_zero, Int.toNat_one, List.take_zero, List.drop_zero, Nat.zero_mul, sel, rest, keyIn, ↓reduceIte, ↓if_pos, ↓if_neg, reduceCtorEq, Bool.not_true, Bool.not_false, Bool.false_eq_true, Bool.true_eq_false, and_self, and_true, true_and, false_and, and_false, decide_true, decide_false, decide_eq_true, decide_eq_false, decide_eq_true_eq, decide_eq_false_iff_not, Bool.not_eq_true, Bool.not_eq_false, Bool.not_eq_eq_eq_not, Decidable.not_not, eA, scal1, List.all_cons, List.all_nil, Bool.and_self]
    exact doneG rfl
  by_cases c3 : 1099511627776 < v.token
  · rw [vrtb_no (fun h => by unfold VRt at h; omega)]
    refine calls_ref04_VRight (walk0 100 trivial (fun A eA => ?_))
    simp (disch := first | omega | (simp only [avs_len, List.length_cons, List.length_append, List.length_nil, List.length_take, List.length_drop, List.length_map]; omega)) only [c_ref04_VRight, ↓advStep, ↓execK, ↓opK, ↓binK, ↓intK, ↓strK, evs, ev, getT, setT, put, List.replicate, List.cons_append, List.nil_append, List.length_cons, List.length_nil, ↓mapK, ↓frzK_sl, ↓frzK_agg, ↓frzK_tup, ↓frzK_ifc, ↓frzK_func, ↓frzK_int, ↓frzK_bool, ↓frzK_str, ↓frzK_nilp, ↓frzK_nils, ↓frzK_nilm, ↓frzK_nilf, ↓frzK_nili, ↓frzK_fz, ↓frzK_any, ↓frzK_ptr, ↓frzK_ro, ↓getB, setB, kill, killM, dropK, keysOf, capOf_nn, zeroC, bump, frzT, thaw, gets, putAll, ↓getsK, ↓getR, ↓retK, retv, find, cells, ↓nilpK, ↓nilsK, ↓nilfK, ↓niliK, ↓bndK, ↓cutK, ↓fillK, ↓exitK, List.append_nil, List.drop, List.take, Nat.reduceAdd, Nat.reduceSub, Nat.reduceMul, Nat.reduceLT, Nat.reduceLeDiff, Nat.zero_add, Nat.add_zero, Nat.mul_one, Int.reduceToNat, Nat.reduceEqDiff, Nat.succ_ne_self, Nat.le_refl, Nat.one_ne_zero, Nat.reduceBEq, Nat.lt_irrefl, List.length_append, Int.toNat_zero, Int.toNat_one, List.take_zero, List.drop_zero, Nat.zero_mul, sel, rest, keyIn, ↓reduceIte, ↓if_pos, ↓if_neg, reduceCtorEq, Bool.not_true, Bool.not_false, Bool.false_eq_true, Bool.true_eq_false, and_self, and_true, true_and, false_and, and_false, decide_true, decide_false, decide_eq_true, decide_eq_false, decide_eq_true_eq, decide_eq_false_iff_not, Bool.not_eq_true, Bool.not_eq_false, Bool.not_eq_eq_eq_not, Decidable.not_not, eA, scal1, List.all_cons, List.all_nil, Bool.and_self]
    exact doneG rfl
  by_cases c4 : v.key.size < 1
  · rw [vrtb_no (fun h => by unfold VRt at h; omega)]
    refine calls_ref04_VRight (walk0 100 trivial (fun A eA => ?_))
    simp (disch := first | omega | (simp only [avs_len, List.length_cons, List.length_append, List.length_nil, List.length_take, List.length_drop, List.length_map]; omega)) only [c_ref04_VRight, ↓advStep, ↓execK, ↓opK, ↓binK, ↓intK, ↓strK, evs, ev, getT, setT, put, List.replicate, List.cons_append, List.nil_append, List.length_cons, List.length_nil, ↓mapK, ↓frzK_sl, ↓frzK_agg, ↓frzK_tup, ↓frzK_ifc, ↓frzK_func, ↓frzK_int, ↓frzK_bool, ↓frzK_str, ↓frzK_nilp, ↓frzK_nils, ↓frzK_nilm, ↓frzK_nilf, ↓frzK_nili, ↓frzK_fz, ↓frzK_any, ↓frzK_ptr, ↓frzK_ro, ↓getB, setB, kill, killM, dropK, keysOf, capOf_nn, zeroC, bump, frzT, thaw, gets, putAll, ↓getsK, ↓getR, ↓retK, retv, find, cells, ↓nilpK, ↓nilsK, ↓nilfK, ↓niliK, ↓bndK, ↓cutK, ↓fillK, ↓exitK, List.append_nil, List.drop, List.take, Nat.reduceAdd, Nat.reduceSub, Nat.reduceMul, Nat.reduceLT, Nat.reduceLeDiff, Nat.zero_add, Nat.add_zero, Nat.mul_one, Int.reduceToNat, Nat.reduceEqDiff, Nat.succ_ne_self, Nat.le_refl, Nat.one_ne_zero, Nat.reduceBEq, Nat.lt_irrefl, List.length_append, Int.toNat_zero, Int.toNat_one, List.take_zero, List.drop_zero, Nat.zero_mul, sel, rest, keyIn, ↓reduceIte, ↓if_pos, ↓if_neg, reduceCtorEq, Bool.not_true, Bool.not_false, Bool.false_eq_true, Bool.true_eq_false, and_self, and_true, true_and, false_and, and_false, decide_true, decide_false, decide_eq_true, decide_eq_false, decide_eq_true_eq, decide_eq_false_iff_not, Bool.not_eq_true, Bool.not_eq_false, Bool.not_eq_eq_eq_not, Decidable.not_not, eA, scal1, List.all_cons, List.all_nil, Bool.and_self]
    exact doneG rfl
  by_cases c5 : 20 < v.key.size
  · rw [vrtb_no (fun h => by unfold VRt at h; omega)]
    refine calls_ref04_VRight (walk0 100 trivial (fun A eA => ?_))
    simp (disch := first | omega | (simp only [avs_len, List.length_cons, List.length_append, List.length_nil, List.length_take, List.length_drop, List.length_map]; omega)) only [c_ref04_VRight, ↓advStep, ↓execK, ↓opK, ↓binK, ↓intK, ↓strK, evs, ev, getT, setT, put, List.replicate, List.cons_append, List.nil_append, List.length_cons, List.length_nil, ↓mapK, ↓frzK_sl, ↓frzK_agg, ↓frzK_tup, ↓frzK_ifc, ↓frzK_func, ↓frzK_int, ↓frzK_bool, ↓frzK_str, ↓frzK_nilp, ↓frzK_nils, ↓frzK_nilm, ↓frzK_nilf, ↓frzK_nili, ↓frzK_fz, ↓frzK_any, ↓frzK_ptr, ↓frzK_ro, ↓getB, setB, kill, killM, dropK, keysOf, capOf_nn, zeroC, bump, frzT, thaw, gets, putAll, ↓getsK, ↓getR, ↓retK, retv, find, cells, ↓nilpK, ↓nilsK, ↓nilfK, ↓niliK, ↓bndK, ↓cutK, ↓fillK, ↓exitK, List.append_nil, List.drop, List.take, Nat.reduceAdd, Nat.reduceSub, Nat.reduceMul, Nat.reduceLT, Nat.reduceLeDiff, Nat.zero_add, Nat.add_zero, Nat.mul_one, Int.reduceToNat, Nat.reduceEqDiff, Nat.succ_ne_self, Nat.le_refl, Nat.one_ne_zero, Nat.reduceBEq, Nat.lt_irrefl, List.length_append, Int.toNat_zero, Int.toNat_one, List.take_zero, List.drop_zero, Nat.zero_mul, sel, rest, keyIn, ↓reduceIte, ↓if_pos, ↓if_neg, reduceCtorEq, Bool.not_true, Bool.not_false, Bool.false_eq_true, Bool.true_eq_false, and_self, and_true, true_and, false_and, and_false, decide_true, decide_false, decide_eq_true, decide_eq_false, decide_eq_true_eq, decide_eq_false_iff_not, Bool.not_eq_true, Bool.not_eq_false, Bool.not_eq_eq_eq_not, Decidable.not_not, eA, scal1, List.all_cons, List.all_nil, Bool.and_self]
    exact doneG rfl
  by_cases c6 : 100 < v.value.size
  · rw [vrtb_no (fun h => by unfold VRt at h; omega)]
    refine calls_ref04_VRight (walk0 100 trivial (fun A eA => ?_))
    simp (disch := first | omega | (simp only [avs_len, List.length_cons, List.length_append, List.length_nil, List.length_take, List.length_drop, List.length_map]; omega)) only [c_ref04_VRight, ↓advStep, ↓execK, ↓opK, ↓binK, ↓intK, ↓strK, evs, ev, getT, setT, put, List.replicate, List.cons_append, List.nil_append, List.length_cons, List.length_nil, ↓mapK, ↓frzK_sl, ↓frzK_agg, ↓frzK_tup, ↓frzK_ifc, ↓frzK_func, ↓frzK_int, ↓frzK_bool, ↓frzK_str, ↓frzK_nilp, ↓frzK_nils, ↓frzK_nilm, ↓frzK_nilf, ↓frzK_nili, ↓frzK_fz, ↓frzK_any, ↓frzK_ptr, ↓frzK_ro, ↓getB, setB, kill, killM, dropK, keysOf, capOf_nn, zeroC, bump, frzT, thaw, gets, putAll, ↓getsK, ↓getR, ↓retK, retv, find, cells, ↓nilpK, ↓nilsK, ↓nilfK, ↓niliK, ↓bndK, ↓cutK, ↓fillK, ↓exitK, List.append_nil, List.drop, List.take, Nat.reduceAdd, Nat.reduceSub, Nat.reduceMul, Nat.reduceLT, Nat.reduceLeDiff, Nat.zero_add, Nat.add_zero, Nat.mul_one, Int.reduceToNat, Nat.reduceEqDiff, Nat.succ_ne_self, Nat.le_refl, Nat.one_ne_zero, Nat.reduceBEq, Nat.lt_irrefl, List.length_append, Int.toNat_zero, Int.toNat_one, List.take_zero, List.drop_zero, Nat.zero_mul, sel, rest, keyIn, ↓reduceIte, ↓if_pos, ↓if_neg, reduceCtorEq, Bool.not_true, Bool.not_false, Bool.false_eq_true, Bool.true_eq_false, and_self, and_true, true_and, false_and, and_false, decide_true, decide_false, decide_eq_true, decide_eq_false, decide_eq_true_eq, decide_eq_false_iff_not, Bool.not_eq_true, Bool.not_eq_false, Bool.not_eq_eq_eq_not, Decidable.not_not, eA, scal1, List.all_cons, List.all_nil, Bool.and_self]
    exact doneG rfl
  have key : (v.gone = true → v.value.size = 0) → PCalls Try.prog F_ref04_VRight [vv v] (.bool (vrtb v)) := by
    intro cg
    have cr := refERight_calls v.event (by omega)
    by_cases hr : XRt v.event
    · rw [xrtb_true.2 hr] at cr
      have hn : 0 ≤ v.event.n := by obtain ⟨x, hx, _⟩ := hr; rw [hx, x.t_n]; omega
      have e : ∀ q : Bool, (q = true ↔ (0 < v.event.n ∨ 0 < v.event.ps.length)) → vrtb v = q := by
        intro q hq
        rw [Bool.eq_iff_iff, vrtb_true, hq]
        have ht := v.event.eta
        constructor
        · intro h
          have h1 := h.2.2.2.2.2.2.2.2.2
          apply Classical.byContradiction
          intro h2
          apply h1
          rw [← ht, show v.event.n = 0 by omega, List.eq_nil_of_length_eq_zero (show v.event.ps.length = 0 by omega)]
        · intro h
          refine ⟨c0, c1, c2, c3, c4, c5, c6, cg, hr, fun h1 => ?_⟩
          rw [h1] at h
          simp [ET.n, ET.ps] at h
      have fin : ∀ q : Bool, (q = true ↔ (0 < v.event.n ∨ 0 < v.event.ps.length)) → PCalls Try.prog F_ref04_VRight [vv v] (.bool q) := by
        intro q hq
        by_cases n0 : 0 < v.event.n
        · obtain rfl : q = true := hq.2 (.inl n0)
          refine calls_ref04_VRight (walk0 100 trivial (fun A eA => ?_))
          cases hg : v.gone with
          | true =>
            have hv := cg hg
            simp (disch := first | omega | (simp only [avs_len, List.length_cons, List.length_append, List.length_nil, List.length_take, List.length_drop, List.length_map]; omega)) only [c_ref04_VRight, ↓advStep, ↓execK, ↓opK, ↓binK, ↓intK, ↓strK, evs, ev, getT, setT, put, List.replicate, List.cons_append, List.nil_append, List.length_cons, List.length_nil, ↓mapK, ↓frzK_sl, ↓frzK_agg, ↓frzK_tup, ↓frzK_ifc, ↓frzK_func, ↓frzK_int, ↓frzK_bool, ↓frzK_str, ↓frzK_nilp, ↓frzK_nils, ↓frzK_nilm, ↓frzK_nilf, ↓frzK_nili, ↓frzK_fz, ↓frzK_any, ↓frzK_ptr, ↓frzK_ro, ↓getB, setB, kill, killM, dropK, keysOf, capOf_nn, zeroC, bump, frzT, thaw, gets, putAll, ↓getsK, ↓getR, ↓retK, retv, find, cells, ↓nilpK, ↓nilsK, ↓nilfK, ↓niliK, ↓bndK, ↓cutK, ↓fillK, ↓exitK, List.append_nil, List.drop, List.take, Nat.reduceAdd, Nat.reduceSub, Nat.reduceMul, Nat.reduceLT, Nat.reduceLeDiff, Nat.zero_add, Nat.add_zero, Nat.mul_one, Int.reduceToNat, Nat.reduceEqDiff, Nat.succ_ne_self, Nat.le_refl, Nat.one_ne_zero, Nat.reduceBEq, Nat.lt_irrefl, List.length_append, Int.toNat_zero, Int.toNat_one, List.take_zero, List.drop_zero, Nat.zero_mul, sel, rest, keyIn, ↓reduceIte, ↓if_pos, ↓if_neg, reduceCtorEq, Bool.not_true, Bool.not_false, Bool.false_eq_true, Bool.true_eq_false, and_self, and_true, true_and, false_and, and_false, decide_true, decide_false, decide_eq_true, decide_eq_false, decide_eq_true_eq, decide_eq_false_iff_not, Bool.not_eq_true, Bool.not_eq_false, Bool.not_eq_eq_eq_not, Decidable.not_not, eA, scal1, List.all_cons, List.all_nil, Bool.and_self, hg]
            repeat ((first | refine call0 100 trivial trivial (by first | exact cr) (by first | exact .inl rfl | exact .inr rfl) (fun A eA => ?_) | refine call1 100 trivial trivial (by first | exact cr) (fun A eA => ?_)); simp (disch := first | omega | (simp only [avs_len, List.length_cons, List.length_append, List.length_nil, List.length_take, List.length_drop, List.length_map]; omega)) only [c_ref04_VRight, ↓advStep, ↓execK, ↓opK, ↓binK, ↓intK, ↓strK, evs, ev, getT, setT, put, List.replicate, List.cons_append, List.nil_append, List.length_cons, List.length_nil, ↓mapK, ↓frzK_sl, ↓frzK_agg, ↓frzK_tup, ↓frzK_ifc, ↓frzK_func, ↓frzK_int, ↓frzK_bool, ↓frzK_str, ↓frzK_nilp, ↓frzK_nils, ↓frzK_nilm, ↓frzK_nilf, ↓frzK_nili, ↓frzK_fz, ↓frzK_any, ↓frzK_ptr, ↓frzK_ro, ↓getB, setB, kill, killM, dropK, keysOf, capOf_nn, zeroC, bump, frzT, thaw, gets, putAll, ↓getsK, ↓getR, ↓retK, retv, find, cells, ↓nilpK, ↓nilsK, ↓nilfK, ↓niliK, ↓bndK, ↓cutK, ↓fillK, ↓exitK, List.append_nil, List.drop, List.take, Nat.reduceAdd, Nat.reduceSub, Nat.reduceMul, Nat.reduceLT, Nat.reduceLeDiff, Nat.zero_add, Nat.add_zero, Nat.mul_one, Int.reduceToNat, Nat.reduceEqDiff, Nat.succ_ne_self, Nat.le_refl, Nat.one_ne_zero, Nat.reduceBEq, Nat.lt_irrefl, List.length_append, Int.toNat_zero, Int.toNat_one, List.take_zero, List.drop_zero, Nat.zero_mul, sel, rest, keyIn, ↓reduceIte, ↓if_pos, ↓if_neg, reduceCtorEq, Bool.not_true, Bool.not_false, Bool.false_eq_true, Bool.true_eq_false, and_self, and_true, true_and, false_and, and_false, decide_true, decide_false, decide_eq_true, decide_eq_false, decide_eq_true_eq, decide_eq_false_iff_not, Bool.not_eq_true, Bool.not_eq_false, Bool.not_eq_eq_eq_not, Decidable.not_not, eA, scal1, List.all_cons, List.all_nil, Bool.and_self, xtavs_len])
            exact doneG rfl
          | false =>
            simp (disch := first | omega | (simp only [avs_len, List.length_cons, List.length_append, List.length_nil, List.length_take, List.length_drop, List.length_map]; omega)) only [c_ref04_VRight, ↓advStep, ↓execK, ↓opK, ↓binK, ↓intK, ↓strK, evs, ev, getT, setT, put, List.replicate, List.cons_append, List.nil_append, List.length_cons, List.length_nil, ↓mapK, ↓frzK_sl, ↓frzK_agg, ↓frzK_tup, ↓frzK_ifc, ↓frzK_func, ↓frzK_int, ↓frzK_bool, ↓frzK_str, ↓frzK_nilp, ↓frzK_nils, ↓frzK_nilm, ↓frzK_nilf, ↓frzK_nili, ↓frzK_fz, ↓frzK_any, ↓frzK_ptr, ↓frzK_ro, ↓getB, setB, kill, killM, dropK, keysOf, capOf_nn, zeroC, bump, frzT, thaw, gets, putAll, ↓getsK, ↓getR, ↓retK, retv, find, cells, ↓nilpK, ↓nilsK, ↓nilfK, ↓niliK, ↓bndK, ↓cutK, ↓fillK, ↓exitK, List.append_nil, List.drop, List.take, Nat.reduceAdd, Nat.reduceSub, Nat.reduceMul, Nat.reduceLT, Nat.reduceLeDiff, Nat.zero_add, Nat.add_zero, Nat.mul_one, Int.reduceToNat, Nat.reduceEqDiff, Nat.succ_ne_self, Nat.le_refl, Nat.one_ne_zero, Nat.reduceBEq, Nat.lt_irrefl, List.length_append, Int.toNat_zero, Int.toNat_one, List.take_zero, List.drop_zero, Nat.zero_mul, sel, rest, keyIn, ↓reduceIte, ↓if_pos, ↓if_neg, reduceCtorEq, Bool.not_true, Bool.not_false, Bool.false_eq_true, Bool.true_eq_false, and_self, and_true, true_and, false_and, and_false, decide_true, decide_false, decide_eq_true, decide_eq_false, decide_eq_true_eq, decide_eq_false_iff_not, Bool.not_eq_true, Bool.not_eq_false, Bool.not_eq_eq_eq_not, Decidable.not_not, eA, scal1, List.all_cons, List.all_nil, Bool.and_self, hg]
            repeat ((first | refine call0 100 trivial trivial (by first | exact cr) (by first | exact .inl rfl | exact .inr rfl) (fun A eA => ?_) | refine call1 100 trivial trivial (by first | exact cr) (fun A eA => ?_)); simp (disch := first | omega | (simp only [avs_len, List.length_cons, List.length_append, List.length_nil, List.length_take, List.length_drop, List.length_map]; omega)) only [c_ref04_VRight, ↓advStep, ↓execK, ↓opK, ↓binK, ↓intK, ↓strK, evs, ev, getT, setT, put, List.replicate, List.cons_append, List.nil_append, List.length_cons, List.length_nil, ↓mapK, ↓frzK_sl, ↓frzK_agg, ↓frzK_tup, ↓frzK_ifc, ↓frzK_func, ↓frzK_int, ↓frzK_bool, ↓frzK_str, ↓frzK_nilp, ↓frzK_nils, ↓frzK_nilm, ↓frzK_nilf, ↓frzK_nili, ↓frzK_fz, ↓frzK_any, ↓frzK_ptr, ↓frzK_ro, ↓getB, setB, kill, killM, dropK, keysOf, capOf_nn, zeroC, bump, frzT, thaw, gets, putAll, ↓getsK, ↓getR, ↓retK, retv, find, cells, ↓nilpK, ↓nilsK, ↓nilfK, ↓niliK, ↓bndK, ↓cutK, ↓fillK, ↓exitK, List.append_nil, List.drop, List.take, Nat.reduceAdd, Nat.reduceSub, Nat.reduceMul, Nat.reduceLT, Nat.reduceLeDiff, Nat.zero_add, Nat.add_zero, Nat.mul_one, Int.reduceToNat, Nat.reduceEqDiff, Nat.succ_ne_self, Nat.le_refl, Nat.one_ne_zero, Nat.reduceBEq, Nat.lt_irrefl, List.length_append, Int.toNat_zero, Int.toNat_one, List.take_zero, List.drop_zero, Nat.zero_mul, sel, rest, keyIn, ↓reduceIte, ↓if_pos, ↓if_neg, reduceCtorEq, Bool.not_true, Bool.not_false, Bool.false_eq_true, Bool.true_eq_false, and_self, and_true, true_and, false_and, and_false, decide_true, decide_false, decide_eq_true, decide_eq_false, decide_eq_true_eq, decide_eq_false_iff_not, Bool.not_eq_true, Bool.not_eq_false, Bool.not_eq_eq_eq_not, Decidable.not_not, eA, scal1, List.all_cons, List.all_nil, Bool.and_self, xtavs_len])
            exact doneG rfl
        · have e2 : q = decide (0 < v.event.ps.length) := by rw [Bool.eq_iff_iff, hq, decide_eq_true_eq]; omega
          subst e2
          by_cases l0 : 0 < v.event.ps.length
          · refine calls_ref04_VRight (walk0 100 trivial (fun A eA => ?_))
            cases hg : v.gone with
            | true =>
              have hv := cg hg
              simp (disch := first | omega | (simp only [avs_len, List.length_cons, List.length_append, List.length_nil, List.length_take, List.length_drop, List.length_map]; omega)) only [c_ref04_VRight, ↓advStep, ↓execK, ↓opK, ↓binK, ↓intK, ↓strK, evs, ev, getT, setT, put, List.replicate, List.cons_append, List.nil_append, List.length_cons, List.length_nil, ↓mapK, ↓frzK_sl, ↓frzK_agg, ↓frzK_tup, ↓frzK_ifc, ↓frzK_func, ↓frzK_int, ↓frzK_bool, ↓frzK_str, ↓frzK_nilp, ↓frzK_nils, ↓frzK_nilm, ↓frzK_nilf, ↓frzK_nili, ↓frzK_fz, ↓frzK_any, ↓frzK_ptr, ↓frzK_ro, ↓getB, setB, kill, killM, dropK, keysOf, capOf_nn, zeroC, bump, frzT, thaw, gets, putAll, ↓getsK, ↓getR, ↓retK, retv, find, cells, ↓nilpK, ↓nilsK, ↓nilfK, ↓niliK, ↓bndK, ↓cutK, ↓fillK, ↓exitK, List.append_nil, List.drop, List.take, Nat.reduceAdd, Nat.reduceSub, Nat.reduceMul, Nat.reduceLT, Nat.reduceLeDiff, Nat.zero_add, Nat.add_zero, Nat.mul_one, Int.reduceToNat, Nat.reduceEqDiff, Nat.succ_ne_self, Nat.le_refl, Nat.one_ne_zero, Nat.reduceBEq, Nat.lt_irrefl, List.length_append, Int.toNat_zero, Int.toNat_one, List.take_zero, List.drop_zero, Nat.zero_mul, sel, rest, keyIn, ↓reduceIte, ↓if_pos, ↓if_neg, reduceCtorEq, Bool.not_true, Bool.not_false, Bool.false_eq_true, Bool.true_eq_false, and_self, and_true, true_and, false_and, and_false, decide_true, decide_false, decide_eq_true, decide_eq_false, decide_eq_true_eq, decide_eq_false_iff_not, Bool.not_eq_true, Bool.not_eq_false, Bool.not_eq_eq_eq_not, Decidable.not_not, eA, scal1, List.all_cons, List.all_nil, Bool.and_self, hg]
              repeat ((first | refine call0 100 trivial trivial (by first | exact cr) (by first | exact .inl rfl | exact .inr rfl) (fun A eA => ?_) | refine call1 100 trivial trivial (by first | exact cr) (fun A eA => ?_)); simp (disch := first | omega | (simp only [avs_len, List.length_cons, List.length_append, List.length_nil, List.length_take, List.length_drop, List.length_map]; omega)) only [c_ref04_VRight, ↓advStep, ↓execK, ↓opK, ↓binK, ↓intK, ↓strK, evs, ev, getT, setT, put, List.replicate, List.cons_append, List.nil_append, List.length_cons, List.length_nil, ↓mapK, ↓frzK_sl, ↓frzK_agg, ↓frzK_tup, ↓frzK_ifc, ↓frzK_func, ↓frzK_int, ↓frzK_bool, ↓frzK_str, ↓frzK_nilp, ↓frzK_nils, ↓frzK_nilm, ↓frzK_nilf, ↓frzK_nili, ↓frzK_fz, ↓frzK_any, ↓frzK_ptr, ↓frzK_ro, ↓getB, setB, kill, killM, dropK, keysOf, capOf_nn, zeroC, bump, frzT, thaw, gets, putAll, ↓getsK, ↓getR, ↓retK, retv, find, cells, ↓nilpK, ↓nilsK, ↓nilfK, ↓niliK, ↓bndK, ↓cutK, ↓fillK, ↓exitK, List.append_nil, List.drop, List.take, Nat.reduceAdd, Nat.reduceSub, Nat.reduceMul, Nat.reduceLT, Nat.reduceLeDiff, Nat.zero_add, Nat.add_zero, Nat.mul_one, Int.reduceToNat, Nat.reduceEqDiff, Nat.succ_ne_self, Nat.le_refl, Nat.one_ne_zero, Nat.reduceBEq, Nat.lt_irrefl, List.length_append, Int.toNat_zero, Int.toNat_one, List.take_zero, List.drop_zero, Nat.zero_mul, sel, rest, keyIn, ↓reduceIte, ↓if_pos, ↓if_neg, reduceCtorEq, Bool.not_true, Bool.not_false, Bool.false_eq_true, Bool.true_eq_false, and_self, and_true, true_and, false_and, and_false, decide_true, decide_false, decide_eq_true, decide_eq_false, decide_eq_true_eq, decide_eq_false_iff_not, Bool.not_eq_true, Bool.not_eq_false, Bool.not_eq_eq_eq_not, Decidable.not_not, eA, scal1, List.all_cons, List.all_nil, Bool.and_self, xtavs_len])
              exact doneG rfl
            | false =>
              simp (disch := first | omega | (simp only [avs_len, List.length_cons, List.length_append, List.length_nil, List.length_take, List.length_drop, List.length_map]; omega)) only [c_ref04_VRight, ↓advStep, ↓execK, ↓opK, ↓binK, ↓intK, ↓strK, evs, ev, getT, setT, put, List.replicate, List.cons_append, List.nil_append, List.length_cons, List.length_nil, ↓mapK, ↓frzK_sl, ↓frzK_agg, ↓frzK_tup, ↓frzK_ifc, ↓frzK_func, ↓frzK_int, ↓frzK_bool, ↓frzK_str, ↓frzK_nilp, ↓frzK_nils, ↓frzK_nilm, ↓frzK_nilf, ↓frzK_nili, ↓frzK_fz, ↓frzK_any, ↓frzK_ptr, ↓frzK_ro, ↓getB, setB, kill, killM, dropK, keysOf, capOf_nn, zeroC, bump, frzT, thaw, gets, putAll, ↓getsK, ↓getR, ↓retK, retv, find, cells, ↓nilpK, ↓nilsK, ↓nilfK, ↓niliK, ↓bndK, ↓cutK, ↓fillK, ↓exitK, List.append_nil, List.drop, List.take, Nat.reduceAdd, Nat.reduceSub, Nat.reduceMul, Nat.reduceLT, Nat.reduceLeDiff, Nat.zero_add, Nat.add_zero, Nat.mul_one, Int.reduceToNat, Nat.reduceEqDiff, Nat.succ_ne_self, Nat.le_refl, Nat.one_ne_zero, Nat.reduceBEq, Nat.lt_irrefl, List.length_append, Int.toNat_zero, Int.toNat_one, List.take_zero, List.drop_zero, Nat.zero_mul, sel, rest, keyIn, ↓reduceIte, ↓if_pos, ↓if_neg, reduceCtorEq, Bool.not_true, Bool.not_false, Bool.false_eq_true, Bool.true_eq_false, and_self, and_true, true_and, false_and, and_false, decide_true, decide_false, decide_eq_true, decide_eq_false, decide_eq_true_eq, decide_eq_false_iff_not, Bool.not_eq_true, Bool.not_eq_false, Bool.not_eq_eq_eq_not, Decidable.not_not, eA, scal1, List.all_cons, List.all_nil, Bool.and_self, hg]
              repeat ((first | refine call0 100 trivial trivial (by first | exact cr) (by first | exact .inl rfl | exact .inr rfl) (fun A eA => ?_) | refine call1 100 trivial trivial (by first | exact cr) (fun A eA => ?_)); simp (disch := first | omega | (simp only [avs_len, List.length_cons, List.length_append, List.length_nil, List.length_take, List.length_drop, List.length_map]; omega)) only [c_ref04_VRight, ↓advStep, ↓execK, ↓opK, ↓binK, ↓intK, ↓strK, evs, ev, getT, setT, put, List.replicate, List.cons_append, List.nil_append, List.length_cons, List.length_nil, ↓mapK, ↓frzK_sl, ↓frzK_agg, ↓frzK_tup, ↓frzK_ifc, ↓frzK_func, ↓frzK_int, ↓frzK_bool, ↓frzK_str, ↓frzK_nilp, ↓frzK_nils, ↓frzK_nilm, ↓frzK_nilf, ↓frzK_nili, ↓frzK_fz, ↓frzK_any, ↓frzK_ptr, ↓frzK_ro, ↓getB, setB, kill, killM, dropK, keysOf, capOf_nn, zeroC, bump, frzT, thaw, gets, putAll, ↓getsK, ↓getR, ↓retK, retv, find, cells, ↓nilpK, ↓nilsK, ↓nilfK, ↓niliK, ↓bndK, ↓cutK, ↓fillK, ↓exitK, List.append_nil, List.drop, List.take, Nat.reduceAdd, Nat.reduceSub, Nat.reduceMul, Nat.reduceLT, Nat.reduceLeDiff, Nat.zero_add, Nat.add_zero, Nat.mul_one, Int.reduceToNat, Nat.reduceEqDiff, Nat.succ_ne_self, Nat.le_refl, Nat.one_ne_zero, Nat.reduceBEq, Nat.lt_irrefl, List.length_append, Int.toNat_zero, Int.toNat_one, List.take_zero, List.drop_zero, Nat.zero_mul, sel, rest, keyIn, ↓reduceIte, ↓if_pos, ↓if_neg, reduceCtorEq, Bool.not_true, Bool.not_false, Bool.false_eq_true, Bool.true_eq_false, and_self, and_true, true_and, false_and, and_false, decide_true, decide_false, decide_eq_true, decide_eq_false, decide_eq_true_eq, decide_eq_false_iff_not, Bool.not_eq_true, Bool.not_eq_false, Bool.not_eq_eq_eq_not, Decidable.not_not, eA, scal1, List.all_cons, List.all_nil, Bool.and_self, xtavs_len])
              exact doneG rfl
          · refine calls_ref04_VRight (walk0 100 trivial (fun A eA => ?_))
            cases hg : v.gone with
            | true =>
              have hv := cg hg
              simp (disch := first | omega | (simp only [avs_len, List.length_cons, List.length_append, List.length_nil, List.length_take, List.length_drop, List.length_map]; omega)) only [c_ref04_VRight, ↓advStep, ↓execK, ↓opK, ↓binK, ↓intK, ↓strK, evs, ev, getT, setT, put, List.replicate, List.cons_append, List.nil_append, List.length_cons, List.length_nil, ↓mapK, ↓frzK_sl, ↓frzK_agg, ↓frzK_tup, ↓frzK_ifc, ↓frzK_func, ↓frzK_int, ↓frzK_bool, ↓frzK_str, ↓frzK_nilp, ↓frzK_nils, ↓frzK_nilm, ↓frzK_nilf, ↓frzK_nili, ↓frzK_fz, ↓frzK_any, ↓frzK_ptr, ↓frzK_ro, ↓getB, setB, kill, killM, dropK, keysOf, capOf_nn, zeroC, bump, frzT, thaw, gets, putAll, ↓getsK, ↓getR, ↓retK, retv, find, cells, ↓nilpK, ↓nilsK, ↓nilfK, ↓niliK, ↓bndK, ↓cutK, ↓fillK, ↓exitK, List.append_nil, List.drop, List.take, Nat.reduceAdd, Nat.reduceSub, Nat.reduceMul, Nat.reduceLT, Nat.reduceLeDiff, Nat.zero_add, Nat.add_zero, Nat.mul_one, Int.reduceToNat, Nat.reduceEqDiff, Nat.succ_ne_self, Nat.le_refl, Nat.one_ne_zero, Nat.reduceBEq, Nat.lt_irrefl, List.length_append, Int.toNat_zero, Int.toNat_one, List.take_zero, List.drop_zero, Nat.zero_mul, sel, rest, keyIn, ↓reduceIte, ↓if_pos, ↓if_neg, reduceCtorEq, Bool.not_true, Bool.not_false, Bool.false_eq_true, Bool.true_eq_false, and_self, and_true, true_and, false_and, and_false, decide_true, decide_false, decide_eq_true, decide_eq_false, decide_eq_true_eq, decide_eq_false_iff_not, Bool.not_eq_true, Bool.not_eq_false, Bool.not_eq_eq_eq_not, Decidable.not_not, eA, scal1, List.all_cons, List.all_nil, Bool.and_self, hg]
              repeat ((first | refine call0 100 trivial trivial (by first | exact cr) (by first | exact .inl rfl | exact .inr rfl) (fun A eA => ?_) | refine call1 100 trivial trivial (by first | exact cr) (fun A eA => ?_)); simp (disch := first | omega | (simp only [avs_len, List.length_cons, List.length_append, List.length_nil, List.length_take, List.length_drop, List.length_map]; omega)) only [c_ref04_VRight, ↓advStep, ↓execK, ↓opK, ↓binK, ↓intK, ↓strK, evs, ev, getT, setT, put, List.replicate, List.cons_append, List.nil_append, List.length_cons, List.length_nil, ↓mapK, ↓frzK_sl, ↓frzK_agg, ↓frzK_tup, ↓frzK_ifc, ↓frzK_func, ↓frzK_int, ↓frzK_bool, ↓frzK_str, ↓frzK_nilp, ↓frzK_nils, ↓frzK_nilm, ↓frzK_nilf, ↓frzK_nili, ↓frzK_fz, ↓frzK_any, ↓frzK_ptr, ↓frzK_ro, ↓getB, setB, kill, killM, dropK, keysOf, capOf_nn, zeroC, bump, frzT, thaw, gets, putAll, ↓getsK, ↓getR, ↓retK, retv, find, cells, ↓nilpK, ↓nilsK, ↓nilfK, ↓niliK, ↓bndK, ↓cutK, ↓fillK, ↓exitK, List.append_nil, List.drop, List.take, Nat.reduceAdd, Nat.reduceSub, Nat.reduceMul, Nat.reduceLT, Nat.reduceLeDiff, Nat.zero_add, Nat.add_zero, Nat.mul_one, Int.reduceToNat, Nat.reduceEqDiff, Nat.succ_ne_self, Nat.le_refl, Nat.one_ne_zero, Nat.reduceBEq, Nat.lt_irrefl, List.length_append, Int.toNat_zero, Int.toNat_one, List.take_zero, List.drop_zero, Nat.zero_mul, sel, rest, keyIn, ↓reduceIte, ↓if_pos, ↓if_neg, reduceCtorEq, Bool.not_true, Bool.not_false, Bool.false_eq_true, Bool.true_eq_false, and_self, and_true, true_and, false_and, and_false, decide_true, decide_false, decide_eq_true, decide_eq_false, decide_eq_true_eq, decide_eq_false_iff_not, Bool.not_eq_true, Bool.not_eq_false, Bool.not_eq_eq_eq_not, Decidable.not_not, eA, scal1, List.all_cons, List.all_nil, Bool.and_self, xtavs_len])
              exact doneG rfl
            | false =>
              simp (disch := first | omega | (simp only [avs_len, List.length_cons, List.length_append, List.length_nil, List.length_take, List.length_drop, List.length_map]; omega)) only [c_ref04_VRight, ↓advStep, ↓execK, ↓opK, ↓binK, ↓intK, ↓strK, evs, ev, getT, setT, put, List.replicate, List.cons_append, List.nil_append, List.length_cons, List.length_nil, ↓mapK, ↓frzK_sl, ↓frzK_agg, ↓frzK_tup, ↓frzK_ifc, ↓frzK_func, ↓frzK_int, ↓frzK_bool, ↓frzK_str, ↓frzK_nilp, ↓frzK_nils, ↓frzK_nilm, ↓frzK_nilf, ↓frzK_nili, ↓frzK_fz, ↓frzK_any, ↓frzK_ptr, ↓frzK_ro, ↓getB, setB, kill, killM, dropK, keysOf, capOf_nn, zeroC, bump, frzT, thaw, gets, putAll, ↓getsK, ↓getR, ↓retK, retv, find, cells, ↓nilpK, ↓nilsK, ↓nilfK, ↓niliK, ↓bndK, ↓cutK, ↓fillK, ↓exitK, List.append_nil, List.drop, List.take, Nat.reduceAdd, Nat.reduceSub, Nat.reduceMul, Nat.reduceLT, Nat.reduceLeDiff, Nat.zero_add, Nat.add_zero, Nat.mul_one, Int.reduceToNat, Nat.reduceEqDiff, Nat.succ_ne_self, Nat.le_refl, Nat.one_ne_zero, Nat.reduceBEq, Nat.lt_irrefl, List.length_append, Int.toNat_zero, Int.toNat_one, List.take_zero, List.drop_zero, Nat.zero_mul, sel, rest, keyIn, ↓reduceIte, ↓if_pos, ↓if_neg, reduceCtorEq, Bool.not_true, Bool.not_false, Bool.false_eq_true, Bool.true_eq_false, and_self, and_true, true_and, false_and, and_false, decide_true, decide_false, decide_eq_true, decide_eq_false, decide_eq_true_eq, decide_eq_false_iff_not, Bool.not_eq_true, Bool.not_eq_false, Bool.not_eq_eq_eq_not, Decidable.not_not, eA, scal1, List.all_cons, List.all_nil, Bool.and_self, hg]
              repeat ((first | refine call0 100 trivial trivial (by first | exact cr) (by first | exact .inl rfl | exact .inr rfl) (fun A eA => ?_) | refine call1 100 trivial trivial (by first | exact cr) (fun A eA => ?_)); simp (disch := first | omega | (simp only [avs_len, List.length_cons, List.length_append, List.length_nil, List.length_take, List.length_drop, List.length_map]; omega)) only [c_ref04_VRight, ↓advStep, ↓execK, ↓opK, ↓binK, ↓intK, ↓strK, evs, ev, getT, setT, put, List.replicate, List.cons_append, List.nil_append, List.length_cons, List.length_nil, ↓mapK, ↓frzK_sl, ↓frzK_agg, ↓frzK_tup, ↓frzK_ifc, ↓frzK_func, ↓frzK_int, ↓frzK_bool, ↓frzK_str, ↓frzK_nilp, ↓frzK_nils, ↓frzK_nilm, ↓frzK_nilf, ↓frzK_nili, ↓frzK_fz, ↓frzK_any, ↓frzK_ptr, ↓frzK_ro, ↓getB, setB, kill, killM, dropK, keysOf, capOf_nn, zeroC, bump, frzT, thaw, gets, putAll, ↓getsK, ↓getR, ↓retK, retv, find, cells, ↓nilpK, ↓nilsK, ↓nilfK, ↓niliK, ↓bndK, ↓cutK, ↓fillK, ↓exitK, List.append_nil, List.drop, List.take, Nat.reduceAdd, Nat.reduceSub, Nat.reduceMul, Nat.reduceLT, Nat.reduceLeDiff, Nat.zero_add, Nat.add_zero, Nat.mul_one, Int.reduceToNat, Nat.reduceEqDiff, Nat.succ_ne_self, Nat.le_refl, Nat.one_ne_zero, Nat.reduceBEq, Nat.lt_irrefl, List.length_append, Int.toNat_zero, Int.toNat_one, List.take_zero, List.drop_zero, Nat.zero_mul, sel, rest, keyIn, ↓reduceIte, ↓if_pos, ↓if_neg, reduceCtorEq, Bool.not_true, Bool.not_false, Bool.false_eq_true, Bool.true_eq_false, and_self, and_true, true_and, false_and, and_false, decide_true, decide_false, decide_eq_true, decide_eq_false, decide_eq_true_eq, decide_eq_false_iff_not, Bool.not_eq_true, Bool.not_eq_false, Bool.not_eq_eq_eq_not, Decidable.not_not, eA, scal1, List.all_cons, List.all_nil, Bool.and_self, xtavs_len])
              exact doneG rfl
      have := fin (decide (0 < v.event.n ∨ 0 < v.event.ps.length)) decide_eq_true_iff
      rwa [e _ decide_eq_true_iff]
    · rw [show xrtb v.event = false by rw [Bool.eq_false_iff, ne_eq, xrtb_true]; exact hr] at cr
      rw [vrtb_no (fun h => hr h.2.2.2.2.2.2.2.2.1)]
      refine calls_ref04_VRight (walk0 100 trivial (fun A eA => ?_))
      cases hg : v.gone with
      | true =>
        have hv := cg hg
        simp (disch := first | omega | (simp only [avs_len, List.length_cons, List.length_append, List.length_nil, List.length_take, List.length_drop, List.length_map]; omega)) only [c_ref04_VRight, ↓advStep, ↓execK, ↓opK, ↓binK, ↓intK, ↓strK, evs, ev, getT, setT, put, List.replicate, List.cons_append, List.nil_append, List.length_cons, List.length_nil, ↓mapK, ↓frzK_sl, ↓frzK_agg, ↓frzK_tup, ↓frzK_ifc, ↓frzK_func, ↓frzK_int, ↓frzK_bool, ↓frzK_str, ↓frzK_nilp, ↓frzK_nils, ↓frzK_nilm, ↓frzK_nilf, ↓frzK_nili, ↓frzK_fz, ↓frzK_any, ↓frzK_ptr, ↓frzK_ro, ↓getB, setB, kill, killM, dropK, keysOf, capOf_nn, zeroC, bump, frzT, thaw, gets, putAll, ↓getsK, ↓getR, ↓retK, retv, find, cells, ↓nilpK, ↓nilsK, ↓nilfK, ↓niliK, ↓bndK, ↓cutK, ↓fillK, ↓exitK, List.append_nil, List.drop, List.take, Nat.reduceAdd, Nat.reduceSub, Nat.reduceMul, Nat.reduceLT, Nat.reduceLeDiff, Nat.zero_add, Nat.add_zero, Nat.mul_one, Int.reduceToNat, Nat.reduceEqDiff, Nat.succ_ne_self, Nat.le_refl, Nat.one_ne_zero, Nat.reduceBEq, Nat.lt_irrefl, List.length_append, Int.toNat_zero, Int.toNat_one, List.take_zero, List.drop_zero, Nat.zero_mul, sel, rest, keyIn, ↓reduceIte, ↓if_pos, ↓if_neg, reduceCtorEq, Bool.not_true, Bool.not_false, Bool.false_eq_true, Bool.true_eq_false, and_self, and_true, true_and, false_and, and_false, decide_true, decide_false, decide_eq_true, decide_eq_false, decide_eq_true_eq, decide_eq_false_iff_not, Bool.not_eq_true, Bool.not_eq_false, Bool.not_eq_eq_eq_not, Decidable.not_not, eA, scal1, List.all_cons, List.all_nil, Bool.and_self, hg]
        repeat ((first | refine call0 100 trivial trivial (by first | exact cr) (by first | exact .inl rfl | exact .inr rfl) (fun A eA => ?_) | refine call1 100 trivial trivial (by first | exact cr) (fun A eA => ?_)); simp (disch := first | omega | (simp only [avs_len, List.length_cons, List.length_append, List.length_nil, List.length_take, List.length_drop, List.length_map]; omega)) only [c_ref04_VRight, ↓advStep, ↓execK, ↓opK, ↓binK, ↓intK, ↓strK, evs, ev, getT, setT, put, List.replicate, List.cons_append, List.nil_append, List.length_cons, List.length_nil, ↓mapK, ↓frzK_sl, ↓frzK_agg, ↓frzK_tup, ↓frzK_ifc, ↓frzK_func, ↓frzK_int, ↓frzK_bool, ↓frzK_str, ↓frzK_nilp, ↓frzK_nils, ↓frzK_nilm, ↓frzK_nilf, ↓frzK_nili, ↓frzK_fz, ↓frzK_any, ↓frzK_ptr, ↓frzK_ro, ↓getB, setB, kill, killM, dropK, keysOf, capOf_nn, zeroC, bump, frzT, thaw, gets, putAll, ↓getsK, ↓getR, ↓retK, retv, find, cells, ↓nilpK, ↓nilsK, ↓nilfK, ↓niliK, ↓bndK, ↓cutK, ↓fillK, ↓exitK, List.append_nil, List.drop, List.take, Nat.reduceAdd, Nat.reduceSub, Nat.reduceMul, Nat.reduceLT, Nat.reduceLeDiff, Nat.zero_add, Nat.add_zero, Nat.mul_one, Int.reduceToNat, Nat.reduceEqDiff, Nat.succ_ne_self, Nat.le_refl, Nat.one_ne_zero, Nat.reduceBEq, Nat.lt_irrefl, List.length_append, Int.toNat_zero, Int.toNat_one, List.take_zero, List.drop_zero, Nat.zero_mul, sel, rest, keyIn, ↓reduceIte, ↓if_pos, ↓if_neg, reduceCtorEq, Bool.not_true, Bool.not_false, Bool.false_eq_true, Bool.true_eq_false, and_self, and_true, true_and, false_and, and_false, decide_true, decide_false, decide_eq_true, decide_eq_false, decide_eq_true_eq, decide_eq_false_iff_not, Bool.not_eq_true, Bool.not_eq_false, Bool.not_eq_eq_eq_not, Decidable.not_not, eA, scal1, List.all_cons, List.all_nil, Bool.and_self])
        exact doneG rfl
      | false =>
        simp (disch := first | omega | (simp only [avs_len, List.length_cons, List.length_append, List.length_nil, List.length_take, List.length_drop, List.length_map]; omega)) only [c_ref04_VRight, ↓advStep, ↓execK, ↓opK, ↓binK, ↓intK, ↓strK, evs, ev, getT, setT, put, List.replicate, List.cons_append, List.nil_append, List.length_cons, List.length_nil, ↓mapK, ↓frzK_sl, ↓frzK_agg, ↓frzK_tup, ↓frzK_ifc, ↓frzK_func, ↓frzK_int, ↓frzK_bool, ↓frzK_str, ↓frzK_nilp, ↓frzK_nils, ↓frzK_nilm, ↓frzK_nilf, ↓frzK_nili, ↓frzK_fz, ↓frzK_any, ↓frzK_ptr, ↓frzK_ro, ↓getB, setB, kill, killM, dropK, keysOf, capOf_nn, zeroC, bump, frzT, thaw, gets, putAll, ↓getsK, ↓getR, ↓retK, retv, find, cells, ↓nilpK, ↓nilsK, ↓nilfK, ↓niliK, ↓bndK, ↓cutK, ↓fillK, ↓exitK, List.append_nil, List.drop, List.take, Nat.reduceAdd, Nat.reduceSub, Nat.reduceMul, Nat.reduceLT, Nat.reduceLeDiff, Nat.zero_add, Nat.add_zero, Nat.mul_one, Int.reduceToNat, Nat.reduceEqDiff, Nat.succ_ne_self, Nat.le_refl, Nat.one_ne_zero, Nat.reduceBEq, Nat.lt_irrefl, List.length_append, Int.toNat_zero, Int.toNat_one, List.take_zero, List.drop_zero, Nat.zero_mul, sel, rest, keyIn, ↓reduceIte, ↓if_pos, ↓if_neg, reduceCtorEq, Bool.not_true, Bool.not_false, Bool.false_eq_true, Bool.true_eq_false, and_self, and_true, true_and, false_and, and_false, decide_true, decide_false, decide_eq_true, decide_eq_false, decide_eq_true_eq, decide_eq_false_iff_not, Bool.not_eq_true, Bool.not_eq_false, Bool.not_eq_eq_eq_not, Decidable.not_not, eA, scal1, List.all_cons, List.all_nil, Bool.and_self, hg]
        repeat ((first | refine call0 100 trivial trivial (by first | exact cr) (by first | exact .inl rfl | exact .inr rfl) (fun A eA => ?_) | refine call1 100 trivial trivial (by first | exact cr) (fun A eA => ?_)); simp (disch := first | omega | (simp only [avs_len, List.length_cons, List.length_append, List.length_nil, List.length_take, List.length_drop, List.length_map]; omega)) only [c_ref04_VRight, ↓advStep, ↓execK, ↓opK, ↓binK, ↓intK, ↓strK, evs, ev, getT, setT, put, List.replicate, List.cons_append, List.nil_append, List.length_cons, List.length_nil, ↓mapK, ↓frzK_sl, ↓frzK_agg, ↓frzK_tup, ↓frzK_ifc, ↓frzK_func, ↓frzK_int, ↓frzK_bool, ↓frzK_str, ↓frzK_nilp, ↓frzK_nils, ↓frzK_nilm, ↓frzK_nilf, ↓frzK_nili, ↓frzK_fz, ↓frzK_any, ↓frzK_ptr, ↓frzK_ro, ↓getB, setB, kill, killM, dropK, keysOf, capOf_nn, zeroC, bump, frzT, thaw, gets, putAll, ↓getsK, ↓getR, ↓retK, retv, find, cells, ↓nilpK, ↓nilsK, ↓nilfK, ↓niliK, ↓bndK, ↓cutK, ↓fillK, ↓exitK, List.append_nil, List.drop, List.take, Nat.reduceAdd, Nat.reduceSub, Nat.reduceMul, Nat.reduceLT, Nat.reduceLeDiff, Nat.zero_add, Nat.add_zero, Nat.mul_one, Int.reduceToNat, Nat.reduceEqDiff, Nat.succ_ne_self, Nat.le_refl, Nat.one_ne_zero, Nat.reduceBEq, Nat.lt_irrefl, List.length_append, Int.toNat_zero, Int.toNat_one, List.take_zero, List.drop_zero, Nat.zero_mul, sel, rest, keyIn, ↓reduceIte, ↓if_pos, ↓if_neg, reduceCtorEq, Bool.not_true, Bool.not_false, Bool.false_eq_true, Bool.true_eq_false, and_self, and_true, true_and, false_and, and_false, decide_true, decide_false, decide_eq_true, decide_eq_false, decide_eq_true_eq, decide_eq_false_iff_not, Bool.not_eq_true, Bool.not_eq_false, Bool.not_eq_eq_eq_not, Decidable.not_not, eA, scal1, List.all_cons, List.all_nil, Bool.and_self])
        exact doneG rfl
  by_cases c8 : v.gone = true → v.value.size = 0
  · exact key c8
  · rw [vrtb_no (fun h => c8 h.2.2.2.2.2.2.2.1)]
    have hg : v.gone = true := Classical.byContradiction (fun h => c8 (fun h2 => absurd h2 h))
    have hv : 0 < v.value.size := by
      apply Classical.byContradiction
      intro h; exact c8 (fun _ => by omega)
    refine calls_ref04_VRight (walk0 100 trivial (fun A eA => ?_))
    simp (disch := first | omega | (simp only [avs_len, List.length_cons, List.length_append, List.length_nil, List.length_take, List.length_drop, List.length_map]; omega)) only [c_ref04_VRight, ↓advStep, ↓execK, ↓opK, ↓binK, ↓intK, ↓strK, evs, ev, getT, setT, put, List.replicate, List.cons_append, List.nil_append, List.length_cons, List.length_nil, ↓mapK, ↓frzK_sl, ↓frzK_agg, ↓frzK_tup, ↓frzK_ifc, ↓frzK_func, ↓frzK_int, ↓frzK_bool, ↓frzK_str, ↓frzK_nilp, ↓frzK_nils, ↓frzK_nilm, ↓frzK_nilf, ↓frzK_nili, ↓frzK_fz, ↓frzK_any, ↓frzK_ptr, ↓frzK_ro, ↓getB, setB, kill, killM, dropK, keysOf, capOf_nn, zeroC, bump, frzT, thaw, gets, putAll, ↓getsK, ↓getR, ↓retK, retv, find, cells, ↓nilpK, ↓nilsK, ↓nilfK, ↓niliK, ↓bndK, ↓cutK, ↓fillK, ↓exitK, List.append_nil, List.drop, List.take, Nat.reduceAdd, Nat.reduceSub, Nat.reduceMul, Nat.reduceLT, Nat.reduceLeDiff, Nat.zero_add, Nat.add_zero, Nat.mul_one, Int.reduceToNat, Nat.reduceEqDiff, Nat.succ_ne_self, Nat.le_refl, Nat.one_ne_zero, Nat.reduceBEq, Nat.lt_irrefl, List.length_append, Int.toNat_zero, Int.toNat_one, List.take_zero, List.drop_zero, Nat.zero_mul, sel, rest, keyIn, ↓reduceIte, ↓if_pos, ↓if_neg, reduceCtorEq, Bool.not_true, Bool.not_false, Bool.false_eq_true, Bool.true_eq_false, and_self, and_true, true_and, false_and, and_false, decide_true, decide_false, decide_eq_true, decide_eq_false, decide_eq_true_eq, decide_eq_false_iff_not, Bool.not_eq_true, Bool.not_eq_false, Bool.not_eq_eq_eq_not, Decidable.not_not, eA, scal1, List.all_cons, List.all_nil, Bool.and_self, hg]
    exact doneG rfl
end Go.Proofs.Ytmokhopjnjecbab
/- The law on versions: what is looked at, what a program that does nothing answers wrongly. -/
namespace Go.Proofs.Ytmokhopjnjecbab
open Go.Ev
set_option linter.unusedVariables false
set_option linter.unusedSimpArgs false
set_option maxRecDepth 100000
set_option maxHeartbeats 3200000
variable {R : List AV → Heap → Ctr → Prop} {k : List It} {H : Heap} {nx : Ctr} {φ : Nat}

def tab_xright : List (Nat × Cd × Nat × List RS) := [(F_event_Right, c_event_Right, 10, [.t 2]), (F_event_count, c_event_count, 48, [.t 4]), (F_event_leaf, c_event_leaf, 7, [.t 2]), (F_event_short, c_event_short, 47, [.t 2]), (F_event_Same, c_event_Same, 8, [.t 4]), (F_event_same, c_event_same, 47, [.t 6])]
theorem tok_xright : TabOk Try.prog (tabOf tab_xright) := tab_cons calls_event_Right hcalls_event_Right (tab_cons calls_event_count hcalls_event_count (tab_cons calls_event_leaf hcalls_event_leaf (tab_cons calls_event_short hcalls_event_short (tab_cons calls_event_Same hcalls_event_Same (tab_cons calls_event_same hcalls_event_same (tab_nil))))))
theorem vawake_calls : PCalls Try.prog F_law07_awake [] (.bool true) :=
  evalF_calls (T := tabOf (tab_CdVersion ++ tab_xright)) (n := 300) (tab_append tok_CdVersion tok_xright) (by kernel_rfl)
def fewL : Nat → List Ver → Bool
  | _, [] => true
  | i, v :: l => decide (i < 40) && decide (v.key.size ≤ 100) && decide (v.value.size ≤ 300) && decide (xlcnt 30 v.event ≤ 1000) && fewL (i + 1) l
theorem fewL_mem : ∀ {l : List Ver} {i : Nat}, fewL i l = true → l.length ≤ 40 - i ∧ ∀ v ∈ l, v.key.size ≤ 100 ∧ v.value.size ≤ 300 ∧ v.event.size ≤ 1000
  | [], i, _ => by simp
  | v :: l, i, h => by
    simp only [fewL, Bool.and_eq_true, decide_eq_true_eq] at h
    obtain ⟨h1, h2⟩ := fewL_mem h.2
    refine ⟨by simp only [List.length_cons]; omega, fun w hw => ?_⟩
    rcases List.mem_cons.1 hw with rfl | hw
    · have := xlcnt_size 30 w.event h.1.2
      exact ⟨h.1.1.1.2, h.1.1.2, by omega⟩
    · exact h2 w hw
theorem vv_get (l : List Ver) (i : Nat) : (l.map vv)[i]? = l[i]?.map vv := List.getElem?_map ..
theorem few_loop (l : List Ver) (c : Option Nat) (hl : l.length < 2 ^ 63) : ∀ (post pre : List Ver), l = pre ++ post → ∀ nx : Ctr,
    RunsX Try.prog 0 (Gives [.t 2] (.bool (fewL pre.length post))) (i_law07_Few_0 ++ [.c c_law07_Few_k0]) (s_law07_Few_0 (.fz 7 (l.map vv) c) (.int .i64 (l.length : Nat)) (.int .i64 (pre.length : Nat))) [] nx := by
  intro post
  induction post with
  | nil =>
    intro pre h1 nx
    have h5 : l.length = pre.length := by rw [h1]; simp
    refine round (its := [.blk 0 wb_law07_Few_0]) (k0 := [.c c_law07_Few_k0]) 100 trivial trivial (fun A eA => ?_)
    simp (disch := first | omega | (simp only [avs_len, List.length_cons, List.length_append, List.length_nil, List.length_take, List.length_drop, List.length_map]; omega)) only [c_law07_Few, wl_law07_Few_0, s_law07_Few_0, c_law07_Few_l0, wb_law07_Few_0, c_law07_Few_k0, ↓advStep, ↓execK, ↓opK, ↓binK, ↓intK, ↓strK, evs, ev, getT, setT, put, List.replicate, List.cons_append, List.nil_append, List.length_cons, List.length_nil, ↓mapK, ↓frzK_sl, ↓frzK_agg, ↓frzK_tup, ↓frzK_ifc, ↓frzK_func, ↓frzK_int, ↓frzK_bool, ↓frzK_str, ↓frzK_nilp, ↓frzK_nils, ↓frzK_nilm, ↓frzK_nilf, ↓frzK_nili, ↓frzK_fz, ↓frzK_any, ↓frzK_ptr, ↓frzK_ro, ↓getB, setB, kill, killM, dropK, keysOf, capOf_nn, zeroC, bump, frzT, thaw, gets, putAll, ↓getsK, ↓getR, ↓retK, retv, find, cells, ↓nilpK, ↓nilsK, ↓nilfK, ↓niliK, ↓bndK, ↓cutK, ↓fillK, ↓exitK, List.append_nil, List.drop, List.take, Nat.reduceAdd, Nat.reduceSub, Nat.reduceMul, Nat.reduceLT, Nat.reduceLeDiff, Nat.zero_add, Nat.add_zero, Nat.mul_one, Int.reduceToNat, Nat.reduceEqDiff, Nat.succ_ne_self, Nat.le_refl, Nat.one_ne_zero, Nat.reduceBEq, Nat.lt_irrefl, List.length_append, Int.toNat_zero, Int.toNat_one, List.take_zero, List.drop_zero, Nat.zero_mul, sel, rest, keyIn, ↓reduceIte, ↓if_pos, ↓if_neg, reduceCtorEq, Bool.not_true, Bool.not_false, Bool.false_eq_true, Bool.true_eq_false, and_self, and_true, true_and, false_and, and_false, decide_true, decide_false, decide_eq_true, decide_eq_false, decide_eq_true_eq, decide_eq_false_iff_not, Bool.not_eq_true, Bool.not_eq_false, Bool.not_eq_eq_eq_not, Decidable.not_not, eA]
    refine walk0 (its := [.c c_law07_Few_k0]) 100 trivial (fun A eA => ?_)
    simp (disch := first | omega | (simp only [avs_len, List.length_cons, List.length_append, List.length_nil, List.length_take, List.length_drop, List.length_map]; omega)) only [c_law07_Few, wl_law07_Few_0, s_law07_Few_0, c_law07_Few_l0, wb_law07_Few_0, c_law07_Few_k0, ↓advStep, ↓execK, ↓opK, ↓binK, ↓intK, ↓strK, evs, ev, getT, setT, put, List.replicate, List.cons_append, List.nil_append, List.length_cons, List.length_nil, ↓mapK, ↓frzK_sl, ↓frzK_agg, ↓frzK_tup, ↓frzK_ifc, ↓frzK_func, ↓frzK_int, ↓frzK_bool, ↓frzK_str, ↓frzK_nilp, ↓frzK_nils, ↓frzK_nilm, ↓frzK_nilf, ↓frzK_nili, ↓frzK_fz, ↓frzK_any, ↓frzK_ptr, ↓frzK_ro, ↓getB, setB, kill, killM, dropK, keysOf, capOf_nn, zeroC, bump, frzT, thaw, gets, putAll, ↓getsK, ↓getR, ↓retK, retv, find, cells, ↓nilpK, ↓nilsK, ↓nilfK, ↓niliK, ↓bndK, ↓cutK, ↓fillK, ↓exitK, List.append_nil, List.drop, List.take, Nat.reduceAdd, Nat.reduceSub, Nat.reduceMul, Nat.reduceLT, Nat.reduceLeDiff, Nat.zero_add, Nat.add_zero, Nat.mul_one, Int.reduceToNat, Nat.reduceEqDiff, Nat.succ_ne_self, Nat.le_refl, Nat.one_ne_zero, Nat.reduceBEq, Nat.lt_irrefl, List.length_append, Int.toNat_zero, Int.toNat_one, List.take_zero, List.drop_zero, Nat.zero_mul, sel, rest, keyIn, ↓reduceIte, ↓if_pos, ↓if_neg, reduceCtorEq, Bool.not_true, Bool.not_false, Bool.false_eq_true, Bool.true_eq_false, and_self, and_true, true_and, false_and, and_false, decide_true, decide_false, decide_eq_true, decide_eq_false, decide_eq_true_eq, decide_eq_false_iff_not, Bool.not_eq_true, Bool.not_eq_false, Bool.not_eq_eq_eq_not, Decidable.not_not, eA]
    exact doneG rfl
  | cons v post ih =>
    intro pre h1 nx
    have hlt : pre.length < l.length := by rw [h1]; simp
    have g0 : (List.map vv l)[pre.length]? = some (vv v) := by rw [vv_get, h1]; simp
    have w1 : IntKind.i64.wrap ((pre.length : Int) + 1) = ((pre.length + 1 : Nat) : Int) := by rw [IntKind.wrap_i64]; omega
    have hih := ih (pre ++ [v]) (by rw [h1]; simp) nx
    rw [show (pre ++ [v]).length = pre.length + 1 by simp] at hih
    have c := xFew_calls v.event
    simp only [fewL]
    refine round (its := [.blk 0 wb_law07_Few_0]) (k0 := [.c c_law07_Few_k0]) 100 trivial trivial (fun A eA => ?_)
    by_cases h1 : pre.length < 40
    case neg =>
      rw [decide_eq_false h1, Bool.false_and, Bool.false_and, Bool.false_and, Bool.false_and]
      simp (disch := first | omega | (simp only [avs_len, List.length_cons, List.length_append, List.length_nil, List.length_take, List.length_drop, List.length_map]; omega)) only [c_law07_Few, wl_law07_Few_0, s_law07_Few_0, c_law07_Few_l0, wb_law07_Few_0, c_law07_Few_k0, ↓advStep, ↓execK, ↓opK, ↓binK, ↓intK, ↓strK, evs, ev, getT, setT, put, List.replicate, List.cons_append, List.nil_append, List.length_cons, List.length_nil, ↓mapK, ↓frzK_sl, ↓frzK_agg, ↓frzK_tup, ↓frzK_ifc, ↓frzK_func, ↓frzK_int, ↓frzK_bool, ↓frzK_str, ↓frzK_nilp, ↓frzK_nils, ↓frzK_nilm, ↓frzK_nilf, ↓frzK_nili, ↓frzK_fz, ↓frzK_any, ↓frzK_ptr, ↓frzK_ro, ↓getB, setB, kill, killM, dropK, keysOf, capOf_nn, zeroC, bump, frzT, thaw, gets, putAll, ↓getsK, ↓getR, ↓retK, retv, find, cells, ↓nilpK, ↓nilsK, ↓nilfK, ↓niliK, ↓bndK, ↓cutK, ↓fillK, ↓exitK, List.append_nil, List.drop, List.take, Nat.reduceAdd, Nat.reduceSub, Nat.reduceMul, Nat.reduceLT, Nat.reduceLeDiff, Nat.zero_add, Nat.add_zero, Nat.mul_one, Int.reduceToNat, Nat.reduceEqDiff, Nat.succ_ne_self, Nat.le_refl, Nat.one_ne_zero, Nat.reduceBEq, Nat.lt_irrefl, List.length_append, Int.toNat_zero, Int.toNat_one, List.take_zero, List.drop_zero, Nat.zero_mul, sel, rest, keyIn, ↓reduceIte, ↓if_pos, ↓if_neg, reduceCtorEq, Bool.not_true, Bool.not_false, Bool.false_eq_true, Bool.true_eq_false, and_self, and_true, true_and, false_and, and_false, decide_true, decide_false, decide_eq_true, decide_eq_false, decide_eq_true_eq, decide_eq_false_iff_not, Bool.not_eq_true, Bool.not_eq_false, Bool.not_eq_eq_eq_not, Decidable.not_not, eA]
      exact doneG rfl
    by_cases h2 : v.key.size ≤ 100
    case neg =>
      rw [decide_eq_false h2, Bool.and_false, Bool.false_and, Bool.false_and, Bool.false_and]
      simp (disch := first | omega | (simp only [avs_len, List.length_cons, List.length_append, List.length_nil, List.length_take, List.length_drop, List.length_map]; omega)) only [c_law07_Few, wl_law07_Few_0, s_law07_Few_0, c_law07_Few_l0, wb_law07_Few_0, c_law07_Few_k0, ↓advStep, ↓execK, ↓opK, ↓binK, ↓intK, ↓strK, evs, ev, getT, setT, put, List.replicate, List.cons_append, List.nil_append, List.length_cons, List.length_nil, ↓mapK, ↓frzK_sl, ↓frzK_agg, ↓frzK_tup, ↓frzK_ifc, ↓frzK_func, ↓frzK_int, ↓frzK_bool, ↓frzK_str, ↓frzK_nilp, ↓frzK_nils, ↓frzK_nilm, ↓frzK_nilf, ↓frzK_nili, ↓frzK_fz, ↓frzK_any, ↓frzK_ptr, ↓frzK_ro, ↓getB, setB, kill, killM, dropK, keysOf, capOf_nn, zeroC, bump, frzT, thaw, gets, putAll, ↓getsK, ↓getR, ↓retK, retv, find, cells, ↓nilpK, ↓nilsK, ↓nilfK, ↓niliK, ↓bndK, ↓cutK, ↓fillK, ↓exitK, List.append_nil, List.drop, List.take, Nat.reduceAdd, Nat.reduceSub, Nat.reduceMul, Nat.reduceLT, Nat.reduceLeDiff, Nat.zero_add, Nat.add_zero, Nat.mul_one, Int.reduceToNat, Nat.reduceEqDiff, Nat.succ_ne_self, Nat.le_refl, Nat.one_ne_zero, Nat.reduceBEq, Nat.lt_irrefl, List.length_append, Int.toNat_zero, Int.toNat_one, List.take_zero, List.drop_zero, Nat.zero_mul, sel, rest, keyIn, ↓reduceIte, ↓if_pos, ↓if_neg, reduceCtorEq, Bool.not_true, Bool.not_false, Bool.false_eq_true, Bool.true_eq_false, and_self, and_true, true_and, false_and, and_false, decide_true, decide_false, decide_eq_true, decide_eq_false, decide_eq_true_eq, decide_eq_false_iff_not, Bool.not_eq_true, Bool.not_eq_false, Bool.not_eq_eq_eq_not, Decidable.not_not, eA, Int.toNat_natCast, g0]
      exact doneG rfl
    by_cases h3 : v.value.size ≤ 300
    case neg =>
      rw [decide_eq_false h3, Bool.and_false, Bool.false_and, Bool.false_and]
      simp (disch := first | omega | (simp only [avs_len, List.length_cons, List.length_append, List.length_nil, List.length_take, List.length_drop, List.length_map]; omega)) only [c_law07_Few, wl_law07_Few_0, s_law07_Few_0, c_law07_Few_l0, wb_law07_Few_0, c_law07_Few_k0, ↓advStep, ↓execK, ↓opK, ↓binK, ↓intK, ↓strK, evs, ev, getT, setT, put, List.replicate, List.cons_append, List.nil_append, List.length_cons, List.length_nil, ↓mapK, ↓frzK_sl, ↓frzK_agg, ↓frzK_tup, ↓frzK_ifc, ↓frzK_func, ↓frzK_int, ↓frzK_bool, ↓frzK_str, ↓frzK_nilp, ↓frzK_nils, ↓frzK_nilm, ↓frzK_nilf, ↓frzK_nili, ↓frzK_fz, ↓frzK_any, ↓frzK_ptr, ↓frzK_ro, ↓getB, setB, kill, killM, dropK, keysOf, capOf_nn, zeroC, bump, frzT, thaw, gets, putAll, ↓getsK, ↓getR, ↓retK, retv, find, cells, ↓nilpK, ↓nilsK, ↓nilfK, ↓niliK, ↓bndK, ↓cutK, ↓fillK, ↓exitK, List.append_nil, List.drop, List.take, Nat.reduceAdd, Nat.reduceSub, Nat.reduceMul, Nat.reduceLT, Nat.reduceLeDiff, Nat.zero_add, Nat.add_zero, Nat.mul_one, Int.reduceToNat, Nat.reduceEqDiff, Nat.succ_ne_self, Nat.le_refl, Nat.one_ne_zero, Nat.reduceBEq, Nat.lt_irrefl, List.length_append, Int.toNat_zero, Int.toNat_one, List.take_zero, List.drop_zero, Nat.zero_mul, sel, rest, keyIn, ↓reduceIte, ↓if_pos, ↓if_neg, reduceCtorEq, Bool.not_true, Bool.not_false, Bool.false_eq_true, Bool.true_eq_false, and_self, and_true, true_and, false_and, and_false, decide_true, decide_false, decide_eq_true, decide_eq_false, decide_eq_true_eq, decide_eq_false_iff_not, Bool.not_eq_true, Bool.not_eq_false, Bool.not_eq_eq_eq_not, Decidable.not_not, eA, Int.toNat_natCast, g0]
      exact doneG rfl
    rw [decide_eq_true h1, decide_eq_true h2, decide_eq_true h3, Bool.true_and, Bool.true_and, Bool.true_and]
    by_cases h4 : xlcnt 30 v.event ≤ 1000
    · rw [decide_eq_true h4] at c ⊢
      rw [Bool.true_and]
      simp (disch := first | omega | (simp only [avs_len, List.length_cons, List.length_append, List.length_nil, List.length_take, List.length_drop, List.length_map]; omega)) only [c_law07_Few, wl_law07_Few_0, s_law07_Few_0, c_law07_Few_l0, wb_law07_Few_0, c_law07_Few_k0, ↓advStep, ↓execK, ↓opK, ↓binK, ↓intK, ↓strK, evs, ev, getT, setT, put, List.replicate, List.cons_append, List.nil_append, List.length_cons, List.length_nil, ↓mapK, ↓frzK_sl, ↓frzK_agg, ↓frzK_tup, ↓frzK_ifc, ↓frzK_func, ↓frzK_int, ↓frzK_bool, ↓frzK_str, ↓frzK_nilp, ↓frzK_nils, ↓frzK_nilm, ↓frzK_nilf, ↓frzK_nili, ↓frzK_fz, ↓frzK_any, ↓frzK_ptr, ↓frzK_ro, ↓getB, setB, kill, killM, dropK, keysOf, capOf_nn, zeroC, bump, frzT, thaw, gets, putAll, ↓getsK, ↓getR, ↓retK, retv, find, cells, ↓nilpK, ↓nilsK, ↓nilfK, ↓niliK, ↓bndK, ↓cutK, ↓fillK, ↓exitK, List.append_nil, List.drop, List.take, Nat.reduceAdd, Nat.reduceSub, Nat.reduceMul, Nat.reduceLT, Nat.reduceLeDiff, Nat.zero_add, Nat.add_zero, Nat.mul_one, Int.reduceToNat, Nat.reduceEqDiff, Nat.succ_ne_self, Nat.le_refl, Nat.one_ne_zero, Nat.reduceBEq, Nat.lt_irrefl, List.length_append, Int.toNat_zero, Int.toNat_one, List.take_zero, List.drop_zero, Nat.zero_mul, sel, rest, keyIn, ↓reduceIte, ↓if_pos, ↓if_neg, reduceCtorEq, Bool.not_true, Bool.not_false, Bool.false_eq_true, Bool.true_eq_false, and_self, and_true, true_and, false_and, and_false, decide_true, decide_false, decide_eq_true, decide_eq_false, decide_eq_true_eq, decide_eq_false_iff_not, Bool.not_eq_true, Bool.not_eq_false, Bool.not_eq_eq_eq_not, Decidable.not_not, eA, Int.toNat_natCast, g0, scal1, List.all_cons, List.all_nil, Bool.and_self]
      refine call0 100 trivial trivial c (.inl rfl) (fun A eA => ?_)
      simp (disch := first | omega | (simp only [avs_len, List.length_cons, List.length_append, List.length_nil, List.length_take, List.length_drop, List.length_map]; omega)) only [c_law07_Few, wl_law07_Few_0, s_law07_Few_0, c_law07_Few_l0, wb_law07_Few_0, c_law07_Few_k0, ↓advStep, ↓execK, ↓opK, ↓binK, ↓intK, ↓strK, evs, ev, getT, setT, put, List.replicate, List.cons_append, List.nil_append, List.length_cons, List.length_nil, ↓mapK, ↓frzK_sl, ↓frzK_agg, ↓frzK_tup, ↓frzK_ifc, ↓frzK_func, ↓frzK_int, ↓frzK_bool, ↓frzK_str, ↓frzK_nilp, ↓frzK_nils, ↓frzK_nilm, ↓frzK_nilf, ↓frzK_nili, ↓frzK_fz, ↓frzK_any, ↓frzK_ptr, ↓frzK_ro, ↓getB, setB, kill, killM, dropK, keysOf, capOf_nn, zeroC, bump, frzT, thaw, gets, putAll, ↓getsK, ↓getR, ↓retK, retv, find, cells, ↓nilpK, ↓nilsK, ↓nilfK, ↓niliK, ↓bndK, ↓cutK, ↓fillK, ↓exitK, List.append_nil, List.drop, List.take, Nat.reduceAdd, Nat.reduceSub, Nat.reduceMul, Nat.reduceLT, Nat.reduceLeDiff, Nat.zero_add, Nat.add_zero, Nat.mul_one, Int.reduceToNat, Nat.reduceEqDiff, Nat.succ_ne_self, Nat.le_refl, Nat.one_ne_zero, Nat.reduceBEq, Nat.lt_irrefl, List.length_append, Int.toNat_zero, Int.toNat_one, List.take_zero, List.drop_zero, Nat.zero_mul, sel, rest, keyIn, ↓reduceIte, ↓if_pos, ↓if_neg, reduceCtorEq, Bool.not_true, Bool.not_false, Bool.false_eq_true, Bool.true_eq_false, and_self, and_true, true_and, false_and, and_false, decide_true, decide_false, decide_eq_true, decide_eq_false, decide_eq_true_eq, decide_eq_false_iff_not, Bool.not_eq_true, Bool.not_eq_false, Bool.not_eq_eq_eq_not, Decidable.not_not, eA, w1]
      exact hih
    · rw [decide_eq_false h4] at c ⊢
      rw [Bool.false_and]
      simp (disch := first | omega | (simp only [avs_len, List.length_cons, List.length_append, List.length_nil, List.length_take, List.length_drop, List.length_map]; omega)) only [c_law07_Few, wl_law07_Few_0, s_law07_Few_0, c_law07_Few_l0, wb_law07_Few_0, c_law07_Few_k0, ↓advStep, ↓execK, ↓opK, ↓binK, ↓intK, ↓strK, evs, ev, getT, setT, put, List.replicate, List.cons_append, List.nil_append, List.length_cons, List.length_nil, ↓mapK, ↓frzK_sl, ↓frzK_agg, ↓frzK_tup, ↓frzK_ifc, ↓frzK_func, ↓frzK_int, ↓frzK_bool, ↓frzK_str, ↓frzK_nilp, ↓frzK_nils, ↓frzK_nilm, ↓frzK_nilf, ↓frzK_nili, ↓frzK_fz, ↓frzK_any, ↓frzK_ptr, ↓frzK_ro, ↓getB, setB, kill, killM, dropK, keysOf, capOf_nn, zeroC, bump, frzT, thaw, gets, putAll, ↓getsK, ↓getR, ↓retK, retv, find, cells, ↓nilpK, ↓nilsK, ↓nilfK, ↓niliK, ↓bndK, ↓cutK, ↓fillK, ↓exitK, List.append_nil, List.drop, List.take, Nat.reduceAdd, Nat.reduceSub, Nat.reduceMul, Nat.reduceLT, Nat.reduceLeDiff, Nat.zero_add, Nat.add_zero, Nat.mul_one, Int.reduceToNat, Nat.reduceEqDiff, Nat.succ_ne_self, Nat.le_refl, Nat.one_ne_zero, Nat.reduceBEq, Nat.lt_irrefl, List.length_append, Int.toNat_zero, Int.toNat_one, List.take_zero, List.drop_zero, Nat.zero_mul, sel, rest, keyIn, ↓reduceIte, ↓if_pos, ↓if_neg, reduceCtorEq, Bool.not_true, Bool.not_false, Bool.false_eq_true, Bool.true_eq_false, and_self, and_true, true_and, false_and, and_false, decide_true, decide_false, decide_eq_true, decide_eq_false, decide_eq_true_eq, decide_eq_false_iff_not, Bool.not_eq_true, Bool.not_eq_false, Bool.not_eq_eq_eq_not, Decidable.not_not, eA, Int.toNat_natCast, g0, scal1, List.all_cons, List.all_nil, Bool.and_self]
      refine call0 100 trivial trivial c (.inl rfl) (fun A eA => ?_)
      simp (disch := first | omega | (simp only [avs_len, List.length_cons, List.length_append, List.length_nil, List.length_take, List.length_drop, List.length_map]; omega)) only [c_law07_Few, wl_law07_Few_0, s_law07_Few_0, c_law07_Few_l0, wb_law07_Few_0, c_law07_Few_k0, ↓advStep, ↓execK, ↓opK, ↓binK, ↓intK, ↓strK, evs, ev, getT, setT, put, List.replicate, List.cons_append, List.nil_append, List.length_cons, List.length_nil, ↓mapK, ↓frzK_sl, ↓frzK_agg, ↓frzK_tup, ↓frzK_ifc, ↓frzK_func, ↓frzK_int, ↓frzK_bool, ↓frzK_str, ↓frzK_nilp, ↓frzK_nils, ↓frzK_nilm, ↓frzK_nilf, ↓frzK_nili, ↓frzK_fz, ↓frzK_any, ↓frzK_ptr, ↓frzK_ro, ↓getB, setB, kill, killM, dropK, keysOf, capOf_nn, zeroC, bump, frzT, thaw, gets, putAll, ↓getsK, ↓getR, ↓retK, retv, find, cells, ↓nilpK, ↓nilsK, ↓nilfK, ↓niliK, ↓bndK, ↓cutK, ↓fillK, ↓exitK, List.append_nil, List.drop, List.take, Nat.reduceAdd, Nat.reduceSub, Nat.reduceMul, Nat.reduceLT, Nat.reduceLeDiff, Nat.zero_add, Nat.add_zero, Nat.mul_one, Int.reduceToNat, Nat.reduceEqDiff, Nat.succ_ne_self, Nat.le_refl, Nat.one_ne_zero, Nat.reduceBEq, Nat.lt_irrefl, List.length_append, Int.toNat_zero, Int.toNat_one, List.take_zero, List.drop_zero, Nat.zero_mul, sel, rest, keyIn, ↓reduceIte, ↓if_pos, ↓if_neg, reduceCtorEq, Bool.not_true, Bool.not_false, Bool.false_eq_true, Bool.true_eq_false, and_self, and_true, true_and, false_and, and_false, decide_true, decide_false, decide_eq_true, decide_eq_false, decide_eq_true_eq, decide_eq_false_iff_not, Bool.not_eq_true, Bool.not_eq_false, Bool.not_eq_eq_eq_not, Decidable.not_not, eA, w1]
      exact doneG rfl
theorem vFew_calls (l : List Ver) (c : Option Nat) (hl : l.length < 2 ^ 63) : PCalls Try.prog F_law07_Few [.fz 7 (l.map vv) c] (.bool (fewL 0 l)) := by
  refine calls_law07_Few (walk0 100 trivial (fun A eA => ?_))
  simp (disch := first | omega | (simp only [avs_len, List.length_cons, List.length_append, List.length_nil, List.length_take, List.length_drop, List.length_map]; omega)) only [c_law07_Few, wl_law07_Few_0, s_law07_Few_0, c_law07_Few_l0, wb_law07_Few_0, c_law07_Few_k0, ↓advStep, ↓execK, ↓opK, ↓binK, ↓intK, ↓strK, evs, ev, getT, setT, put, List.replicate, List.cons_append, List.nil_append, List.length_cons, List.length_nil, ↓mapK, ↓frzK_sl, ↓frzK_agg, ↓frzK_tup, ↓frzK_ifc, ↓frzK_func, ↓frzK_int, ↓frzK_bool, ↓frzK_str, ↓frzK_nilp, ↓frzK_nils, ↓frzK_nilm, ↓frzK_nilf, ↓frzK_nili, ↓frzK_fz, ↓frzK_any, ↓frzK_ptr, ↓frzK_ro, ↓getB, setB, kill, killM, dropK, keysOf, capOf_nn, zeroC, bump, frzT, thaw, gets, putAll, ↓getsK, ↓getR, ↓retK, retv, find, cells, ↓nilpK, ↓nilsK, ↓nilfK, ↓niliK, ↓bndK, ↓cutK, ↓fillK, ↓exitK, List.append_nil, List.drop, List.take, Nat.reduceAdd, Nat.reduceSub, Nat.reduceMul, Nat.reduceLT, Nat.reduceLeDiff, Nat.zero_add, Nat.add_zero, Nat.mul_one, Int.reduceToNat, Nat.reduceEqDiff, Nat.succ_ne_self, Nat.le_refl, Nat.one_ne_zero, Nat.reduceBEq, Nat.lt_irrefl, List.length_append, Int.toNat_zero, Int.toNat_one, List.take_zero, List.drop_zero, Nat.zero_mul, sel, rest, keyIn, ↓reduceIte, ↓if_pos, ↓if_neg, reduceCtorEq, Bool.not_true, Bool.not_false, Bool.false_eq_true, Bool.true_eq_false, and_self, and_true, true_and, false_and, and_false, decide_true, decide_false, decide_eq_true, decide_eq_false, decide_eq_true_eq, decide_eq_false_iff_not, Bool.not_eq_true, Bool.not_eq_false, Bool.not_eq_eq_eq_not, Decidable.not_not, eA, List.length_map]
  exact few_loop l c hl l [] rfl zeroC
end Go.Proofs.Ytmokhopjnjecbab
/- The walk through versions, on: alike, copied. -/
namespace Go.Proofs.Ytmokhopjnjecbab
open Go.Ev
set_option linter.unusedVariables false
set_option linter.unusedSimpArgs false
set_option maxRecDepth 100000
set_option maxHeartbeats 3200000
variable {R : List AV → Heap → Ctr → Prop} {k : List It} {H : Heap} {nx : Ctr} {φ : Nat}

/-- Is it so? -/
noncomputable def cdec (p : Prop) : Bool := @decide p (Classical.propDecidable _)
theorem cdec_t {p : Prop} (h : p) : cdec p = true := by simp [cdec, h]
theorem cdec_f {p : Prop} (h : ¬ p) : cdec p = false := by simp [cdec, h]
/-- Alike but for the event? -/
noncomputable def vhead (a b : Ver) : Bool := cdec (a.client = b.client ∧ a.token = b.token ∧ a.key = b.key ∧ a.value = b.value ∧ a.gone = b.gone)
theorem refVSame_calls (a b : Ver) (hs : a.event.size < 2 ^ 60) : PCalls Try.prog F_ref04_VSame [vv a, vv b] (.bool (vhead a b && xteq a.event b.event)) := by
  have c := xrefSame_calls a.event hs b.event
  generalize xteq a.event b.event = q at c ⊢
  have no : ¬ (a.client = b.client ∧ a.token = b.token ∧ a.key = b.key ∧ a.value = b.value ∧ a.gone = b.gone) → (vhead a b && q) = false := fun h => by simp only [vhead, cdec_f h, Bool.false_and]
  refine calls_ref04_VSame (walk0 100 trivial (fun A eA => ?_))
  by_cases h1 : a.client = b.client
  case neg =>
    rw [no (fun h => h1 h.1)]
    simp (disch := first | omega | (simp only [avs_len, List.length_cons, List.length_append, List.length_nil, List.length_take, List.length_drop, List.length_map]; omega)) only [c_ref04_VSame, ↓advStep, ↓execK, ↓opK, ↓binK, ↓intK, ↓strK, evs, ev, getT, setT, put, List.replicate, List.cons_append, List.nil_append, List.length_cons, List.length_nil, ↓mapK, ↓frzK_sl, ↓frzK_agg, ↓frzK_tup, ↓frzK_ifc, ↓frzK_func, ↓frzK_int, ↓frzK_bool, ↓frzK_str, ↓frzK_nilp, ↓frzK_nils, ↓frzK_nilm, ↓frzK_nilf, ↓frzK_nili, ↓frzK_fz, ↓frzK_any, ↓frzK_ptr, ↓frzK_ro, ↓getB, setB, kill, killM, dropK, keysOf, capOf_nn, zeroC, bump, frzT, thaw, gets, putAll, ↓getsK, ↓getR, ↓retK, retv, find, cells, ↓nilpK, ↓nilsK, ↓nilfK, ↓niliK, ↓bndK, ↓cutK, ↓fillK, ↓exitK, List.append_nil, List.drop, List.take, Nat.reduceAdd, Nat.reduceSub, Nat.reduceMul, Nat.reduceLT, Nat.reduceLeDiff, Nat.zero_add, Nat.add_zero, Nat.mul_one, Int.reduceToNat, Nat.reduceEqDiff, Nat.succ_ne_self, Nat.le_refl, Nat.one_ne_zero, Nat.reduceBEq, Nat.lt_irrefl, List.length_append, Int.toNat_zero, Int.toNat_one, List.take_zero, List.drop_zero, Nat.zero_mul, sel, rest, keyIn, ↓reduceIte, ↓if_pos, ↓if_neg, reduceCtorEq, Bool.not_true, Bool.not_false, Bool.false_eq_true, Bool.true_eq_false, and_self, and_true, true_and, false_and, and_false, decide_true, decide_false, decide_eq_true, decide_eq_false, decide_eq_true_eq, decide_eq_false_iff_not, Bool.not_eq_true, Bool.not_eq_false, Bool.not_eq_eq_eq_not, Decidable.not_not, eA, scal1, List.all_cons, List.all_nil, Bool.and_self]
    exact doneG rfl
  by_cases h2 : a.token = b.token
  case neg =>
    rw [no (fun h => h2 h.2.1)]
    simp (disch := first | omega | (simp only [avs_len, List.length_cons, List.length_append, List.length_nil, List.length_take, List.length_drop, List.length_map]; omega)) only [c_ref04_VSame, ↓advStep, ↓execK, ↓opK, ↓binK, ↓intK, ↓strK, evs, ev, getT, setT, put, List.replicate, List.cons_append, List.nil_append, List.length_cons, List.length_nil, ↓mapK, ↓frzK_sl, ↓frzK_agg, ↓frzK_tup, ↓frzK_ifc, ↓frzK_func, ↓frzK_int, ↓frzK_bool, ↓frzK_str, ↓frzK_nilp, ↓frzK_nils, ↓frzK_nilm, ↓frzK_nilf, ↓frzK_nili, ↓frzK_fz, ↓frzK_any, ↓frzK_ptr, ↓frzK_ro, ↓getB, setB, kill, killM, dropK, keysOf, capOf_nn, zeroC, bump, frzT, thaw, gets, putAll, ↓getsK, ↓getR, ↓retK, retv, find, cells, ↓nilpK, ↓nilsK, ↓nilfK, ↓niliK, ↓bndK, ↓cutK, ↓fillK, ↓exitK, List.append_nil, List.drop, List.take, Nat.reduceAdd, Nat.reduceSub, Nat.reduceMul, Nat.reduceLT, Nat.reduceLeDiff, Nat.zero_add, Nat.add_zero, Nat.mul_one, Int.reduceToNat, Nat.reduceEqDiff, Nat.succ_ne_self, Nat.le_refl, Nat.one_ne_zero, Nat.reduceBEq, Nat.lt_irrefl, List.length_append, Int.toNat_zero, Int.toNat_one, List.take_zero, List.drop_zero, Nat.zero_mul, sel, rest, keyIn, ↓reduceIte, ↓if_pos, ↓if_neg, reduceCtorEq, Bool.not_true, Bool.not_false, Bool.false_eq_true, Bool.true_eq_false, and_self, and_true, true_and, false_and, and_false, decide_true, decide_false, decide_eq_true, decide_eq_false, decide_eq_true_eq, decide_eq_false_iff_not, Bool.not_eq_true, Bool.not_eq_false, Bool.not_eq_eq_eq_not, Decidable.not_not, eA, scal1, List.all_cons, List.all_nil, Bool.and_self]
    exact doneG rfl
  by_cases h3 : a.key = b.key
  case neg =>
    have e3 := str_beq_false h3
    rw [no (fun h => h3 h.2.2.1)]
    simp (disch := first | omega | (simp only [avs_len, List.length_cons, List.length_append, List.length_nil, List.length_take, List.length_drop, List.length_map]; omega)) only [c_ref04_VSame, ↓advStep, ↓execK, ↓opK, ↓binK, ↓intK, ↓strK, evs, ev, getT, setT, put, List.replicate, List.cons_append, List.nil_append, List.length_cons, List.length_nil, ↓mapK, ↓frzK_sl, ↓frzK_agg, ↓frzK_tup, ↓frzK_ifc, ↓frzK_func, ↓frzK_int, ↓frzK_bool, ↓frzK_str, ↓frzK_nilp, ↓frzK_nils, ↓frzK_nilm, ↓frzK_nilf, ↓frzK_nili, ↓frzK_fz, ↓frzK_any, ↓frzK_ptr, ↓frzK_ro, ↓getB, setB, kill, killM, dropK, keysOf, capOf_nn, zeroC, bump, frzT, thaw, gets, putAll, ↓getsK, ↓getR, ↓retK, retv, find, cells, ↓nilpK, ↓nilsK, ↓nilfK, ↓niliK, ↓bndK, ↓cutK, ↓fillK, ↓exitK, List.append_nil, List.drop, List.take, Nat.reduceAdd, Nat.reduceSub, Nat.reduceMul, Nat.reduceLT, Nat.reduceLeDiff, Nat.zero_add, Nat.add_zero, Nat.mul_one, Int.reduceToNat, Nat.reduceEqDiff, Nat.succ_ne_self, Nat.le_refl, Nat.one_ne_zero, Nat.reduceBEq, Nat.lt_irrefl, List.length_append, Int.toNat_zero, Int.toNat_one, List.take_zero, List.drop_zero, Nat.zero_mul, sel, rest, keyIn, ↓reduceIte, ↓if_pos, ↓if_neg, reduceCtorEq, Bool.not_true, Bool.not_false, Bool.false_eq_true, Bool.true_eq_false, and_self, and_true, true_and, false_and, and_false, decide_true, decide_false, decide_eq_true, decide_eq_false, decide_eq_true_eq, decide_eq_false_iff_not, Bool.not_eq_true, Bool.not_eq_false, Bool.not_eq_eq_eq_not, Decidable.not_not, eA, scal1, List.all_cons, List.all_nil, Bool.and_self, e3]
    exact doneG rfl
  have e3 := str_beq_true h3
  by_cases h4 : a.value = b.value
  case neg =>
    have e4 := str_beq_false h4
    rw [no (fun h => h4 h.2.2.2.1)]
    simp (disch := first | omega | (simp only [avs_len, List.length_cons, List.length_append, List.length_nil, List.length_take, List.length_drop, List.length_map]; omega)) only [c_ref04_VSame, ↓advStep, ↓execK, ↓opK, ↓binK, ↓intK, ↓strK, evs, ev, getT, setT, put, List.replicate, List.cons_append, List.nil_append, List.length_cons, List.length_nil, ↓mapK, ↓frzK_sl, ↓frzK_agg, ↓frzK_tup, ↓frzK_ifc, ↓frzK_func, ↓frzK_int, ↓frzK_bool, ↓frzK_str, ↓frzK_nilp, ↓frzK_nils, ↓frzK_nilm, ↓frzK_nilf, ↓frzK_nili, ↓frzK_fz, ↓frzK_any, ↓frzK_ptr, ↓frzK_ro, ↓getB, setB, kill, killM, dropK, keysOf, capOf_nn, zeroC, bump, frzT, thaw, gets, putAll, ↓getsK, ↓getR, ↓retK, retv, find, cells, ↓nilpK, ↓nilsK, ↓nilfK, ↓niliK, ↓bndK, ↓cutK, ↓fillK, ↓exitK, List.append_nil, List.drop, List.take, Nat.reduceAdd, Nat.reduceSub, Nat.reduceMul, Nat.reduceLT, Nat.reduceLeDiff, Nat.zero_add, Nat.add_zero, Nat.mul_one, Int.reduceToNat, Nat.reduceEqDiff, Nat.succ_ne_self, Nat.le_refl, Nat.one_ne_zero, Nat.reduceBEq, Nat.lt_irrefl, List.length_append, Int.toNat_zero, Int.toNat_one, List.take_zero, List.drop_zero, Nat.zero_mul, sel, rest, keyIn, ↓reduceIte, ↓if_pos, ↓if_neg, reduceCtorEq, Bool.not_true, Bool.not_false, Bool.false_eq_true, Bool.true_eq_false, and_self, and_true, true_and, false_and, and_false, decide_true, decide_false, decide_eq_true, decide_eq_false, decide_eq_true_eq, decide_eq_false_iff_not, Bool.not_eq_true, Bool.not_eq_false, Bool.not_eq_eq_eq_not, Decidable.not_not, eA, scal1, List.all_cons, List.all_nil, Bool.and_self, e3, e4]
    exact doneG rfl
  have e4 := str_beq_true h4
  by_cases h5 : a.gone = b.gone
  case neg =>
    have e5 : (a.gone == b.gone) = false := by simpa using h5
    rw [no (fun h => h5 h.2.2.2.2)]
    simp (disch := first | omega | (simp only [avs_len, List.length_cons, List.length_append, List.length_nil, List.length_take, List.length_drop, List.length_map]; omega)) only [c_ref04_VSame, ↓advStep, ↓execK, ↓opK, ↓binK, ↓intK, ↓strK, evs, ev, getT, setT, put, List.replicate, List.cons_append, List.nil_append, List.length_cons, List.length_nil, ↓mapK, ↓frzK_sl, ↓frzK_agg, ↓frzK_tup, ↓frzK_ifc, ↓frzK_func, ↓frzK_int, ↓frzK_bool, ↓frzK_str, ↓frzK_nilp, ↓frzK_nils, ↓frzK_nilm, ↓frzK_nilf, ↓frzK_nili, ↓frzK_fz, ↓frzK_any, ↓frzK_ptr, ↓frzK_ro, ↓getB, setB, kill, killM, dropK, keysOf, capOf_nn, zeroC, bump, frzT, thaw, gets, putAll, ↓getsK, ↓getR, ↓retK, retv, find, cells, ↓nilpK, ↓nilsK, ↓nilfK, ↓niliK, ↓bndK, ↓cutK, ↓fillK, ↓exitK, List.append_nil, List.drop, List.take, Nat.reduceAdd, Nat.reduceSub, Nat.reduceMul, Nat.reduceLT, Nat.reduceLeDiff, Nat.zero_add, Nat.add_zero, Nat.mul_one, Int.reduceToNat, Nat.reduceEqDiff, Nat.succ_ne_self, Nat.le_refl, Nat.one_ne_zero, Nat.reduceBEq, Nat.lt_irrefl, List.length_append, Int.toNat_zero, Int.toNat_one, List.take_zero, List.drop_zero, Nat.zero_mul, sel, rest, keyIn, ↓reduceIte, ↓if_pos, ↓if_neg, reduceCtorEq, Bool.not_true, Bool.not_false, Bool.false_eq_true, Bool.true_eq_false, and_self, and_true, true_and, false_and, and_false, decide_true, decide_false, decide_eq_true, decide_eq_false, decide_eq_true_eq, decide_eq_false_iff_not, Bool.not_eq_true, Bool.not_eq_false, Bool.not_eq_eq_eq_not, Decidable.not_not, eA, scal1, List.all_cons, List.all_nil, Bool.and_self, e3, e4, e5]
    exact doneG rfl
  have e5 : (a.gone == b.gone) = true := by simpa using h5
  rw [show vhead a b = true from cdec_t ⟨h1, h2, h3, h4, h5⟩, Bool.true_and]
  simp (disch := first | omega | (simp only [avs_len, List.length_cons, List.length_append, List.length_nil, List.length_take, List.length_drop, List.length_map]; omega)) only [c_ref04_VSame, ↓advStep, ↓execK, ↓opK, ↓binK, ↓intK, ↓strK, evs, ev, getT, setT, put, List.replicate, List.cons_append, List.nil_append, List.length_cons, List.length_nil, ↓mapK, ↓frzK_sl, ↓frzK_agg, ↓frzK_tup, ↓frzK_ifc, ↓frzK_func, ↓frzK_int, ↓frzK_bool, ↓frzK_str, ↓frzK_nilp, ↓frzK_nils, ↓frzK_nilm, ↓frzK_nilf, ↓frzK_nili, ↓frzK_fz, ↓frzK_any, ↓frzK_ptr, ↓frzK_ro, ↓getB, setB, kill, killM, dropK, keysOf, capOf_nn, zeroC, bump, frzT, thaw, gets, putAll, ↓getsK, ↓getR, ↓retK, retv, find, cells, ↓nilpK, ↓nilsK, ↓nilfK, ↓niliK, ↓bndK, ↓cutK, ↓fillK, ↓exitK, List.append_nil, List.drop, List.take, Nat.reduceAdd, Nat.reduceSub, Nat.reduceMul, Nat.reduceLT, Nat.reduceLeDiff, Nat.zero_add, Nat.add_zero, Nat.mul_one, Int.reduceToNat, Nat.reduceEqDiff, Nat.succ_ne_self, Nat.le_refl, Nat.one_ne_zero, Nat.reduceBEq, Nat.lt_irrefl, List.length_append, Int.toNat_zero, Int.toNat_one, List.take_zero, List.drop_zero, Nat.zero_mul, sel, rest, keyIn, ↓reduceIte, ↓if_pos, ↓if_neg, reduceCtorEq, Bool.not_true, Bool.not_false, Bool.false_eq_true, Bool.true_eq_false, and_self, and_true, true_and, false_and, and_false, decide_true, decide_false, decide_eq_true, decide_eq_false, decide_eq_true_eq, decide_eq_false_iff_not, Bool.not_eq_true, Bool.not_eq_false, Bool.not_eq_eq_eq_not, Decidable.not_not, eA, scal1, List.all_cons, List.all_nil, Bool.and_self, e3, e4, e5]
  repeat ((first | refine call0 100 trivial trivial (by first | exact c) (by first | exact .inl rfl | exact .inr rfl) (fun A eA => ?_) | refine call1 100 trivial trivial (by first | exact c) (fun A eA => ?_)); simp (disch := first | omega | (simp only [avs_len, List.length_cons, List.length_append, List.length_nil, List.length_take, List.length_drop, List.length_map]; omega)) only [c_ref04_VSame, ↓advStep, ↓execK, ↓opK, ↓binK, ↓intK, ↓strK, evs, ev, getT, setT, put, List.replicate, List.cons_append, List.nil_append, List.length_cons, List.length_nil, ↓mapK, ↓frzK_sl, ↓frzK_agg, ↓frzK_tup, ↓frzK_ifc, ↓frzK_func, ↓frzK_int, ↓frzK_bool, ↓frzK_str, ↓frzK_nilp, ↓frzK_nils, ↓frzK_nilm, ↓frzK_nilf, ↓frzK_nili, ↓frzK_fz, ↓frzK_any, ↓frzK_ptr, ↓frzK_ro, ↓getB, setB, kill, killM, dropK, keysOf, capOf_nn, zeroC, bump, frzT, thaw, gets, putAll, ↓getsK, ↓getR, ↓retK, retv, find, cells, ↓nilpK, ↓nilsK, ↓nilfK, ↓niliK, ↓bndK, ↓cutK, ↓fillK, ↓exitK, List.append_nil, List.drop, List.take, Nat.reduceAdd, Nat.reduceSub, Nat.reduceMul, Nat.reduceLT, Nat.reduceLeDiff, Nat.zero_add, Nat.add_zero, Nat.mul_one, Int.reduceToNat, Nat.reduceEqDiff, Nat.succ_ne_self, Nat.le_refl, Nat.one_ne_zero, Nat.reduceBEq, Nat.lt_irrefl, List.length_append, Int.toNat_zero, Int.toNat_one, List.take_zero, List.drop_zero, Nat.zero_mul, sel, rest, keyIn, ↓reduceIte, ↓if_pos, ↓if_neg, reduceCtorEq, Bool.not_true, Bool.not_false, Bool.false_eq_true, Bool.true_eq_false, and_self, and_true, true_and, false_and, and_false, decide_true, decide_false, decide_eq_true, decide_eq_false, decide_eq_true_eq, decide_eq_false_iff_not, Bool.not_eq_true, Bool.not_eq_false, Bool.not_eq_eq_eq_not, Decidable.not_not, eA, scal1, List.all_cons, List.all_nil, Bool.and_self])
  exact doneG rfl
theorem xcloneT_rt {t : ET} (h : XRt t) : xcloneT t = t := by
  obtain ⟨x, rfl, h1, _⟩ := h
  simp [xcloneT, xflatb_true.2 ((xflat_dep 8 x).2 h1)]
theorem vClone_calls (v : Ver) (h : XRt v.event) : PCalls Try.prog F_version_Clone [vv v] (vv v) := by
  have c := xClone_calls v.event (by have := xrt_size h; omega)
  rw [xcloneT_rt h] at c
  refine calls_version_Clone (walk0 100 trivial (fun A eA => ?_))
  simp (disch := first | omega | (simp only [avs_len, List.length_cons, List.length_append, List.length_nil, List.length_take, List.length_drop, List.length_map]; omega)) only [c_version_Clone, ↓advStep, ↓execK, ↓opK, ↓binK, ↓intK, ↓strK, evs, ev, getT, setT, put, List.replicate, List.cons_append, List.nil_append, List.length_cons, List.length_nil, ↓mapK, ↓frzK_sl, ↓frzK_agg, ↓frzK_tup, ↓frzK_ifc, ↓frzK_func, ↓frzK_int, ↓frzK_bool, ↓frzK_str, ↓frzK_nilp, ↓frzK_nils, ↓frzK_nilm, ↓frzK_nilf, ↓frzK_nili, ↓frzK_fz, ↓frzK_any, ↓frzK_ptr, ↓frzK_ro, ↓getB, setB, kill, killM, dropK, keysOf, capOf_nn, zeroC, bump, frzT, thaw, gets, putAll, ↓getsK, ↓getR, ↓retK, retv, find, cells, ↓nilpK, ↓nilsK, ↓nilfK, ↓niliK, ↓bndK, ↓cutK, ↓fillK, ↓exitK, List.append_nil, List.drop, List.take, Nat.reduceAdd, Nat.reduceSub, Nat.reduceMul, Nat.reduceLT, Nat.reduceLeDiff, Nat.zero_add, Nat.add_zero, Nat.mul_one, Int.reduceToNat, Nat.reduceEqDiff, Nat.succ_ne_self, Nat.le_refl, Nat.one_ne_zero, Nat.reduceBEq, Nat.lt_irrefl, List.length_append, Int.toNat_zero, Int.toNat_one, List.take_zero, List.drop_zero, Nat.zero_mul, sel, rest, keyIn, ↓reduceIte, ↓if_pos, ↓if_neg, reduceCtorEq, Bool.not_true, Bool.not_false, Bool.false_eq_true, Bool.true_eq_false, and_self, and_true, true_and, false_and, and_false, decide_true, decide_false, decide_eq_true, decide_eq_false, decide_eq_true_eq, decide_eq_false_iff_not, Bool.not_eq_true, Bool.not_eq_false, Bool.not_eq_eq_eq_not, Decidable.not_not, eA, scal1, List.all_cons, List.all_nil, Bool.and_self]
  repeat ((first | refine call0 100 trivial trivial (by first | exact c) (by first | exact .inl rfl | exact .inr rfl) (fun A eA => ?_) | refine call1 100 trivial trivial (by first | exact c) (fun A eA => ?_)); simp (disch := first | omega | (simp only [avs_len, List.length_cons, List.length_append, List.length_nil, List.length_take, List.length_drop, List.length_map]; omega)) only [c_version_Clone, ↓advStep, ↓execK, ↓opK, ↓binK, ↓intK, ↓strK, evs, ev, getT, setT, put, List.replicate, List.cons_append, List.nil_append, List.length_cons, List.length_nil, ↓mapK, ↓frzK_sl, ↓frzK_agg, ↓frzK_tup, ↓frzK_ifc, ↓frzK_func, ↓frzK_int, ↓frzK_bool, ↓frzK_str, ↓frzK_nilp, ↓frzK_nils, ↓frzK_nilm, ↓frzK_nilf, ↓frzK_nili, ↓frzK_fz, ↓frzK_any, ↓frzK_ptr, ↓frzK_ro, ↓getB, setB, kill, killM, dropK, keysOf, capOf_nn, zeroC, bump, frzT, thaw, gets, putAll, ↓getsK, ↓getR, ↓retK, retv, find, cells, ↓nilpK, ↓nilsK, ↓nilfK, ↓niliK, ↓bndK, ↓cutK, ↓fillK, ↓exitK, List.append_nil, List.drop, List.take, Nat.reduceAdd, Nat.reduceSub, Nat.reduceMul, Nat.reduceLT, Nat.reduceLeDiff, Nat.zero_add, Nat.add_zero, Nat.mul_one, Int.reduceToNat, Nat.reduceEqDiff, Nat.succ_ne_self, Nat.le_refl, Nat.one_ne_zero, Nat.reduceBEq, Nat.lt_irrefl, List.length_append, Int.toNat_zero, Int.toNat_one, List.take_zero, List.drop_zero, Nat.zero_mul, sel, rest, keyIn, ↓reduceIte, ↓if_pos, ↓if_neg, reduceCtorEq, Bool.not_true, Bool.not_false, Bool.false_eq_true, Bool.true_eq_false, and_self, and_true, true_and, false_and, and_false, decide_true, decide_false, decide_eq_true, decide_eq_false, decide_eq_true_eq, decide_eq_false_iff_not, Bool.not_eq_true, Bool.not_eq_false, Bool.not_eq_eq_eq_not, Decidable.not_not, eA, scal1, List.all_cons, List.all_nil, Bool.and_self])
  exact doneG rfl
end Go.Proofs.Ytmokhopjnjecbab
/- The functions' bodies, compiled; printed by a program of mine (gen.py); that they are is checked here. -/
namespace Go.Proofs.Ytmokhopjnjecbab
open Go.Ev
set_option maxRecDepth 100000

/-- pedlar/event.put: parameters [83, 42, 3], results [], calls codec_Out_Num, codec_Out_Bool, event_put -/
def c_event_put : Cd := (.seq (.reg [⟨(some 4), none, .box, [.t 1]⟩]) (.seq (.reg [⟨(some 7), none, .mv, [.t 0]⟩, ⟨(some 8), none, (.fa 0), [.t 4]⟩, ⟨(some 9), none, .ld1, [.t 8]⟩, ⟨(some 10), none, (.call F_codec_Out_Num 2), [.t 7, .t 9]⟩]) (.seq (.reg [⟨(some 11), none, (.fa 1), [.t 4]⟩, ⟨(some 12), none, .ld1, [.t 11]⟩, ⟨(some 13), none, .len, [.t 12]⟩, ⟨(some 14), none, (.bin .eql), [.t 13, .c (.int .i64 2)]⟩, ⟨(some 15), none, .mv, [.t 14]⟩, ⟨(some 16), (some (15, true)), .mv, [.t 2]⟩, ⟨(some 17), (some (15, true)), (.bin .gtr), [.t 16, .c (.int .i64 1)]⟩, ⟨(some 18), none, .pick, [.t 15, .t 17, .c (.bool false)]⟩, ⟨(some 6), none, .mv, [.t 18]⟩]) (.seq (.reg [⟨(some 19), none, .mv, [.t 0]⟩, ⟨(some 20), none, .mv, [.t 6]⟩, ⟨(some 21), none, (.call F_codec_Out_Bool 2), [.t 19, .t 20]⟩]) (.seq (.reg [⟨(some 22), none, .mv, [.t 6]⟩]) (.cond (.t 22) (.seq (.reg [⟨(some 23), none, .mv, [.t 0]⟩, ⟨(some 24), none, (.fa 1), [.t 4]⟩, ⟨(some 25), none, .ld1, [.t 24]⟩, ⟨(some 26), none, (.ixS 2), [.t 25, .c (.int .i64 0)]⟩, ⟨(some 27), none, (.ldn 2), [.t 26]⟩, ⟨(some 28), none, .mv, [.t 2]⟩, ⟨(some 29), none, (.bin .sub), [.t 28, .c (.int .i64 1)]⟩, ⟨(some 30), none, (.call F_event_put 2), [.t 23, .t 27, .t 29]⟩]) (.reg [⟨(some 31), none, .mv, [.t 0]⟩, ⟨(some 32), none, (.fa 1), [.t 4]⟩, ⟨(some 33), none, .ld1, [.t 32]⟩, ⟨(some 34), none, (.ixS 2), [.t 33, .c (.int .i64 1)]⟩, ⟨(some 35), none, (.ldn 2), [.t 34]⟩, ⟨(some 36), none, .mv, [.t 2]⟩, ⟨(some 37), none, (.bin .sub), [.t 36, .c (.int .i64 1)]⟩, ⟨(some 38), none, (.call F_event_put 2), [.t 31, .t 35, .t 37]⟩])) .skip))))))
theorem comp_event_put : compF Try.prog (mset [] [] []) (cset [] [F_event_put, F_codec_Out_Num, F_codec_Out_Bool] []) (wset [] []) Try.f129 = some c_event_put := by kernel_rfl
theorem ok_event_put : fnOk Try.prog F_event_put = true := by kernel_rfl
theorem calls_event_put {args : List AV} {r : AV} (h : RunsX Try.prog 0 (Gives [] r) [.c c_event_put] (args ++ List.replicate (39 - args.length) (.tup [])) [] zeroC) : PCalls Try.prog F_event_put args r :=
  pcallsF Try.checked.mixed Try.func129 ok_event_put comp_event_put rfl (rs := []) (by kernel_rfl) h
theorem hcalls_event_put {args : List AV} {Hin Hout : Heap} {nx nx2 : Ctr} {r : AV} (φ : Nat) (ks : List (Nat × Nat)) (h : RunsX Try.prog φ (GivesH ks [] r Hout nx2) [.c c_event_put] (args ++ List.replicate (39 - args.length) (.tup [])) Hin nx) : HCalls Try.prog F_event_put args Hin nx r Hout nx2 :=
  hcallsF Try.checked.mixed Try.func129 ok_event_put comp_event_put rfl (rs := []) (by kernel_rfl) φ ks h

/-- pedlar/event.Put: parameters [83, 42], results [], calls event_put -/
def c_event_Put : Cd := (.seq (.reg [⟨(some 3), none, .box, [.t 1]⟩]) (.reg [⟨(some 4), none, .mv, [.t 0]⟩, ⟨(some 5), none, (.ldn 2), [.t 3]⟩, ⟨(some 6), none, (.call F_event_put 2), [.t 4, .t 5, .c (.int .i64 8)]⟩]))
theorem comp_event_Put : compF Try.prog (mset [] [] []) (cset [] [F_event_put] []) (wset [] []) Try.f60 = some c_event_Put := by kernel_rfl
theorem ok_event_Put : fnOk Try.prog F_event_Put = true := by kernel_rfl
theorem calls_event_Put {args : List AV} {r : AV} (h : RunsX Try.prog 0 (Gives [] r) [.c c_event_Put] (args ++ List.replicate (7 - args.length) (.tup [])) [] zeroC) : PCalls Try.prog F_event_Put args r :=
  pcallsF Try.checked.mixed Try.func60 ok_event_Put comp_event_Put rfl (rs := []) (by kernel_rfl) h
theorem hcalls_event_Put {args : List AV} {Hin Hout : Heap} {nx nx2 : Ctr} {r : AV} (φ : Nat) (ks : List (Nat × Nat)) (h : RunsX Try.prog φ (GivesH ks [] r Hout nx2) [.c c_event_Put] (args ++ List.replicate (7 - args.length) (.tup [])) Hin nx) : HCalls Try.prog F_event_Put args Hin nx r Hout nx2 :=
  hcallsF Try.checked.mixed Try.func60 ok_event_Put comp_event_Put rfl (rs := []) (by kernel_rfl) φ ks h

/-- pedlar/event.get: parameters [77, 3], results [.cn 4 2], calls codec_In_Num, codec_In_Bool, event_get -/
def c_event_get : Cd := (.seq (.reg [⟨(some 4), none, (.new [(.int .i64 0), .nils] 4), []⟩]) (.seq (.reg [⟨(some 6), none, .mv, [.t 0]⟩, ⟨(some 7), none, (.call F_codec_In_Num 2), [.t 6]⟩, ⟨(some 8), none, (.bld [(.int .i64 0), .nils] [(0, 1)]), [.t 7]⟩, ⟨(some 5), none, (.new [(.int .i64 0), .nils] 5), []⟩, ⟨none, none, (.st 2), [.t 5, .t 8]⟩]) (.seq (.seq (.reg [⟨(some 9), none, .mv, [.t 0]⟩, ⟨(some 10), none, (.call F_codec_In_Bool 2), [.t 9]⟩, ⟨(some 11), none, .mv, [.t 10]⟩, ⟨(some 12), (some (11, true)), .mv, [.t 1]⟩, ⟨(some 13), (some (11, true)), (.bin .gtr), [.t 12, .c (.int .i64 0)]⟩, ⟨(some 14), none, .pick, [.t 11, .t 13, .c (.bool false)]⟩]) (.cond (.t 14) (.reg [⟨(some 15), none, .mv, [.t 0]⟩, ⟨(some 16), none, .mv, [.t 1]⟩, ⟨(some 17), none, (.bin .sub), [.t 16, .c (.int .i64 1)]⟩, ⟨(some 18), none, (.call F_event_get 2), [.t 15, .t 17]⟩, ⟨(some 19), none, .mv, [.t 0]⟩, ⟨(some 20), none, .mv, [.t 1]⟩, ⟨(some 21), none, (.bin .sub), [.t 20, .c (.int .i64 1)]⟩, ⟨(some 22), none, (.call F_event_get 2), [.t 19, .t 21]⟩, ⟨(some 23), none, (.lit 2 2), [.t 18, .t 22]⟩, ⟨(some 24), none, (.fa 1), [.t 5]⟩, ⟨none, none, (.st 1), [.t 24, .t 23]⟩]) .skip)) (.seq (.reg [⟨(some 25), none, (.ldn 2), [.t 5]⟩, ⟨none, none, (.st 2), [.t 4, .t 25]⟩]) .ret))))
theorem comp_event_get : compF Try.prog (mset [] [] []) (cset [] [F_event_get, F_codec_In_Num, F_codec_In_Bool] []) (wset [] []) Try.f128 = some c_event_get := by kernel_rfl
theorem ok_event_get : fnOk Try.prog F_event_get = true := by kernel_rfl
theorem calls_event_get {args : List AV} {r : AV} (h : RunsX Try.prog 0 (Gives [.cn 4 2] r) [.c c_event_get] (args ++ List.replicate (26 - args.length) (.tup [])) [] zeroC) : PCalls Try.prog F_event_get args r :=
  pcallsF Try.checked.mixed Try.func128 ok_event_get comp_event_get rfl (rs := [.cn 4 2]) (by kernel_rfl) h
theorem hcalls_event_get {args : List AV} {Hin Hout : Heap} {nx nx2 : Ctr} {r : AV} (φ : Nat) (ks : List (Nat × Nat)) (h : RunsX Try.prog φ (GivesH ks [.cn 4 2] r Hout nx2) [.c c_event_get] (args ++ List.replicate (26 - args.length) (.tup [])) Hin nx) : HCalls Try.prog F_event_get args Hin nx r Hout nx2 :=
  hcallsF Try.checked.mixed Try.func128 ok_event_get comp_event_get rfl (rs := [.cn 4 2]) (by kernel_rfl) φ ks h

/-- pedlar/event.Get: parameters [77], results [.cn 2 2, .t 3], calls event_get, codec_In_Bad, event_Right -/
def c_event_Get : Cd := (.seq (.reg [⟨(some 2), none, (.new [(.int .i64 0), .nils] 2), []⟩, ⟨(some 3), none, .mv, [.c (.bool false)]⟩]) (.seq (.reg [⟨(some 5), none, .mv, [.t 0]⟩, ⟨(some 6), none, (.call F_event_get 2), [.t 5, .c (.int .i64 8)]⟩, ⟨(some 4), none, (.new [(.int .i64 0), .nils] 4), []⟩, ⟨none, none, (.st 2), [.t 4, .t 6]⟩]) (.seq (.seq (.reg [⟨(some 7), none, .mv, [.t 0]⟩, ⟨(some 8), none, (.call F_codec_In_Bad 2), [.t 7]⟩, ⟨(some 9), none, .mv, [.t 8]⟩, ⟨(some 10), (some (9, false)), (.ldn 2), [.t 4]⟩, ⟨(some 11), (some (9, false)), (.call F_event_Right 0), [.t 10]⟩, ⟨(some 12), (some (9, false)), .not, [.t 11]⟩, ⟨(some 13), none, .pick, [.t 9, .c (.bool true), .t 12]⟩]) (.cond (.t 13) (.seq (.reg [⟨(some 14), none, (.bld [(.int .i64 0), .nils] []), []⟩, ⟨none, none, (.st 2), [.t 2, .t 14]⟩, ⟨(some 3), none, .mv, [.c (.bool false)]⟩]) .ret) .skip)) (.seq (.reg [⟨(some 15), none, (.ldn 2), [.t 4]⟩, ⟨(some 16), none, .mv, [.t 0]⟩, ⟨(some 17), none, (.eqp true), [.t 16, .c .nilp]⟩, ⟨none, none, (.st 2), [.t 2, .t 15]⟩, ⟨(some 3), none, .mv, [.t 17]⟩]) .ret))))
theorem comp_event_Get : compF Try.prog (mset [] [] []) (cset [] [F_event_get, F_codec_In_Bad] []) (wset [] []) Try.f59 = some c_event_Get := by kernel_rfl
theorem ok_event_Get : fnOk Try.prog F_event_Get = true := by kernel_rfl
theorem calls_event_Get {args : List AV} {r : AV} (h : RunsX Try.prog 0 (Gives [.cn 2 2, .t 3] r) [.c c_event_Get] (args ++ List.replicate (18 - args.length) (.tup [])) [] zeroC) : PCalls Try.prog F_event_Get args r :=
  pcallsF Try.checked.mixed Try.func59 ok_event_Get comp_event_Get rfl (rs := [.cn 2 2, .t 3]) (by kernel_rfl) h
theorem hcalls_event_Get {args : List AV} {Hin Hout : Heap} {nx nx2 : Ctr} {r : AV} (φ : Nat) (ks : List (Nat × Nat)) (h : RunsX Try.prog φ (GivesH ks [.cn 2 2, .t 3] r Hout nx2) [.c c_event_Get] (args ++ List.replicate (18 - args.length) (.tup [])) Hin nx) : HCalls Try.prog F_event_Get args Hin nx r Hout nx2 :=
  hcallsF Try.checked.mixed Try.func59 ok_event_Get comp_event_Get rfl (rs := [.cn 2 2, .t 3]) (by kernel_rfl) φ ks h

/-- pedlar/pedlarlaw05.EventBytes: parameters [42, 76], results [.t 4], calls law05_awake, law05_Few, codec_NewIn, event_Get, ref04_ERight, event_Put, codec_Out_End, codec_In_Done, ref04_ESame -/
def c_law05_EventBytes : Cd := (.seq (.reg [⟨(some 2), none, .box, [.t 0]⟩, ⟨(some 4), none, .mv, [.c (.bool false)]⟩]) (.seq (.seq (.reg [⟨(some 13), none, (.call F_law05_awake 0), []⟩, ⟨(some 14), none, .not, [.t 13]⟩, ⟨(some 15), none, .mv, [.t 14]⟩, ⟨(some 16), (some (15, false)), (.ldn 2), [.t 2]⟩, ⟨(some 17), (some (15, false)), (.call F_law05_Few 0), [.t 16, .c (.int .i64 30)]⟩, ⟨(some 18), (some (15, false)), .not, [.t 17]⟩, ⟨(some 19), none, .pick, [.t 15, .c (.bool true), .t 18]⟩, ⟨(some 20), none, .mv, [.t 19]⟩, ⟨(some 21), (some (20, false)), .mv, [.t 1]⟩, ⟨(some 22), (some (20, false)), .len, [.t 21]⟩, ⟨(some 23), (some (20, false)), (.bin .gtr), [.t 22, .c (.int .i64 500)]⟩, ⟨(some 24), none, .pick, [.t 20, .c (.bool true), .t 23]⟩]) (.cond (.t 24) (.seq (.reg [⟨(some 25), none, (.call F_law05_awake 0), []⟩, ⟨(some 4), none, .mv, [.t 25]⟩]) .ret) .skip)) (.seq (.reg [⟨(some 27), none, .mv, [.t 1]⟩, ⟨(some 28), none, (.call F_codec_NewIn 2), [.t 27]⟩, ⟨(some 29), none, (.call F_event_Get 2), [.t 28]⟩, ⟨(some 26), none, .mv, [.t 29]⟩, ⟨(some 30), none, (.ext 0), [.t 26]⟩, ⟨(some 31), none, (.ext 1), [.t 26]⟩, ⟨(some 5), none, (.new [(.int .i64 0), .nils] 5), []⟩, ⟨none, none, (.st 2), [.t 5, .t 30]⟩, ⟨(some 6), none, .mv, [.t 31]⟩]) (.seq (.seq (.reg [⟨(some 32), none, .mv, [.t 6]⟩, ⟨(some 33), none, .mv, [.t 32]⟩, ⟨(some 34), (some (33, true)), (.ldn 2), [.t 5]⟩, ⟨(some 35), (some (33, true)), (.call F_ref04_ERight 0), [.t 34]⟩, ⟨(some 36), (some (33, true)), .not, [.t 35]⟩, ⟨(some 37), none, .pick, [.t 33, .t 36, .c (.bool false)]⟩, ⟨(some 38), none, .mv, [.t 37]⟩, ⟨(some 39), (some (38, false)), .mv, [.t 6]⟩, ⟨(some 40), (some (38, false)), .not, [.t 39]⟩, ⟨(some 41), (some (38, false)), .mv, [.t 40]⟩, ⟨(some 42), (some (41, true)), (.fa 0), [.t 5]⟩, ⟨(some 43), (some (41, true)), .ld1, [.t 42]⟩, ⟨(some 44), (some (41, true)), (.bin .neq), [.t 43, .c (.int .i64 0)]⟩, ⟨(some 45), (some (41, true)), .mv, [.t 44]⟩, ⟨(some 46), (some (45, false)), (.fa 1), [.t 5]⟩, ⟨(some 47), (some (45, false)), .ld1, [.t 46]⟩, ⟨(some 48), (some (45, false)), .len, [.t 47]⟩, ⟨(some 49), (some (45, false)), (.bin .neq), [.t 48, .c (.int .i64 0)]⟩, ⟨(some 50), (some (41, true)), .pick, [.t 45, .c (.bool true), .t 49]⟩, ⟨(some 51), (some (38, false)), .pick, [.t 41, .t 50, .c (.bool false)]⟩, ⟨(some 52), none, .pick, [.t 38, .c (.bool true), .t 51]⟩]) (.cond (.t 52) (.seq (.reg [⟨(some 4), none, .mv, [.c (.bool false)]⟩]) .ret) .skip)) (.seq (.seq (.reg [⟨(some 53), none, (.ldn 2), [.t 2]⟩, ⟨(some 54), none, (.call F_ref04_ERight 0), [.t 53]⟩, ⟨(some 55), none, .not, [.t 54]⟩]) (.cond (.t 55) (.seq (.reg [⟨(some 4), none, .mv, [.c (.bool true)]⟩]) .ret) .skip)) (.seq (.reg [⟨(some 7), none, (.new [.nils, (.bool false)] 7), []⟩]) (.seq (.reg [⟨(some 56), none, (.ldn 2), [.t 2]⟩, ⟨(some 57), none, (.call F_event_Put 2), [.t 7, .t 56]⟩]) (.seq (.regf [⟨(some 59), none, (.call F_codec_Out_End 2), [.t 7]⟩, ⟨(some 58), none, .mv, [.t 59]⟩, ⟨(some 60), none, (.ext 0), [.t 58]⟩, ⟨(some 61), none, (.ext 1), [.t 58]⟩, ⟨(some 8), none, .mv, [.t 60]⟩, ⟨(some 9), none, .mv, [.t 61]⟩] [8]) (.seq (.reg [⟨(some 62), none, .mv, [.t 8]⟩, ⟨(some 63), none, (.call F_codec_NewIn 2), [.t 62]⟩, ⟨(some 10), none, .mv, [.t 63]⟩]) (.seq (.reg [⟨(some 65), none, .mv, [.t 10]⟩, ⟨(some 66), none, (.call F_event_Get 2), [.t 65]⟩, ⟨(some 64), none, .mv, [.t 66]⟩, ⟨(some 67), none, (.ext 0), [.t 64]⟩, ⟨(some 68), none, (.ext 1), [.t 64]⟩, ⟨(some 11), none, (.new [(.int .i64 0), .nils] 11), []⟩, ⟨none, none, (.st 2), [.t 11, .t 67]⟩, ⟨(some 12), none, .mv, [.t 68]⟩]) (.seq (.reg [⟨(some 69), none, .mv, [.t 9]⟩, ⟨(some 70), none, (.bin .eql), [.t 69, .c (.int .i64 0)]⟩, ⟨(some 71), none, .mv, [.t 70]⟩, ⟨(some 72), (some (71, true)), .mv, [.t 12]⟩, ⟨(some 73), none, .pick, [.t 71, .t 72, .c (.bool false)]⟩, ⟨(some 74), none, .mv, [.t 73]⟩, ⟨(some 75), (some (74, true)), .mv, [.t 10]⟩, ⟨(some 76), (some (74, true)), (.call F_codec_In_Done 2), [.t 75]⟩, ⟨(some 77), none, .pick, [.t 74, .t 76, .c (.bool false)]⟩, ⟨(some 78), none, .mv, [.t 77]⟩, ⟨(some 79), (some (78, true)), (.ldn 2), [.t 11]⟩, ⟨(some 80), (some (78, true)), (.ldn 2), [.t 2]⟩, ⟨(some 81), (some (78, true)), (.call F_ref04_ESame 0), [.t 79, .t 80]⟩, ⟨(some 82), none, .pick, [.t 78, .t 81, .c (.bool false)]⟩, ⟨(some 4), none, .mv, [.t 82]⟩]) .ret)))))))))))
theorem comp_law05_EventBytes : compF Try.prog (mset [] [] []) (cset [] [F_codec_NewIn, F_event_Get, F_event_Put, F_codec_Out_End, F_codec_In_Done] []) (wset [] [8]) Try.f9 = some c_law05_EventBytes := by kernel_rfl
theorem ok_law05_EventBytes : fnOk Try.prog F_law05_EventBytes = true := by kernel_rfl
theorem calls_law05_EventBytes {args : List AV} {r : AV} (h : RunsX Try.prog 0 (Gives [.t 4] r) [.c c_law05_EventBytes] (args ++ List.replicate (83 - args.length) (.tup [])) [] zeroC) : PCalls Try.prog F_law05_EventBytes args r :=
  pcallsF Try.checked.mixed Try.func9 ok_law05_EventBytes comp_law05_EventBytes rfl (rs := [.t 4]) (by kernel_rfl) h
theorem hcalls_law05_EventBytes {args : List AV} {Hin Hout : Heap} {nx nx2 : Ctr} {r : AV} (φ : Nat) (ks : List (Nat × Nat)) (h : RunsX Try.prog φ (GivesH ks [.t 4] r Hout nx2) [.c c_law05_EventBytes] (args ++ List.replicate (83 - args.length) (.tup [])) Hin nx) : HCalls Try.prog F_law05_EventBytes args Hin nx r Hout nx2 :=
  hcallsF Try.checked.mixed Try.func9 ok_law05_EventBytes comp_law05_EventBytes rfl (rs := [.t 4]) (by kernel_rfl) φ ks h

def tab_CdEvBytes : List (Nat × Cd × Nat × List RS) := [(F_event_put, c_event_put, 39, []), (F_event_Put, c_event_Put, 7, []), (F_event_get, c_event_get, 26, [.cn 4 2]), (F_event_Get, c_event_Get, 18, [.cn 2 2, .t 3]), (F_law05_EventBytes, c_law05_EventBytes, 83, [.t 4])]
theorem tok_CdEvBytes : TabOk Try.prog (tabOf tab_CdEvBytes) := tab_cons calls_event_put hcalls_event_put (tab_cons calls_event_Put hcalls_event_Put (tab_cons calls_event_get hcalls_event_get (tab_cons calls_event_Get hcalls_event_Get (tab_cons calls_law05_EventBytes hcalls_law05_EventBytes (tab_nil)))))
end Go.Proofs.Ytmokhopjnjecbab
/- The functions' bodies, compiled; printed by a program of mine (gen.py); that they are is checked here. -/
namespace Go.Proofs.Ytmokhopjnjecbab
open Go.Ev
set_option maxRecDepth 100000

/-- pedlar/codec.NewIn: parameters [76], results [.t 2], calls bytes_Clone -/
def c_codec_NewIn : Cd := (.seq (.reg [⟨(some 2), none, .mv, [.c .nilp]⟩]) (.seq (.reg [⟨(some 3), none, .mv, [.t 0]⟩, ⟨(some 4), none, (.call F_bytes_Clone 0), [.t 3]⟩, ⟨(some 5), none, (.bld [.nils, (.bool false)] [(0, 1)]), [.t 4]⟩, ⟨(some 6), none, (.boxm 6), [.t 5]⟩, ⟨(some 2), none, .mv, [.t 6]⟩]) .ret))
theorem comp_codec_NewIn : compF Try.prog (mset [6] [] []) (cset [] [] []) (wset [] []) Try.f48 = some c_codec_NewIn := by kernel_rfl
theorem ok_codec_NewIn : fnOk Try.prog F_codec_NewIn = true := by kernel_rfl
theorem calls_codec_NewIn {args : List AV} {r : AV} (h : RunsX Try.prog 0 (Gives [.t 2] r) [.c c_codec_NewIn] (args ++ List.replicate (7 - args.length) (.tup [])) [] zeroC) : PCalls Try.prog F_codec_NewIn args r :=
  pcallsF Try.checked.mixed Try.func48 ok_codec_NewIn comp_codec_NewIn rfl (rs := [.t 2]) (by kernel_rfl) h
theorem hcalls_codec_NewIn {args : List AV} {Hin Hout : Heap} {nx nx2 : Ctr} {r : AV} (φ : Nat) (ks : List (Nat × Nat)) (h : RunsX Try.prog φ (GivesH ks [.t 2] r Hout nx2) [.c c_codec_NewIn] (args ++ List.replicate (7 - args.length) (.tup [])) Hin nx) : HCalls Try.prog F_codec_NewIn args Hin nx r Hout nx2 :=
  hcallsF Try.checked.mixed Try.func48 ok_codec_NewIn comp_codec_NewIn rfl (rs := [.t 2]) (by kernel_rfl) φ ks h

/-- (*pedlar/codec.In).Num: parameters [77], results [.t 2], calls codec_In_fail -/
def wl_codec_In_Num_0 : Mk := ⟨[false, true, true, false, true, true, true, true, true, true, true, true, true, true, true, true, true, false, false, false, true, true, true, true, true, true, true, true, true, true, true, true, true, true, true, true, true, true, true, true, true, true, true, true, true, true, true, true, true, true, true, true, true, true, true, true, true, true, true, true, true, true], []⟩
abbrev s_codec_In_Num_0 (t0 t3 t17 t18 t19 : AV) : List AV := [t0, .any, .any, t3, .any, .any, .any, .any, .any, .any, .any, .any, .any, .any, .any, .any, .any, t17, t18, t19, .any, .any, .any, .any, .any, .any, .any, .any, .any, .any, .any, .any, .any, .any, .any, .any, .any, .any, .any, .any, .any, .any, .any, .any, .any, .any, .any, .any, .any, .any, .any, .any, .any, .any, .any, .any, .any, .any, .any, .any, .any, .any]
def c_codec_In_Num_l0 : Cd := (.seq (.reg [⟨(some 20), none, (.bin .lss), [.t 19, .t 18]⟩]) (.seq (.cond (.t 20) .skip (.exit 0)) (.seq (.blk 1 [] (.seq (.reg [⟨(some 21), none, .mv, [.t 19]⟩, ⟨(some 22), none, (.ixS 1), [.t 17, .t 19]⟩, ⟨(some 23), none, .ld1, [.t 22]⟩, ⟨(some 4), none, .mv, [.t 21]⟩, ⟨(some 5), none, .mv, [.t 23]⟩]) (.seq (.seq (.reg [⟨(some 24), none, .mv, [.t 4]⟩, ⟨(some 25), none, (.bin .geq), [.t 24, .c (.int .i64 9)]⟩]) (.cond (.t 25) (.exit 0) .skip)) (.seq (.reg [⟨(some 26), none, .mv, [.t 3]⟩, ⟨(some 27), none, .mv, [.t 5]⟩, ⟨(some 28), none, (.bin .andNot), [.t 27, .c (.int .u8 128)]⟩, ⟨(some 29), none, (.conv .u64), [.t 28]⟩, ⟨(some 30), none, .mv, [.t 4]⟩, ⟨(some 31), none, (.bin .mul), [.c (.int .i64 7), .t 30]⟩, ⟨(some 32), none, (.bin .shl), [.t 29, .t 31]⟩, ⟨(some 33), none, (.bin .or), [.t 26, .t 32]⟩, ⟨(some 3), none, .mv, [.t 33]⟩]) (.seq (.seq (.reg [⟨(some 34), none, .mv, [.t 5]⟩, ⟨(some 35), none, (.bin .and), [.t 34, .c (.int .u8 128)]⟩, ⟨(some 36), none, (.bin .neq), [.t 35, .c (.int .u8 0)]⟩]) (.cond (.t 36) (.exit 1) .skip)) (.seq (.seq (.reg [⟨(some 37), none, .mv, [.t 5]⟩, ⟨(some 38), none, (.bin .eql), [.t 37, .c (.int .u8 0)]⟩, ⟨(some 39), none, .mv, [.t 38]⟩, ⟨(some 40), (some (39, true)), .mv, [.t 4]⟩, ⟨(some 41), (some (39, true)), (.bin .gtr), [.t 40, .c (.int .i64 0)]⟩, ⟨(some 42), none, .pick, [.t 39, .t 41, .c (.bool false)]⟩, ⟨(some 43), none, .mv, [.t 42]⟩, ⟨(some 44), (some (43, false)), .mv, [.t 3]⟩, ⟨(some 45), (some (43, false)), (.bin .gtr), [.t 44, .c (.int .u64 9223372036854775807)]⟩, ⟨(some 46), none, .pick, [.t 43, .c (.bool true), .t 45]⟩]) (.cond (.t 46) (.exit 0) .skip)) (.seq (.reg [⟨(some 47), none, .mv, [.t 0]⟩, ⟨(some 48), none, .mv, [.t 0]⟩, ⟨(some 49), none, .nck, [.t 48]⟩, ⟨(some 50), none, (.fa 0), [.t 49]⟩, ⟨(some 51), none, .ld1, [.t 50]⟩, ⟨(some 52), none, .mv, [.t 4]⟩, ⟨(some 53), none, (.bin .add), [.t 52, .c (.int .i64 1)]⟩, ⟨(some 54), none, (.slc 1 true false false), [.t 51, .t 53]⟩, ⟨(some 55), none, .nck, [.t 47]⟩, ⟨(some 56), none, (.fa 0), [.t 55]⟩, ⟨none, none, (.st 1), [.t 56, .t 54]⟩]) (.seq (.reg [⟨(some 57), none, .mv, [.t 3]⟩, ⟨(some 58), none, (.conv .i64), [.t 57]⟩, ⟨(some 2), none, .mv, [.t 58]⟩]) .ret)))))))) (.reg [⟨(some 59), none, (.bin .add), [.t 19, .c (.int .i64 1)]⟩, ⟨(some 19), none, .mv, [.t 59]⟩]))))
def wb_codec_In_Num_0 : List Bool := [false, true, true, true, true, true, true, true, true, true, true, true, true, true, true, true, true, true, true, true, true, true, true, true, true, true, true, true, true, true, true, true, true, true, true, true, true, true, true, true, true, true, true, true, true, true, true, true, true, true, true, true, true, true, true, true, true, true, true, true, true, true]
abbrev e_codec_In_Num_0 (t0 : AV) : List AV := [t0, .any, .any, .any, .any, .any, .any, .any, .any, .any, .any, .any, .any, .any, .any, .any, .any, .any, .any, .any, .any, .any, .any, .any, .any, .any, .any, .any, .any, .any, .any, .any, .any, .any, .any, .any, .any, .any, .any, .any, .any, .any, .any, .any, .any, .any, .any, .any, .any, .any, .any, .any, .any, .any, .any, .any, .any, .any, .any, .any, .any, .any]
abbrev i_codec_In_Num_0 : List It := [.lp wl_codec_In_Num_0 c_codec_In_Num_l0, .blk 0 wb_codec_In_Num_0]
def c_codec_In_Num_k0 : Cd := (.seq (.reg [⟨(some 60), none, .mv, [.t 0]⟩, ⟨(some 61), none, (.call F_codec_In_fail 2), [.t 60]⟩, ⟨(some 2), none, .mv, [.t 61]⟩]) .ret)
def c_codec_In_Num : Cd := (.seq (.reg [⟨(some 2), none, .mv, [.c (.int .i64 0)]⟩]) (.seq (.seq (.reg [⟨(some 6), none, .mv, [.t 0]⟩, ⟨(some 7), none, (.eqp false), [.t 6, .c .nilp]⟩, ⟨(some 8), none, .mv, [.t 7]⟩, ⟨(some 9), (some (8, false)), .mv, [.t 0]⟩, ⟨(some 10), (some (8, false)), .nck, [.t 9]⟩, ⟨(some 11), (some (8, false)), (.fa 1), [.t 10]⟩, ⟨(some 12), (some (8, false)), .ld1, [.t 11]⟩, ⟨(some 13), none, .pick, [.t 8, .c (.bool true), .t 12]⟩]) (.cond (.t 13) (.seq (.reg [⟨(some 2), none, .mv, [.c (.int .i64 0)]⟩]) .ret) .skip)) (.seq (.reg [⟨(some 3), none, .mv, [.c (.int .u64 0)]⟩]) (.seq (.seq (.reg [⟨(some 14), none, .mv, [.t 0]⟩, ⟨(some 15), none, .nck, [.t 14]⟩, ⟨(some 16), none, (.fa 0), [.t 15]⟩, ⟨(some 17), none, .ld1, [.t 16]⟩, ⟨(some 18), none, .len, [.t 17]⟩, ⟨(some 19), none, .mv, [.c (.int .i64 0)]⟩]) (.blk 0 wb_codec_In_Num_0 (.loop wl_codec_In_Num_0 c_codec_In_Num_l0))) c_codec_In_Num_k0))))
theorem comp_codec_In_Num : compF Try.prog (mset [] [] []) (cset [] [F_codec_In_fail] []) (wset [(0, wl_codec_In_Num_0, wb_codec_In_Num_0)] []) Try.f156 = some c_codec_In_Num := by kernel_rfl
theorem ok_codec_In_Num : fnOk Try.prog F_codec_In_Num = true := by kernel_rfl
theorem calls_codec_In_Num {args : List AV} {r : AV} (h : RunsX Try.prog 0 (Gives [.t 2] r) [.c c_codec_In_Num] (args ++ List.replicate (62 - args.length) (.tup [])) [] zeroC) : PCalls Try.prog F_codec_In_Num args r :=
  pcallsF Try.checked.mixed Try.func156 ok_codec_In_Num comp_codec_In_Num rfl (rs := [.t 2]) (by kernel_rfl) h
theorem hcalls_codec_In_Num {args : List AV} {Hin Hout : Heap} {nx nx2 : Ctr} {r : AV} (φ : Nat) (ks : List (Nat × Nat)) (h : RunsX Try.prog φ (GivesH ks [.t 2] r Hout nx2) [.c c_codec_In_Num] (args ++ List.replicate (62 - args.length) (.tup [])) Hin nx) : HCalls Try.prog F_codec_In_Num args Hin nx r Hout nx2 :=
  hcallsF Try.checked.mixed Try.func156 ok_codec_In_Num comp_codec_In_Num rfl (rs := [.t 2]) (by kernel_rfl) φ ks h

/-- (*pedlar/codec.In).Text: parameters [77], results [.t 2], calls codec_In_Num, codec_In_fail -/
def c_codec_In_Text : Cd := (.seq (.reg [⟨(some 2), none, .mv, [.c (.str ⟨#[]⟩)]⟩]) (.seq (.reg [⟨(some 5), none, .mv, [.t 0]⟩, ⟨(some 6), none, (.call F_codec_In_Num 2), [.t 5]⟩, ⟨(some 3), none, .mv, [.t 6]⟩]) (.seq (.seq (.reg [⟨(some 7), none, .mv, [.t 0]⟩, ⟨(some 8), none, (.eqp false), [.t 7, .c .nilp]⟩, ⟨(some 9), none, .mv, [.t 8]⟩, ⟨(some 10), (some (9, false)), .mv, [.t 0]⟩, ⟨(some 11), (some (9, false)), .nck, [.t 10]⟩, ⟨(some 12), (some (9, false)), (.fa 1), [.t 11]⟩, ⟨(some 13), (some (9, false)), .ld1, [.t 12]⟩, ⟨(some 14), none, .pick, [.t 9, .c (.bool true), .t 13]⟩]) (.cond (.t 14) (.seq (.reg [⟨(some 2), none, .mv, [.c (.str ⟨#[]⟩)]⟩]) .ret) .skip)) (.seq (.seq (.reg [⟨(some 15), none, .mv, [.t 3]⟩, ⟨(some 16), none, .mv, [.t 0]⟩, ⟨(some 17), none, .nck, [.t 16]⟩, ⟨(some 18), none, (.fa 0), [.t 17]⟩, ⟨(some 19), none, .ld1, [.t 18]⟩, ⟨(some 20), none, .len, [.t 19]⟩, ⟨(some 21), none, (.bin .gtr), [.t 15, .t 20]⟩]) (.cond (.t 21) (.seq (.reg [⟨(some 22), none, .mv, [.t 0]⟩, ⟨(some 23), none, (.call F_codec_In_fail 2), [.t 22]⟩]) (.seq (.reg [⟨(some 2), none, .mv, [.c (.str ⟨#[]⟩)]⟩]) .ret)) .skip)) (.seq (.reg [⟨(some 24), none, .mv, [.t 0]⟩, ⟨(some 25), none, .nck, [.t 24]⟩, ⟨(some 26), none, (.fa 0), [.t 25]⟩, ⟨(some 27), none, .ld1, [.t 26]⟩, ⟨(some 28), none, .mv, [.t 3]⟩, ⟨(some 29), none, (.slc 1 false true false), [.t 27, .t 28]⟩, ⟨(some 30), none, .b2s, [.t 29]⟩, ⟨(some 4), none, .mv, [.t 30]⟩]) (.seq (.reg [⟨(some 31), none, .mv, [.t 0]⟩, ⟨(some 32), none, .mv, [.t 0]⟩, ⟨(some 33), none, .nck, [.t 32]⟩, ⟨(some 34), none, (.fa 0), [.t 33]⟩, ⟨(some 35), none, .ld1, [.t 34]⟩, ⟨(some 36), none, .mv, [.t 3]⟩, ⟨(some 37), none, (.slc 1 true false false), [.t 35, .t 36]⟩, ⟨(some 38), none, .nck, [.t 31]⟩, ⟨(some 39), none, (.fa 0), [.t 38]⟩, ⟨none, none, (.st 1), [.t 39, .t 37]⟩]) (.seq (.reg [⟨(some 40), none, .mv, [.t 4]⟩, ⟨(some 2), none, .mv, [.t 40]⟩]) .ret)))))))
theorem comp_codec_In_Text : compF Try.prog (mset [] [] []) (cset [] [F_codec_In_Num, F_codec_In_fail] []) (wset [] []) Try.f157 = some c_codec_In_Text := by kernel_rfl
theorem ok_codec_In_Text : fnOk Try.prog F_codec_In_Text = true := by kernel_rfl
theorem calls_codec_In_Text {args : List AV} {r : AV} (h : RunsX Try.prog 0 (Gives [.t 2] r) [.c c_codec_In_Text] (args ++ List.replicate (41 - args.length) (.tup [])) [] zeroC) : PCalls Try.prog F_codec_In_Text args r :=
  pcallsF Try.checked.mixed Try.func157 ok_codec_In_Text comp_codec_In_Text rfl (rs := [.t 2]) (by kernel_rfl) h
theorem hcalls_codec_In_Text {args : List AV} {Hin Hout : Heap} {nx nx2 : Ctr} {r : AV} (φ : Nat) (ks : List (Nat × Nat)) (h : RunsX Try.prog φ (GivesH ks [.t 2] r Hout nx2) [.c c_codec_In_Text] (args ++ List.replicate (41 - args.length) (.tup [])) Hin nx) : HCalls Try.prog F_codec_In_Text args Hin nx r Hout nx2 :=
  hcallsF Try.checked.mixed Try.func157 ok_codec_In_Text comp_codec_In_Text rfl (rs := [.t 2]) (by kernel_rfl) φ ks h

/-- (*pedlar/codec.In).Bool: parameters [77], results [.t 2], calls codec_In_Count -/
def c_codec_In_Bool : Cd := (.seq (.reg [⟨(some 2), none, .mv, [.c (.bool false)]⟩]) (.seq (.reg [⟨(some 3), none, .mv, [.t 0]⟩, ⟨(some 4), none, (.call F_codec_In_Count 2), [.t 3, .c (.int .i64 1)]⟩, ⟨(some 5), none, (.bin .eql), [.t 4, .c (.int .i64 1)]⟩, ⟨(some 2), none, .mv, [.t 5]⟩]) .ret))
theorem comp_codec_In_Bool : compF Try.prog (mset [] [] []) (cset [] [F_codec_In_Count] []) (wset [] []) Try.f158 = some c_codec_In_Bool := by kernel_rfl
theorem ok_codec_In_Bool : fnOk Try.prog F_codec_In_Bool = true := by kernel_rfl
theorem calls_codec_In_Bool {args : List AV} {r : AV} (h : RunsX Try.prog 0 (Gives [.t 2] r) [.c c_codec_In_Bool] (args ++ List.replicate (6 - args.length) (.tup [])) [] zeroC) : PCalls Try.prog F_codec_In_Bool args r :=
  pcallsF Try.checked.mixed Try.func158 ok_codec_In_Bool comp_codec_In_Bool rfl (rs := [.t 2]) (by kernel_rfl) h
theorem hcalls_codec_In_Bool {args : List AV} {Hin Hout : Heap} {nx nx2 : Ctr} {r : AV} (φ : Nat) (ks : List (Nat × Nat)) (h : RunsX Try.prog φ (GivesH ks [.t 2] r Hout nx2) [.c c_codec_In_Bool] (args ++ List.replicate (6 - args.length) (.tup [])) Hin nx) : HCalls Try.prog F_codec_In_Bool args Hin nx r Hout nx2 :=
  hcallsF Try.checked.mixed Try.func158 ok_codec_In_Bool comp_codec_In_Bool rfl (rs := [.t 2]) (by kernel_rfl) φ ks h

/-- (*pedlar/codec.In).Count: parameters [77, 3], results [.t 4], calls codec_In_Num, codec_In_fail -/
def c_codec_In_Count : Cd := (.seq (.reg [⟨(some 4), none, .mv, [.c (.int .i64 0)]⟩]) (.seq (.reg [⟨(some 6), none, .mv, [.t 0]⟩, ⟨(some 7), none, (.call F_codec_In_Num 2), [.t 6]⟩, ⟨(some 5), none, .mv, [.t 7]⟩]) (.seq (.seq (.reg [⟨(some 8), none, .mv, [.t 0]⟩, ⟨(some 9), none, (.eqp false), [.t 8, .c .nilp]⟩]) (.cond (.t 9) (.seq (.reg [⟨(some 4), none, .mv, [.c (.int .i64 0)]⟩]) .ret) .skip)) (.seq (.seq (.reg [⟨(some 10), none, .mv, [.t 5]⟩, ⟨(some 11), none, .mv, [.t 1]⟩, ⟨(some 12), none, (.bin .gtr), [.t 10, .t 11]⟩, ⟨(some 13), none, .mv, [.t 12]⟩, ⟨(some 14), (some (13, false)), .mv, [.t 1]⟩, ⟨(some 15), (some (13, false)), (.bin .lss), [.t 14, .c (.int .i64 0)]⟩, ⟨(some 16), none, .pick, [.t 13, .c (.bool true), .t 15]⟩]) (.cond (.t 16) (.seq (.reg [⟨(some 17), none, .mv, [.t 0]⟩, ⟨(some 18), none, (.call F_codec_In_fail 2), [.t 17]⟩]) (.seq (.reg [⟨(some 4), none, .mv, [.c (.int .i64 0)]⟩]) .ret)) .skip)) (.seq (.reg [⟨(some 19), none, .mv, [.t 5]⟩, ⟨(some 4), none, .mv, [.t 19]⟩]) .ret)))))
theorem comp_codec_In_Count : compF Try.prog (mset [] [] []) (cset [] [F_codec_In_Num, F_codec_In_fail] []) (wset [] []) Try.f155 = some c_codec_In_Count := by kernel_rfl
theorem ok_codec_In_Count : fnOk Try.prog F_codec_In_Count = true := by kernel_rfl
theorem calls_codec_In_Count {args : List AV} {r : AV} (h : RunsX Try.prog 0 (Gives [.t 4] r) [.c c_codec_In_Count] (args ++ List.replicate (20 - args.length) (.tup [])) [] zeroC) : PCalls Try.prog F_codec_In_Count args r :=
  pcallsF Try.checked.mixed Try.func155 ok_codec_In_Count comp_codec_In_Count rfl (rs := [.t 4]) (by kernel_rfl) h
theorem hcalls_codec_In_Count {args : List AV} {Hin Hout : Heap} {nx nx2 : Ctr} {r : AV} (φ : Nat) (ks : List (Nat × Nat)) (h : RunsX Try.prog φ (GivesH ks [.t 4] r Hout nx2) [.c c_codec_In_Count] (args ++ List.replicate (20 - args.length) (.tup [])) Hin nx) : HCalls Try.prog F_codec_In_Count args Hin nx r Hout nx2 :=
  hcallsF Try.checked.mixed Try.func155 ok_codec_In_Count comp_codec_In_Count rfl (rs := [.t 4]) (by kernel_rfl) φ ks h

/-- (*pedlar/codec.In).Bad: parameters [77], results [.t 2], calls  -/
def c_codec_In_Bad : Cd := (.seq (.reg [⟨(some 2), none, .mv, [.c (.bool false)]⟩]) (.seq (.reg [⟨(some 3), none, .mv, [.t 0]⟩, ⟨(some 4), none, (.eqp true), [.t 3, .c .nilp]⟩, ⟨(some 5), none, .mv, [.t 4]⟩, ⟨(some 6), (some (5, true)), .mv, [.t 0]⟩, ⟨(some 7), (some (5, true)), .nck, [.t 6]⟩, ⟨(some 8), (some (5, true)), (.fa 1), [.t 7]⟩, ⟨(some 9), (some (5, true)), .ld1, [.t 8]⟩, ⟨(some 10), none, .pick, [.t 5, .t 9, .c (.bool false)]⟩, ⟨(some 2), none, .mv, [.t 10]⟩]) .ret))
theorem comp_codec_In_Bad : compF Try.prog (mset [] [] []) (cset [] [] []) (wset [] []) Try.f50 = some c_codec_In_Bad := by kernel_rfl
theorem ok_codec_In_Bad : fnOk Try.prog F_codec_In_Bad = true := by kernel_rfl
theorem calls_codec_In_Bad {args : List AV} {r : AV} (h : RunsX Try.prog 0 (Gives [.t 2] r) [.c c_codec_In_Bad] (args ++ List.replicate (11 - args.length) (.tup [])) [] zeroC) : PCalls Try.prog F_codec_In_Bad args r :=
  pcallsF Try.checked.mixed Try.func50 ok_codec_In_Bad comp_codec_In_Bad rfl (rs := [.t 2]) (by kernel_rfl) h
theorem hcalls_codec_In_Bad {args : List AV} {Hin Hout : Heap} {nx nx2 : Ctr} {r : AV} (φ : Nat) (ks : List (Nat × Nat)) (h : RunsX Try.prog φ (GivesH ks [.t 2] r Hout nx2) [.c c_codec_In_Bad] (args ++ List.replicate (11 - args.length) (.tup [])) Hin nx) : HCalls Try.prog F_codec_In_Bad args Hin nx r Hout nx2 :=
  hcallsF Try.checked.mixed Try.func50 ok_codec_In_Bad comp_codec_In_Bad rfl (rs := [.t 2]) (by kernel_rfl) φ ks h

/-- (*pedlar/codec.In).Left: parameters [77], results [.t 2], calls  -/
def c_codec_In_Left : Cd := (.seq (.reg [⟨(some 2), none, .mv, [.c (.int .i64 0)]⟩]) (.seq (.seq (.reg [⟨(some 3), none, .mv, [.t 0]⟩, ⟨(some 4), none, (.eqp false), [.t 3, .c .nilp]⟩]) (.cond (.t 4) (.seq (.reg [⟨(some 2), none, .mv, [.c (.int .i64 0)]⟩]) .ret) .skip)) (.seq (.reg [⟨(some 5), none, .mv, [.t 0]⟩, ⟨(some 6), none, .nck, [.t 5]⟩, ⟨(some 7), none, (.fa 0), [.t 6]⟩, ⟨(some 8), none, .ld1, [.t 7]⟩, ⟨(some 9), none, .len, [.t 8]⟩, ⟨(some 2), none, .mv, [.t 9]⟩]) .ret)))
theorem comp_codec_In_Left : compF Try.prog (mset [] [] []) (cset [] [] []) (wset [] []) Try.f114 = some c_codec_In_Left := by kernel_rfl
theorem ok_codec_In_Left : fnOk Try.prog F_codec_In_Left = true := by kernel_rfl
theorem calls_codec_In_Left {args : List AV} {r : AV} (h : RunsX Try.prog 0 (Gives [.t 2] r) [.c c_codec_In_Left] (args ++ List.replicate (10 - args.length) (.tup [])) [] zeroC) : PCalls Try.prog F_codec_In_Left args r :=
  pcallsF Try.checked.mixed Try.func114 ok_codec_In_Left comp_codec_In_Left rfl (rs := [.t 2]) (by kernel_rfl) h
theorem hcalls_codec_In_Left {args : List AV} {Hin Hout : Heap} {nx nx2 : Ctr} {r : AV} (φ : Nat) (ks : List (Nat × Nat)) (h : RunsX Try.prog φ (GivesH ks [.t 2] r Hout nx2) [.c c_codec_In_Left] (args ++ List.replicate (10 - args.length) (.tup [])) Hin nx) : HCalls Try.prog F_codec_In_Left args Hin nx r Hout nx2 :=
  hcallsF Try.checked.mixed Try.func114 ok_codec_In_Left comp_codec_In_Left rfl (rs := [.t 2]) (by kernel_rfl) φ ks h

/-- (*pedlar/codec.In).Done: parameters [77], results [.t 2], calls  -/
def c_codec_In_Done : Cd := (.seq (.reg [⟨(some 2), none, .mv, [.c (.bool false)]⟩]) (.seq (.reg [⟨(some 3), none, .mv, [.t 0]⟩, ⟨(some 4), none, (.eqp true), [.t 3, .c .nilp]⟩, ⟨(some 5), none, .mv, [.t 4]⟩, ⟨(some 6), (some (5, true)), .mv, [.t 0]⟩, ⟨(some 7), (some (5, true)), .nck, [.t 6]⟩, ⟨(some 8), (some (5, true)), (.fa 1), [.t 7]⟩, ⟨(some 9), (some (5, true)), .ld1, [.t 8]⟩, ⟨(some 10), (some (5, true)), .not, [.t 9]⟩, ⟨(some 11), none, .pick, [.t 5, .t 10, .c (.bool false)]⟩, ⟨(some 12), none, .mv, [.t 11]⟩, ⟨(some 13), (some (12, true)), .mv, [.t 0]⟩, ⟨(some 14), (some (12, true)), .nck, [.t 13]⟩, ⟨(some 15), (some (12, true)), (.fa 0), [.t 14]⟩, ⟨(some 16), (some (12, true)), .ld1, [.t 15]⟩, ⟨(some 17), (some (12, true)), .len, [.t 16]⟩, ⟨(some 18), (some (12, true)), (.bin .eql), [.t 17, .c (.int .i64 0)]⟩, ⟨(some 19), none, .pick, [.t 12, .t 18, .c (.bool false)]⟩, ⟨(some 2), none, .mv, [.t 19]⟩]) .ret))
theorem comp_codec_In_Done : compF Try.prog (mset [] [] []) (cset [] [] []) (wset [] []) Try.f53 = some c_codec_In_Done := by kernel_rfl
theorem ok_codec_In_Done : fnOk Try.prog F_codec_In_Done = true := by kernel_rfl
theorem calls_codec_In_Done {args : List AV} {r : AV} (h : RunsX Try.prog 0 (Gives [.t 2] r) [.c c_codec_In_Done] (args ++ List.replicate (20 - args.length) (.tup [])) [] zeroC) : PCalls Try.prog F_codec_In_Done args r :=
  pcallsF Try.checked.mixed Try.func53 ok_codec_In_Done comp_codec_In_Done rfl (rs := [.t 2]) (by kernel_rfl) h
theorem hcalls_codec_In_Done {args : List AV} {Hin Hout : Heap} {nx nx2 : Ctr} {r : AV} (φ : Nat) (ks : List (Nat × Nat)) (h : RunsX Try.prog φ (GivesH ks [.t 2] r Hout nx2) [.c c_codec_In_Done] (args ++ List.replicate (20 - args.length) (.tup [])) Hin nx) : HCalls Try.prog F_codec_In_Done args Hin nx r Hout nx2 :=
  hcallsF Try.checked.mixed Try.func53 ok_codec_In_Done comp_codec_In_Done rfl (rs := [.t 2]) (by kernel_rfl) φ ks h

/-- (*pedlar/codec.In).fail: parameters [77], results [.t 2], calls  -/
def c_codec_In_fail : Cd := (.seq (.reg [⟨(some 2), none, .mv, [.c (.int .i64 0)]⟩]) (.seq (.reg [⟨(some 3), none, .mv, [.t 0]⟩, ⟨(some 4), none, .mv, [.t 0]⟩, ⟨(some 5), none, .nck, [.t 3]⟩, ⟨(some 6), none, (.fa 0), [.t 5]⟩, ⟨none, none, (.st 1), [.t 6, .c .nils]⟩, ⟨(some 7), none, .nck, [.t 4]⟩, ⟨(some 8), none, (.fa 1), [.t 7]⟩, ⟨none, none, (.st 1), [.t 8, .c (.bool true)]⟩]) (.seq (.reg [⟨(some 2), none, .mv, [.c (.int .i64 0)]⟩]) .ret)))
theorem comp_codec_In_fail : compF Try.prog (mset [] [] []) (cset [] [] []) (wset [] []) Try.f176 = some c_codec_In_fail := by kernel_rfl
theorem ok_codec_In_fail : fnOk Try.prog F_codec_In_fail = true := by kernel_rfl
theorem calls_codec_In_fail {args : List AV} {r : AV} (h : RunsX Try.prog 0 (Gives [.t 2] r) [.c c_codec_In_fail] (args ++ List.replicate (9 - args.length) (.tup [])) [] zeroC) : PCalls Try.prog F_codec_In_fail args r :=
  pcallsF Try.checked.mixed Try.func176 ok_codec_In_fail comp_codec_In_fail rfl (rs := [.t 2]) (by kernel_rfl) h
theorem hcalls_codec_In_fail {args : List AV} {Hin Hout : Heap} {nx nx2 : Ctr} {r : AV} (φ : Nat) (ks : List (Nat × Nat)) (h : RunsX Try.prog φ (GivesH ks [.t 2] r Hout nx2) [.c c_codec_In_fail] (args ++ List.replicate (9 - args.length) (.tup [])) Hin nx) : HCalls Try.prog F_codec_In_fail args Hin nx r Hout nx2 :=
  hcallsF Try.checked.mixed Try.func176 ok_codec_In_fail comp_codec_In_fail rfl (rs := [.t 2]) (by kernel_rfl) φ ks h

/-- (*pedlar/codec.Out).Num: parameters [83, 2], results [], calls  -/
def wl_codec_Out_Num_1 : Mk := ⟨[false, false, true, true, true, true, true, true, true, true, true, true, true, true, true, true, true, true, true, true, true, true, true, true, true, true, true, true, true, true, true, true, true, true, true, true, true, true, true, true], []⟩
abbrev s_codec_Out_Num_1 (t0 t1 : AV) : List AV := [t0, t1, .any, .any, .any, .any, .any, .any, .any, .any, .any, .any, .any, .any, .any, .any, .any, .any, .any, .any, .any, .any, .any, .any, .any, .any, .any, .any, .any, .any, .any, .any, .any, .any, .any, .any, .any, .any, .any, .any]
def c_codec_Out_Num_l1 : Cd := (.seq (.seq (.reg [⟨(some 13), none, .mv, [.t 1]⟩, ⟨(some 14), none, (.bin .geq), [.t 13, .c (.int .i64 128)]⟩]) (.cond (.t 14) .skip (.exit 1))) (.seq (.blk 2 [] (.reg [⟨(some 17), none, .mv, [.t 0]⟩, ⟨(some 18), none, .mv, [.t 0]⟩, ⟨(some 19), none, .nck, [.t 18]⟩, ⟨(some 20), none, (.fa 0), [.t 19]⟩, ⟨(some 21), none, .ld1, [.t 20]⟩, ⟨(some 22), none, .mv, [.t 1]⟩, ⟨(some 23), none, (.conv .u8), [.t 22]⟩, ⟨(some 24), none, (.bin .or), [.t 23, .c (.int .u8 128)]⟩, ⟨(some 25), none, (.lit 1 1), [.t 24]⟩, ⟨(some 26), none, (.app 1 1 26), [.t 21, .t 25]⟩, ⟨(some 27), none, .nck, [.t 17]⟩, ⟨(some 28), none, (.fa 0), [.t 27]⟩, ⟨none, none, (.st 1), [.t 28, .t 26]⟩])) (.reg [⟨(some 15), none, .mv, [.t 1]⟩, ⟨(some 16), none, (.bin .shr), [.t 15, .c (.int .u64 7)]⟩, ⟨(some 1), none, .mv, [.t 16]⟩])))
def wb_codec_Out_Num_1 : List Bool := [false, false, true, true, true, true, true, true, true, true, true, true, true, true, true, true, true, true, true, true, true, true, true, true, true, true, true, true, true, true, true, true, true, true, true, true, true, true, true, true]
abbrev e_codec_Out_Num_1 (t0 t1 : AV) : List AV := [t0, t1, .any, .any, .any, .any, .any, .any, .any, .any, .any, .any, .any, .any, .any, .any, .any, .any, .any, .any, .any, .any, .any, .any, .any, .any, .any, .any, .any, .any, .any, .any, .any, .any, .any, .any, .any, .any, .any, .any]
abbrev i_codec_Out_Num_1 : List It := [.lp wl_codec_Out_Num_1 c_codec_Out_Num_l1, .blk 1 wb_codec_Out_Num_1]
def c_codec_Out_Num_k0 : Cd := (.reg [⟨(some 29), none, .mv, [.t 0]⟩, ⟨(some 30), none, .mv, [.t 0]⟩, ⟨(some 31), none, .nck, [.t 30]⟩, ⟨(some 32), none, (.fa 0), [.t 31]⟩, ⟨(some 33), none, .ld1, [.t 32]⟩, ⟨(some 34), none, .mv, [.t 1]⟩, ⟨(some 35), none, (.conv .u8), [.t 34]⟩, ⟨(some 36), none, (.lit 1 1), [.t 35]⟩, ⟨(some 37), none, (.app 1 1 37), [.t 33, .t 36]⟩, ⟨(some 38), none, .nck, [.t 29]⟩, ⟨(some 39), none, (.fa 0), [.t 38]⟩, ⟨none, none, (.st 1), [.t 39, .t 37]⟩])
def c_codec_Out_Num : Cd := (.seq (.blk 0 [] (.seq (.reg [⟨(some 5), none, .mv, [.t 0]⟩, ⟨(some 6), none, (.eqp false), [.t 5, .c .nilp]⟩, ⟨(some 4), none, .mv, [.t 6]⟩]) (.cond (.t 4) .ret (.seq (.reg [⟨(some 8), none, .mv, [.t 1]⟩, ⟨(some 9), none, (.bin .lss), [.t 8, .c (.int .i64 0)]⟩, ⟨(some 7), none, .mv, [.t 9]⟩]) (.cond (.t 7) (.seq (.reg [⟨(some 10), none, .mv, [.t 0]⟩, ⟨(some 11), none, .nck, [.t 10]⟩, ⟨(some 12), none, (.fa 1), [.t 11]⟩, ⟨none, none, (.st 1), [.t 12, .c (.bool true)]⟩]) .ret) .skip))))) (.seq (.blk 1 wb_codec_Out_Num_1 (.loop wl_codec_Out_Num_1 c_codec_Out_Num_l1)) c_codec_Out_Num_k0))
theorem comp_codec_Out_Num : compF Try.prog (mset [] [] []) (cset [] [] []) (wset [(1, wl_codec_Out_Num_1, wb_codec_Out_Num_1)] []) Try.f117 = some c_codec_Out_Num := by kernel_rfl
theorem ok_codec_Out_Num : fnOk Try.prog F_codec_Out_Num = true := by kernel_rfl
theorem calls_codec_Out_Num {args : List AV} {r : AV} (h : RunsX Try.prog 0 (Gives [] r) [.c c_codec_Out_Num] (args ++ List.replicate (40 - args.length) (.tup [])) [] zeroC) : PCalls Try.prog F_codec_Out_Num args r :=
  pcallsF Try.checked.mixed Try.func117 ok_codec_Out_Num comp_codec_Out_Num rfl (rs := []) (by kernel_rfl) h
theorem hcalls_codec_Out_Num {args : List AV} {Hin Hout : Heap} {nx nx2 : Ctr} {r : AV} (φ : Nat) (ks : List (Nat × Nat)) (h : RunsX Try.prog φ (GivesH ks [] r Hout nx2) [.c c_codec_Out_Num] (args ++ List.replicate (40 - args.length) (.tup [])) Hin nx) : HCalls Try.prog F_codec_Out_Num args Hin nx r Hout nx2 :=
  hcallsF Try.checked.mixed Try.func117 ok_codec_Out_Num comp_codec_Out_Num rfl (rs := []) (by kernel_rfl) φ ks h

/-- (*pedlar/codec.Out).Text: parameters [83, 9], results [], calls codec_Out_Num -/
def c_codec_Out_Text : Cd := (.seq (.reg [⟨(some 4), none, .mv, [.t 0]⟩, ⟨(some 5), none, (.eqp true), [.t 4, .c .nilp]⟩]) (.cond (.t 5) (.seq (.reg [⟨(some 6), none, .mv, [.t 0]⟩, ⟨(some 7), none, .mv, [.t 1]⟩, ⟨(some 8), none, .lenT, [.t 7]⟩, ⟨(some 9), none, (.call F_codec_Out_Num 2), [.t 6, .t 8]⟩]) (.reg [⟨(some 10), none, .mv, [.t 0]⟩, ⟨(some 11), none, .mv, [.t 0]⟩, ⟨(some 12), none, .nck, [.t 11]⟩, ⟨(some 13), none, (.fa 0), [.t 12]⟩, ⟨(some 14), none, .ld1, [.t 13]⟩, ⟨(some 15), none, .mv, [.t 1]⟩, ⟨(some 16), none, (.apps 16), [.t 14, .t 15]⟩, ⟨(some 17), none, .nck, [.t 10]⟩, ⟨(some 18), none, (.fa 0), [.t 17]⟩, ⟨none, none, (.st 1), [.t 18, .t 16]⟩])) .skip))
theorem comp_codec_Out_Text : compF Try.prog (mset [] [] []) (cset [] [F_codec_Out_Num] []) (wset [] []) Try.f118 = some c_codec_Out_Text := by kernel_rfl
theorem ok_codec_Out_Text : fnOk Try.prog F_codec_Out_Text = true := by kernel_rfl
theorem calls_codec_Out_Text {args : List AV} {r : AV} (h : RunsX Try.prog 0 (Gives [] r) [.c c_codec_Out_Text] (args ++ List.replicate (19 - args.length) (.tup [])) [] zeroC) : PCalls Try.prog F_codec_Out_Text args r :=
  pcallsF Try.checked.mixed Try.func118 ok_codec_Out_Text comp_codec_Out_Text rfl (rs := []) (by kernel_rfl) h
theorem hcalls_codec_Out_Text {args : List AV} {Hin Hout : Heap} {nx nx2 : Ctr} {r : AV} (φ : Nat) (ks : List (Nat × Nat)) (h : RunsX Try.prog φ (GivesH ks [] r Hout nx2) [.c c_codec_Out_Text] (args ++ List.replicate (19 - args.length) (.tup [])) Hin nx) : HCalls Try.prog F_codec_Out_Text args Hin nx r Hout nx2 :=
  hcallsF Try.checked.mixed Try.func118 ok_codec_Out_Text comp_codec_Out_Text rfl (rs := []) (by kernel_rfl) φ ks h

/-- (*pedlar/codec.Out).Bool: parameters [83, 4], results [], calls codec_Out_Num -/
def c_codec_Out_Bool : Cd := (.seq (.seq (.reg [⟨(some 4), none, .mv, [.t 1]⟩]) (.cond (.t 4) (.seq (.reg [⟨(some 5), none, .mv, [.t 0]⟩, ⟨(some 6), none, (.call F_codec_Out_Num 2), [.t 5, .c (.int .i64 1)]⟩]) .ret) .skip)) (.reg [⟨(some 7), none, .mv, [.t 0]⟩, ⟨(some 8), none, (.call F_codec_Out_Num 2), [.t 7, .c (.int .i64 0)]⟩]))
theorem comp_codec_Out_Bool : compF Try.prog (mset [] [] []) (cset [] [F_codec_Out_Num] []) (wset [] []) Try.f119 = some c_codec_Out_Bool := by kernel_rfl
theorem ok_codec_Out_Bool : fnOk Try.prog F_codec_Out_Bool = true := by kernel_rfl
theorem calls_codec_Out_Bool {args : List AV} {r : AV} (h : RunsX Try.prog 0 (Gives [] r) [.c c_codec_Out_Bool] (args ++ List.replicate (9 - args.length) (.tup [])) [] zeroC) : PCalls Try.prog F_codec_Out_Bool args r :=
  pcallsF Try.checked.mixed Try.func119 ok_codec_Out_Bool comp_codec_Out_Bool rfl (rs := []) (by kernel_rfl) h
theorem hcalls_codec_Out_Bool {args : List AV} {Hin Hout : Heap} {nx nx2 : Ctr} {r : AV} (φ : Nat) (ks : List (Nat × Nat)) (h : RunsX Try.prog φ (GivesH ks [] r Hout nx2) [.c c_codec_Out_Bool] (args ++ List.replicate (9 - args.length) (.tup [])) Hin nx) : HCalls Try.prog F_codec_Out_Bool args Hin nx r Hout nx2 :=
  hcallsF Try.checked.mixed Try.func119 ok_codec_Out_Bool comp_codec_Out_Bool rfl (rs := []) (by kernel_rfl) φ ks h

/-- (*pedlar/codec.Out).End: parameters [83], results [.t 2, .t 3], calls bytes_Clone -/
def c_codec_Out_End : Cd := (.seq (.reg [⟨(some 2), none, .mv, [.c .nils]⟩, ⟨(some 3), none, .mv, [.c (.int .i64 0)]⟩]) (.seq (.seq (.reg [⟨(some 4), none, .mv, [.t 0]⟩, ⟨(some 5), none, (.eqp false), [.t 4, .c .nilp]⟩, ⟨(some 6), none, .mv, [.t 5]⟩, ⟨(some 7), (some (6, false)), .mv, [.t 0]⟩, ⟨(some 8), (some (6, false)), .nck, [.t 7]⟩, ⟨(some 9), (some (6, false)), (.fa 1), [.t 8]⟩, ⟨(some 10), (some (6, false)), .ld1, [.t 9]⟩, ⟨(some 11), none, .pick, [.t 6, .c (.bool true), .t 10]⟩]) (.cond (.t 11) (.seq (.reg [⟨(some 2), none, .mv, [.c .nils]⟩, ⟨(some 3), none, .mv, [.c (.int .i64 1)]⟩]) .ret) .skip)) (.seq (.reg [⟨(some 12), none, .mv, [.t 0]⟩, ⟨(some 13), none, .nck, [.t 12]⟩, ⟨(some 14), none, (.fa 0), [.t 13]⟩, ⟨(some 15), none, .ld1, [.t 14]⟩, ⟨(some 16), none, (.call F_bytes_Clone 2), [.t 15]⟩, ⟨(some 2), none, .mv, [.t 16]⟩, ⟨(some 3), none, .mv, [.c (.int .i64 0)]⟩]) .ret)))
theorem comp_codec_Out_End : compF Try.prog (mset [] [] []) (cset [] [F_bytes_Clone] []) (wset [] []) Try.f52 = some c_codec_Out_End := by kernel_rfl
theorem ok_codec_Out_End : fnOk Try.prog F_codec_Out_End = true := by kernel_rfl
theorem calls_codec_Out_End {args : List AV} {r : AV} (h : RunsX Try.prog 0 (Gives [.t 2, .t 3] r) [.c c_codec_Out_End] (args ++ List.replicate (17 - args.length) (.tup [])) [] zeroC) : PCalls Try.prog F_codec_Out_End args r :=
  pcallsF Try.checked.mixed Try.func52 ok_codec_Out_End comp_codec_Out_End rfl (rs := [.t 2, .t 3]) (by kernel_rfl) h
theorem hcalls_codec_Out_End {args : List AV} {Hin Hout : Heap} {nx nx2 : Ctr} {r : AV} (φ : Nat) (ks : List (Nat × Nat)) (h : RunsX Try.prog φ (GivesH ks [.t 2, .t 3] r Hout nx2) [.c c_codec_Out_End] (args ++ List.replicate (17 - args.length) (.tup [])) Hin nx) : HCalls Try.prog F_codec_Out_End args Hin nx r Hout nx2 :=
  hcallsF Try.checked.mixed Try.func52 ok_codec_Out_End comp_codec_Out_End rfl (rs := [.t 2, .t 3]) (by kernel_rfl) φ ks h

def tab_CdCodec : List (Nat × Cd × Nat × List RS) := [(F_codec_NewIn, c_codec_NewIn, 7, [.t 2]), (F_codec_In_Num, c_codec_In_Num, 62, [.t 2]), (F_codec_In_Text, c_codec_In_Text, 41, [.t 2]), (F_codec_In_Bool, c_codec_In_Bool, 6, [.t 2]), (F_codec_In_Count, c_codec_In_Count, 20, [.t 4]), (F_codec_In_Bad, c_codec_In_Bad, 11, [.t 2]), (F_codec_In_Left, c_codec_In_Left, 10, [.t 2]), (F_codec_In_Done, c_codec_In_Done, 20, [.t 2]), (F_codec_In_fail, c_codec_In_fail, 9, [.t 2]), (F_codec_Out_Num, c_codec_Out_Num, 40, []), (F_codec_Out_Text, c_codec_Out_Text, 19, []), (F_codec_Out_Bool, c_codec_Out_Bool, 9, []), (F_codec_Out_End, c_codec_Out_End, 17, [.t 2, .t 3])]
theorem tok_CdCodec : TabOk Try.prog (tabOf tab_CdCodec) := tab_cons calls_codec_NewIn hcalls_codec_NewIn (tab_cons calls_codec_In_Num hcalls_codec_In_Num (tab_cons calls_codec_In_Text hcalls_codec_In_Text (tab_cons calls_codec_In_Bool hcalls_codec_In_Bool (tab_cons calls_codec_In_Count hcalls_codec_In_Count (tab_cons calls_codec_In_Bad hcalls_codec_In_Bad (tab_cons calls_codec_In_Left hcalls_codec_In_Left (tab_cons calls_codec_In_Done hcalls_codec_In_Done (tab_cons calls_codec_In_fail hcalls_codec_In_fail (tab_cons calls_codec_Out_Num hcalls_codec_Out_Num (tab_cons calls_codec_Out_Text hcalls_codec_Out_Text (tab_cons calls_codec_Out_Bool hcalls_codec_Out_Bool (tab_cons calls_codec_Out_End hcalls_codec_Out_End (tab_nil)))))))))))))
end Go.Proofs.Ytmokhopjnjecbab
/- Contracts over a heap: a cell that may be nil, told as what it is; a cell told less. -/
namespace Go.Ev
set_option linter.unusedVariables false

theorem Lof_head {f d g : Nat} {cs cs' : List AV} {H : Heap} {bm : Nat → Nat → Nat} : Lof ((f, d, g, some cs) :: H) bm = Lof ((f, d, g, some cs') :: H) bm := by
  funext f1 d1 g1 b
  apply propext
  simp only [Lof, find]
  by_cases e : d = d1 ∧ f = f1
  · simp [e]
  · simp only [if_neg e]
theorem Own_head {f d g : Nat} {cs cs' : List AV} {H : Heap} {bm : Nat → Nat → Nat} : Own ((f, d, g, some cs) :: H) bm = Own ((f, d, g, some cs') :: H) bm := by
  funext b
  apply propext
  simp only [Own, find]
  constructor
  · rintro ⟨f1, d1, g1, cs1, h, rfl⟩
    by_cases e : d = d1 ∧ f = f1
    · exact ⟨f1, d1, g, cs', by simp [e], rfl⟩
    · rw [if_neg e] at h; exact ⟨f1, d1, g1, cs1, by simp only [if_neg e]; exact h, rfl⟩
  · rintro ⟨f1, d1, g1, cs1, h, rfl⟩
    by_cases e : d = d1 ∧ f = f1
    · exact ⟨f1, d1, g, cs, by simp [e], rfl⟩
    · rw [if_neg e] at h; exact ⟨f1, d1, g1, cs1, by simp only [if_neg e]; exact h, rfl⟩
/-- The head's cells, told otherwise. -/
theorem Rel.recell {w0 : World} {O X : Nat → Prop} {bm : Nat → Nat → Nat} {f d g : Nat} {cs cs' : List AV} {H : Heap} {nx : Ctr} {w : World} (r : Rel w0 O X bm ((f, d, g, some cs) :: H) nx w)
    (hl : cs'.length = cs.length) (h : ∀ (j : Nat) x' v, cs'[j]? = some x' → (∀ x, cs[j]? = some x → Rep (Lof ((f, d, g, some cs) :: H) bm) X nx w false x v) → (∃ vs E, w.heap[bm f d]? = some (.cells vs E (0, 0)) ∧ vs.getD j undef = v) → Rep (Lof ((f, d, g, some cs) :: H) bm) X nx w false x' v) :
    Rel w0 O X bm ((f, d, g, some cs') :: H) nx w := by
  have hfind : ∀ f1 d1 g1 cs1, find ((f, d, g, some cs') :: H) f1 d1 = some (g1, some cs1) → (f1 = f ∧ d1 = d ∧ g1 = g ∧ cs1 = cs') ∨ (¬ (d = d1 ∧ f = f1) ∧ find ((f, d, g, some cs) :: H) f1 d1 = some (g1, some cs1)) := by
    intro f1 d1 g1 cs1 h
    by_cases e : d = d1 ∧ f = f1
    · obtain ⟨rfl, rfl⟩ := e
      simp [find] at h
      exact .inl ⟨rfl, rfl, h.1.symm, h.2.symm⟩
    · refine .inr ⟨e, ?_⟩
      simp only [find, if_neg e] at h ⊢; exact h
  have hh : find ((f, d, g, some cs) :: H) f d = some (g, some cs) := by simp [find]
  have hex : ∀ f1 d1 g1 cs1, find ((f, d, g, some cs') :: H) f1 d1 = some (g1, some cs1) → ∃ cs2, find ((f, d, g, some cs) :: H) f1 d1 = some (g1, some cs2) := by
    intro f1 d1 g1 cs1 h
    rcases hfind _ _ _ _ h with ⟨rfl, rfl, rfl, rfl⟩ | ⟨_, h⟩
    · exact ⟨cs, hh⟩
    · exact ⟨_, h⟩
  refine ⟨?_, ?_, ?_, ?_, r.os, r.tape, r.output, r.size, r.keep, r.xlt⟩
  · intro f1 d1 g1 cs1 h1
    rw [Lof_head (cs' := cs)]
    rcases hfind _ _ _ _ h1 with ⟨rfl, rfl, rfl, rfl⟩ | ⟨_, h1⟩
    · obtain ⟨vs, E, hb, hle, hrep⟩ := r.blk _ _ _ _ hh
      refine ⟨vs, E, hb, by omega, fun j x' hj => ?_⟩
      have hj' : j < cs.length := by have := (List.getElem?_eq_some_iff.1 hj).1; omega
      have h2 := hrep j _ (List.getElem?_eq_getElem hj')
      exact ⟨h j x' _ hj (fun x hx => (hrep j x hx).1) ⟨vs, E, hb, rfl⟩, h2.2⟩
    · exact r.blk _ _ _ _ h1
  · intro f1 d1 g1 cs1 f2 d2 g2 cs2 h1 h2 he
    obtain ⟨a, h1⟩ := hex _ _ _ _ h1
    obtain ⟨b, h2⟩ := hex _ _ _ _ h2
    exact r.inj _ _ _ _ _ _ _ _ h1 h2 he
  · intro f1 d1 g1 b h1
    by_cases e : d = d1 ∧ f = f1
    · obtain ⟨rfl, rfl⟩ := e
      simp [find] at h1
      have := r.gen _ _ _ _ hh
      omega
    · simp only [find, if_neg e] at h1
      exact r.gen f1 d1 g1 b (by simp only [find, if_neg e]; exact h1)
  · intro f1 d1 g1 cs1 h1
    obtain ⟨a, h1⟩ := hex _ _ _ _ h1
    exact r.own _ _ _ _ h1
/-- A cell that may be nil. -/
theorem HCalls.nil {P : Program} {F f d g sz : Nat} {pre post : List AV} {args : List AV} {H Hout : Heap} {nx nx' : Ctr} {r : AV}
    (h1 : HCalls P F args ((f, d, g, some (pre ++ .nils :: post)) :: H) nx r Hout nx') (h2 : ∀ c, HCalls P F args ((f, d, g, some (pre ++ .fz sz [] (some c) :: post)) :: H) nx r Hout nx') :
    HCalls P F args ((f, d, g, some (pre ++ .fz sz [] none :: post)) :: H) nx r Hout nx' := by
  refine ⟨h1.ok, fun X w bm vals hr ha => ?_⟩
  obtain ⟨vs, E, hb, hle, hrep⟩ := hr.blk f d g _ (by simp [find]; rfl)
  have hm : (pre ++ AV.fz sz [] none :: post)[pre.length]? = some (.fz sz [] none) := by simp
  have key : ∀ x, Rep (Lof ((f, d, g, some (pre ++ .fz sz [] none :: post)) :: H) bm) X nx w false x (vs.getD pre.length undef) → Rel w (Own ((f, d, g, some (pre ++ x :: post)) :: H) bm) X bm ((f, d, g, some (pre ++ x :: post)) :: H) nx w := by
    intro x hx
    rw [Own_head (cs' := pre ++ .fz sz [] none :: post)]
    refine hr.recell (by simp) (fun j x' v hj hv hvs => ?_)
    obtain ⟨vs', E', hb', rfl⟩ := hvs
    rw [hb] at hb'; simp only [Option.some.injEq, Obj.cells.injEq] at hb'; obtain ⟨rfl, rfl, _⟩ := hb'
    by_cases hjp : j = pre.length
    · subst hjp
      simp at hj; subst hj; exact hx
    · refine hv x' ?_
      rcases Nat.lt_or_ge j pre.length with hl | hl
      · rw [List.getElem?_append_left hl] at hj ⊢; exact hj
      · rw [List.getElem?_append_right hl] at hj ⊢
        obtain ⟨k, hk⟩ : ∃ k, j - pre.length = k + 1 := ⟨j - pre.length - 1, by omega⟩
        rw [hk] at hj ⊢; exact hj
  rcases nil_or (hrep _ _ hm).1 with a | ⟨c, a⟩
  · have := h1.calls X w bm vals (key _ a) (by rw [Lof_head (cs' := pre ++ .fz sz [] none :: post)]; exact ha)
    rw [Lof_head (cs' := pre ++ .fz sz [] none :: post), Own_head (cs' := pre ++ .fz sz [] none :: post)] at this
    exact this
  · have := (h2 c).calls X w bm vals (key _ a) (by rw [Lof_head (cs' := pre ++ .fz sz [] none :: post)]; exact ha)
    rw [Lof_head (cs' := pre ++ .fz sz [] none :: post), Own_head (cs' := pre ++ .fz sz [] none :: post)] at this
    exact this
/-- A cell of what comes out, told less. -/
theorem HCalls.out {P : Program} {F f d g : Nat} {pre post : List AV} {x y : AV} {args : List AV} {Hin H : Heap} {nx nx' : Ctr} {r : AV} (hw : Wk1 x y)
    (h : HCalls P F args Hin nx r ((f, d, g, some (pre ++ x :: post)) :: H) nx') : HCalls P F args Hin nx r ((f, d, g, some (pre ++ y :: post)) :: H) nx' := by
  refine ⟨h.ok, fun X w bm vals hr ha => (h.calls X w bm vals hr ha).mono fun e w' he => ?_⟩
  obtain ⟨v, bm', h1, h2, h3, h4⟩ := he
  rw [Lof_head (cs' := pre ++ y :: post)] at h3 h4
  refine ⟨v, bm', h1, ?_, h3, h4⟩
  refine h2.recell (by simp) (fun j x' v hj hv hvs => ?_)
  by_cases hjp : j = pre.length
  · subst hjp
    simp at hj; subst hj
    exact hw _ _ _ _ _ _ (hv x (by simp))
  · refine hv x' ?_
    rcases Nat.lt_or_ge j pre.length with hl | hl
    · rw [List.getElem?_append_left hl] at hj ⊢; exact hj
    · rw [List.getElem?_append_right hl] at hj ⊢
      obtain ⟨k, hk⟩ : ∃ k, j - pre.length = k + 1 := ⟨j - pre.length - 1, by omega⟩
      rw [hk] at hj ⊢; exact hj
/-- A cell of what goes in, told more. -/
theorem HCalls.inn {P : Program} {F f d g : Nat} {pre post : List AV} {x y : AV} {args : List AV} {H Hout : Heap} {nx nx' : Ctr} {r : AV} (hw : Wk1 x y)
    (h : HCalls P F args ((f, d, g, some (pre ++ y :: post)) :: H) nx r Hout nx') : HCalls P F args ((f, d, g, some (pre ++ x :: post)) :: H) nx r Hout nx' := by
  refine ⟨h.ok, fun X w bm vals hr ha => ?_⟩
  have hr' : Rel w (Own ((f, d, g, some (pre ++ y :: post)) :: H) bm) X bm ((f, d, g, some (pre ++ y :: post)) :: H) nx w := by
    rw [Own_head (cs' := pre ++ x :: post)]
    refine hr.recell (by simp) (fun j x' v hj hv hvs => ?_)
    by_cases hjp : j = pre.length
    · subst hjp
      simp at hj; subst hj
      exact hw _ _ _ _ _ _ (hv x (by simp))
    · refine hv x' ?_
      rcases Nat.lt_or_ge j pre.length with hl | hl
      · rw [List.getElem?_append_left hl] at hj ⊢; exact hj
      · rw [List.getElem?_append_right hl] at hj ⊢
        obtain ⟨k, hk⟩ : ∃ k, j - pre.length = k + 1 := ⟨j - pre.length - 1, by omega⟩
        rw [hk] at hj ⊢; exact hj
  have := h.calls X w bm vals hr' (by rw [Lof_head (cs' := pre ++ x :: post)]; exact ha)
  rw [Lof_head (cs' := pre ++ x :: post), Own_head (cs' := pre ++ x :: post)] at this
  exact this
theorem find_nil (f d : Nat) : find [] f d = none := rfl
/-- What is called with values that lead to nothing of ours. -/
theorem PCalls.h {P : Program} {F : Nat} {args args' : List AV} {r : AV} (h : PCalls P F args' r) (nx : Ctr) (hf : mapK (frzK 9 []) args (fun vs i => some (vs, i)) none = some (args', [])) : HCalls P F args [] nx r [] nx := by
  refine ⟨h.ok, fun X w bm vals hr ha => ?_⟩
  obtain ⟨cs', ids, h2, _, _, g⟩ := frz_map (fun v val _ ok r h1 h2 => frz_ok hr 9 v val ok r h1 h2) args vals _ _ ha hf
  simp only [Option.some.injEq, Prod.mk.injEq] at h2
  obtain ⟨rfl, rfl⟩ := h2
  have := g none4 zeroC (by intro f d g b hb; exact hb.elim)
  refine (h.calls X w vals hr.xlt this).mono ?_
  rintro e w' ⟨v, rfl, bel, rep⟩
  refine ⟨v, bm, rfl, ⟨?_, ?_, ?_, ?_, bel.os, bel.tape, bel.output, bel.size, fun b hb _ => bel.block b hb, hr.xlt⟩, ⟨fun _ => Nat.le_refl _, bel.size, ?_, ?_, ?_, ?_⟩, (rep.sub ?_).weak⟩
  · intro f d g cs h; rw [find_nil] at h; cases h
  · intro f d g cs f' d' g' cs' h; rw [find_nil] at h; cases h
  · intro f d g cs h; rw [find_nil] at h; cases h
  · intro f d g cs h; rw [find_nil] at h; cases h
  · rintro f d g b ⟨⟨cs, h⟩, _⟩; rw [find_nil] at h; cases h
  · rintro f d g b ⟨⟨cs, h⟩, _⟩; rw [find_nil] at h; cases h
  · intro a u hc _
    rw [World.cell?_of_block (w := w) (bel.block _ (World.block_lt_of_cell? w a hc))]; exact hc
  · rintro f d g b vs E ⟨⟨cs, h⟩, _⟩; rw [find_nil] at h; cases h
  · rintro f d g b ⟨⟨cs, h⟩, _⟩; rw [find_nil] at h; cases h
section
variable {P : Program} {φ : Nat} {R : List AV → Heap → Ctr → Prop} {k0 : List It}
theorem call2x {f : Nat} {vs : List AV} {ids : List (Nat × Nat)} {d : Option Nat} {l : List Op} {k : List It} {t : List AV} {H : Heap} {nx : Ctr} {r : AV} {Hout : Heap} (n : Nat) (hk0 : flat k0) (hk : flat k) (ks : List (Nat × Nat)) {Hin Hr : Heap} (hin : sel ks H = Hin) (hre : rest ks H = Hr)
    (hp : ∃ nx', HCalls P f vs Hin nx r Hout nx') (hf : Hr = [] ∨ (nameFree 9 Hr r = true ∧ heapFree Hr Hout = true))
    (h : ∀ (nx' : Ctr) (A : Nat → List It → List AV → Heap → Ctr → Out), (∀ n its t H nx, A (n + 1) its t H nx = advStep φ (A n) its t H nx) → RunsO P φ R k0 (A n (.ops l :: k) (put t d r) (Hout ++ Hr) nx')) : RunsO P φ R k0 (.call f 2 vs ids d l k t H nx) := by
  obtain ⟨nx', hp⟩ := hp
  exact call2 n hk0 hk ks hin hre hp hf (fun A eA => h nx' A eA)
theorem call2p {C : Nat → Prop} {f : Nat} {vs : List AV} {ids : List (Nat × Nat)} {d : Option Nat} {l : List Op} {k : List It} {t : List AV} {H : Heap} {nx : Ctr} {r : AV} {Hout : Nat → Nat → Heap} (n : Nat) (hk0 : flat k0) (hk : flat k) (ks : List (Nat × Nat)) {Hin Hr : Heap} (hin : sel ks H = Hin) (hre : rest ks H = Hr)
    (hp : ∃ key g' nx', C key ∧ HCalls P f vs Hin nx r (Hout key g') nx') (hf : ∀ key g', C key → Hr = [] ∨ (nameFree 9 Hr r = true ∧ heapFree Hr (Hout key g') = true))
    (h : ∀ (key g' : Nat) (nx' : Ctr), C key → ∀ (A : Nat → List It → List AV → Heap → Ctr → Out), (∀ n its t H nx, A (n + 1) its t H nx = advStep φ (A n) its t H nx) → RunsO P φ R k0 (A n (.ops l :: k) (put t d r) (Hout key g' ++ Hr) nx')) : RunsO P φ R k0 (.call f 2 vs ids d l k t H nx) := by
  obtain ⟨key, g', nx', hc, hp⟩ := hp
  exact call2 n hk0 hk ks hin hre hp (hf key g' hc) (fun A eA => h key g' nx' hc A eA)
end
theorem RunsX.wkT {P : Program} {φ : Nat} {R : List AV → Heap → Ctr → Prop} {its : List It} {t t' : List AV} {H : Heap} {nx : Ctr} (hf : flat its) (hw : Wk t t') (h : RunsX P φ R its t' H nx) : RunsX P φ R its t H nx := RunsX.of (.wk hw (h.flatTo hf))
theorem Wk.at1 {x y : AV} (hw : Wk1 x y) (pre post : List AV) : Wk (pre ++ x :: post) (pre ++ y :: post) := fun L X nx w vs h => Reps.arg hw pre vs h
theorem WkH.cell {f d g : Nat} {pre post : List AV} {x y : AV} {H : Heap} (hw : Wk1 x y) : WkH ((f, d, g, some (pre ++ x :: post)) :: H) ((f, d, g, some (pre ++ y :: post)) :: H) := by
  refine ⟨fun bm => Lof_head, fun w0 O X bm nx w r => ?_⟩
  refine r.recell (by simp) (fun j x' v hj hv hvs => ?_)
  by_cases hjp : j = pre.length
  · subst hjp
    simp at hj; subst hj
    exact hw _ _ _ _ _ _ (hv x (by simp))
  · refine hv x' ?_
    rcases Nat.lt_or_ge j pre.length with hl | hl
    · rw [List.getElem?_append_left hl] at hj ⊢; exact hj
    · rw [List.getElem?_append_right hl] at hj ⊢
      obtain ⟨k, hk⟩ : ∃ k, j - pre.length = k + 1 := ⟨j - pre.length - 1, by omega⟩
      rw [hk] at hj ⊢; exact hj
theorem RunsX.wkHeap {P : Program} {φ : Nat} {R : List AV → Heap → Ctr → Prop} {its : List It} {t : List AV} {H H' : Heap} {nx : Ctr} (hf : flat its) (hw : WkH H H') (h : RunsX P φ R its t H' nx) : RunsX P φ R its t H nx := RunsX.of (.wkH hw (h.flatTo hf))
end Go.Ev
/- The functions' bodies, compiled; printed by a program of mine (gen.py); that they are is checked here. -/
namespace Go.Proofs.Ytmokhopjnjecbab
open Go.Ev
set_option maxRecDepth 100000

/-- bytes.Clone: parameters [76], results [.t 2], calls  -/
def c_bytes_Clone : Cd := (.seq (.reg [⟨(some 2), none, .mv, [.c .nils]⟩]) (.seq (.seq (.reg [⟨(some 3), none, .mv, [.t 0]⟩, ⟨(some 4), none, (.eqs false), [.t 3, .c .nils]⟩]) (.cond (.t 4) (.seq (.reg [⟨(some 2), none, .mv, [.c .nils]⟩]) .ret) .skip)) (.seq (.reg [⟨(some 5), none, (.lit 1 0), []⟩, ⟨(some 6), none, .mv, [.t 0]⟩, ⟨(some 7), none, (.app 1 1 7), [.t 5, .t 6]⟩, ⟨(some 2), none, .mv, [.t 7]⟩]) .ret)))
theorem comp_bytes_Clone : compF Try.prog (mset [] [] []) (cset [] [] []) (wset [] []) Try.f113 = some c_bytes_Clone := by kernel_rfl
theorem ok_bytes_Clone : fnOk Try.prog F_bytes_Clone = true := by kernel_rfl
theorem calls_bytes_Clone {args : List AV} {r : AV} (h : RunsX Try.prog 0 (Gives [.t 2] r) [.c c_bytes_Clone] (args ++ List.replicate (8 - args.length) (.tup [])) [] zeroC) : PCalls Try.prog F_bytes_Clone args r :=
  pcallsF Try.checked.mixed Try.func113 ok_bytes_Clone comp_bytes_Clone rfl (rs := [.t 2]) (by kernel_rfl) h
theorem hcalls_bytes_Clone {args : List AV} {Hin Hout : Heap} {nx nx2 : Ctr} {r : AV} (φ : Nat) (ks : List (Nat × Nat)) (h : RunsX Try.prog φ (GivesH ks [.t 2] r Hout nx2) [.c c_bytes_Clone] (args ++ List.replicate (8 - args.length) (.tup [])) Hin nx) : HCalls Try.prog F_bytes_Clone args Hin nx r Hout nx2 :=
  hcallsF Try.checked.mixed Try.func113 ok_bytes_Clone comp_bytes_Clone rfl (rs := [.t 2]) (by kernel_rfl) φ ks h

def tab_CdClone : List (Nat × Cd × Nat × List RS) := [(F_bytes_Clone, c_bytes_Clone, 8, [.t 2])]
theorem tok_CdClone : TabOk Try.prog (tabOf tab_CdClone) := tab_cons calls_bytes_Clone hcalls_bytes_Clone (tab_nil)
end Go.Proofs.Ytmokhopjnjecbab
/- Texts out of rows of bytes: equal just where the rows are. -/
namespace Go.Ev
set_option linter.unusedVariables false

/-- The text of a row of bytes. -/
def bstr (bs : List Nat) : ByteArray := ⟨(bytesOf (avs bs)).toArray⟩
theorem bytesOf_avs (bs : List Nat) : bytesOf (avs bs) = bs.map UInt8.ofNat := by
  induction bs with
  | nil => rfl
  | cons b bs ih => simp only [avs, List.map_cons, bytesOf, Int.toNat_natCast] at ih ⊢; rw [ih]
theorem isBytes_avs {bs : List Nat} (h : ∀ b ∈ bs, b < 256) : isBytes (avs bs) = true := by
  simp only [isBytes, avs, List.all_map, List.all_eq_true]
  intro b hb
  have := h b hb
  simp; omega
theorem map_ofNat_inj : ∀ {a b : List Nat}, (∀ x ∈ a, x < 256) → (∀ x ∈ b, x < 256) → a.map UInt8.ofNat = b.map UInt8.ofNat → a = b
  | [], [], _, _, _ => rfl
  | [], _ :: _, _, _, h => by simp at h
  | _ :: _, [], _, _, h => by simp at h
  | x :: a, y :: b, ha, hb, h => by
    simp only [List.map_cons, List.cons.injEq] at h
    have h1 := ha x (List.mem_cons_self)
    have h2 := hb y (List.mem_cons_self)
    have h3 : x = y := by
      have := congrArg UInt8.toNat h.1
      simp only [UInt8.toNat_ofNat'] at this
      omega
    rw [h3, map_ofNat_inj (fun z hz => ha z (List.mem_cons_of_mem _ hz)) (fun z hz => hb z (List.mem_cons_of_mem _ hz)) h.2]
theorem bstr_beq {a b : List Nat} (ha : ∀ x ∈ a, x < 256) (hb : ∀ x ∈ b, x < 256) : ((bstr a).toList == (bstr b).toList) = decide (a = b) := by
  have e : ∀ l, (bstr l).toList = l.map UInt8.ofNat := fun l => by rw [ByteArray.toList_eq, bstr, bytesOf_avs]
  rw [e, e]
  by_cases h : a = b
  · subst h; simp
  · simp only [h, decide_false, beq_eq_false_iff_ne, ne_eq]
    exact fun h2 => h (map_ofNat_inj ha hb h2)
theorem bstr_size (a : List Nat) : (bstr a).size = a.length := by
  show (bytesOf (avs a)).toArray.size = _
  rw [bytesOf_avs]; simp
end Go.Ev
/- Rows of bytes; the walk through bytes.Clone. -/
namespace Go.Proofs.Ytmokhopjnjecbab
open Go.Ev
set_option linter.unusedVariables false
set_option linter.unusedSimpArgs false
set_option maxRecDepth 100000
variable {R : List AV → Heap → Ctr → Prop} {k : List It} {H : Heap} {nx : Ctr} {φ : Nat}

theorem catCells_avs (bs : List Nat) : catCells (avs bs) = avs bs := by
  induction bs with
  | nil => rfl
  | cons b bs ih => simp only [avs, List.map_cons, catCells, cells] at ih ⊢; rw [ih]; rfl
theorem avs_append (a b : List Nat) : avs a ++ avs b = avs (a ++ b) := by simp [avs]
theorem avs_take (n : Nat) (a : List Nat) : (avs a).take n = avs (a.take n) := by simp [avs]
theorem avs_drop (n : Nat) (a : List Nat) : (avs a).drop n = avs (a.drop n) := by simp [avs]
theorem avs_take_all (n : Nat) (a : List Nat) (h : a.length ≤ n) : (avs a).take n = avs a := by rw [avs_take, List.take_of_length_le h]
theorem avs_cons' (b : Nat) (bs : List Nat) : AV.int .u8 (b : Int) :: avs bs = avs (b :: bs) := rfl
theorem avs_nil' : ([] : List AV) = avs [] := rfl
theorem nilsK_avs {α : Type} (b : Nat) (bs : List Nat) (c : Option Nat) (ok : Bool → α) (bad : α) : nilsK (.fz 1 (avs (b :: bs)) c) ok bad = ok false := rfl
theorem wrap_u8 (a : Nat) : IntKind.u8.wrap (a : Int) = ((a % 256 : Nat) : Int) := by
  simp only [IntKind.wrap, IntKind.signed, IntKind.bits, Bool.false_and, Bool.false_eq_true, if_false]
  omega
/-- A row of bytes that nobody writes. -/
abbrev bv (bs : List Nat) : AV := .fz 1 (avs bs) none
theorem bytesClone_calls (bs : List Nat) (hlen : bs.length ≤ 1099511627776) : PCalls Try.prog F_bytes_Clone [bv bs] (bv bs) := by
  cases bs with
  | nil =>
    refine PCalls.nil (pre := []) (post := []) ?_ (fun c => ?_)
    · refine calls_bytes_Clone (walk0 60 trivial (fun A eA => ?_))
      simp only [c_bytes_Clone, ↓advStep, ↓execK, ↓opK, ↓binK, ↓intK, ↓strK, evs, ev, getT, setT, put, List.replicate, List.cons_append, List.nil_append, List.length_cons, List.length_nil, ↓mapK, ↓frzK_sl, ↓frzK_agg, ↓frzK_tup, ↓frzK_ifc, ↓frzK_func, ↓frzK_int, ↓frzK_bool, ↓frzK_str, ↓frzK_nilp, ↓frzK_nils, ↓frzK_nilm, ↓frzK_nilf, ↓frzK_nili, ↓frzK_fz, ↓frzK_any, ↓frzK_ptr, ↓frzK_ro, ↓getB, setB, kill, killM, dropK, keysOf, capOf_nn, zeroC, bump, frzT, thaw, gets, putAll, ↓getsK, ↓getR, ↓retK, retv, find, cells, ↓nilpK, ↓nilsK, ↓nilfK, ↓niliK, ↓bndK, ↓cutK, ↓fillK, ↓exitK, List.append_nil, List.drop, List.take, Nat.reduceAdd, Nat.reduceSub, Nat.reduceMul, Nat.reduceLT, Nat.reduceLeDiff, Nat.zero_add, Nat.add_zero, Nat.mul_one, Int.reduceToNat, Nat.reduceEqDiff, Nat.succ_ne_self, Nat.le_refl, Nat.one_ne_zero, Nat.reduceBEq, Nat.lt_irrefl, List.length_append, Int.toNat_zero, Int.toNat_one, List.take_zero, List.drop_zero, Nat.zero_mul, sel, rest, keyIn, ↓reduceIte, ↓if_pos, ↓if_neg, reduceCtorEq, Bool.not_true, Bool.not_false, Bool.false_eq_true, Bool.true_eq_false, and_self, and_true, true_and, false_and, and_false, decide_true, decide_false, decide_eq_true, decide_eq_false, decide_eq_true_eq, decide_eq_false_iff_not, Bool.not_eq_true, Bool.not_eq_false, Bool.not_eq_eq_eq_not, Decidable.not_not, ↓appK, eA]
      exact doneW rfl (Wk1.nils 1)
    · refine calls_bytes_Clone (walk0 60 trivial (fun A eA => ?_))
      simp only [c_bytes_Clone, ↓advStep, ↓execK, ↓opK, ↓binK, ↓intK, ↓strK, evs, ev, getT, setT, put, List.replicate, List.cons_append, List.nil_append, List.length_cons, List.length_nil, ↓mapK, ↓frzK_sl, ↓frzK_agg, ↓frzK_tup, ↓frzK_ifc, ↓frzK_func, ↓frzK_int, ↓frzK_bool, ↓frzK_str, ↓frzK_nilp, ↓frzK_nils, ↓frzK_nilm, ↓frzK_nilf, ↓frzK_nili, ↓frzK_fz, ↓frzK_any, ↓frzK_ptr, ↓frzK_ro, ↓getB, setB, kill, killM, dropK, keysOf, capOf_nn, zeroC, bump, frzT, thaw, gets, putAll, ↓getsK, ↓getR, ↓retK, retv, find, cells, ↓nilpK, ↓nilsK, ↓nilfK, ↓niliK, ↓bndK, ↓cutK, ↓fillK, ↓exitK, List.append_nil, List.drop, List.take, Nat.reduceAdd, Nat.reduceSub, Nat.reduceMul, Nat.reduceLT, Nat.reduceLeDiff, Nat.zero_add, Nat.add_zero, Nat.mul_one, Int.reduceToNat, Nat.reduceEqDiff, Nat.succ_ne_self, Nat.le_refl, Nat.one_ne_zero, Nat.reduceBEq, Nat.lt_irrefl, List.length_append, Int.toNat_zero, Int.toNat_one, List.take_zero, List.drop_zero, Nat.zero_mul, sel, rest, keyIn, ↓reduceIte, ↓if_pos, ↓if_neg, reduceCtorEq, Bool.not_true, Bool.not_false, Bool.false_eq_true, Bool.true_eq_false, and_self, and_true, true_and, false_and, and_false, decide_true, decide_false, decide_eq_true, decide_eq_false, decide_eq_true_eq, decide_eq_false_iff_not, Bool.not_eq_true, Bool.not_eq_false, Bool.not_eq_eq_eq_not, Decidable.not_not, ↓appK, eA, allSz]
      exact doneW rfl (Wk1.cap 1 _ _)
  | cons b bs =>
    simp only [List.length_cons] at hlen
    have h1 : ¬ (bs.length + 1 = 0) := by omega
    have h2 : bs.length + 1 ≤ 1099511627776 ∧ bs.length + 1 ≤ 1099511627776 := ⟨hlen, hlen⟩
    have h3 : 0 < bs.length + 1 := by omega
    refine calls_bytes_Clone (walk0 60 trivial (fun A eA => ?_))
    simp only [c_bytes_Clone, ↓advStep, ↓execK, ↓opK, ↓binK, ↓intK, ↓strK, evs, ev, getT, setT, put, List.replicate, List.cons_append, List.nil_append, List.length_cons, List.length_nil, ↓mapK, ↓frzK_sl, ↓frzK_agg, ↓frzK_tup, ↓frzK_ifc, ↓frzK_func, ↓frzK_int, ↓frzK_bool, ↓frzK_str, ↓frzK_nilp, ↓frzK_nils, ↓frzK_nilm, ↓frzK_nilf, ↓frzK_nili, ↓frzK_fz, ↓frzK_any, ↓frzK_ptr, ↓frzK_ro, ↓getB, setB, kill, killM, dropK, keysOf, capOf_nn, zeroC, bump, frzT, thaw, gets, putAll, ↓getsK, ↓getR, ↓retK, retv, find, cells, ↓nilpK, ↓nilsK, ↓nilfK, ↓niliK, ↓bndK, ↓cutK, ↓fillK, ↓exitK, List.append_nil, List.drop, List.take, Nat.reduceAdd, Nat.reduceSub, Nat.reduceMul, Nat.reduceLT, Nat.reduceLeDiff, Nat.zero_add, Nat.add_zero, Nat.mul_one, Int.reduceToNat, Nat.reduceEqDiff, Nat.succ_ne_self, Nat.le_refl, Nat.one_ne_zero, Nat.reduceBEq, Nat.lt_irrefl, List.length_append, Int.toNat_zero, Int.toNat_one, List.take_zero, List.drop_zero, Nat.zero_mul, sel, rest, keyIn, ↓reduceIte, ↓if_pos, ↓if_neg, reduceCtorEq, Bool.not_true, Bool.not_false, Bool.false_eq_true, Bool.true_eq_false, and_self, and_true, true_and, false_and, and_false, decide_true, decide_false, decide_eq_true, decide_eq_false, decide_eq_true_eq, decide_eq_false_iff_not, Bool.not_eq_true, Bool.not_eq_false, Bool.not_eq_eq_eq_not, Decidable.not_not, ↓appK, eA, allSz, bv, ↓nilsK_avs, avs_len, h1, hlen, h3, catCells, catCells_avs]
    refine doneG ?_
    simp (disch := first | omega | (simp only [avs_len, List.length_cons, List.length_append, List.length_nil, List.length_take, List.length_drop, List.length_map]; omega)) only [↓advStep, ↓execK, ↓opK, ↓binK, ↓intK, ↓strK, evs, ev, getT, setT, put, List.replicate, List.cons_append, List.nil_append, List.length_cons, List.length_nil, ↓mapK, ↓frzK_sl, ↓frzK_agg, ↓frzK_tup, ↓frzK_ifc, ↓frzK_func, ↓frzK_int, ↓frzK_bool, ↓frzK_str, ↓frzK_nilp, ↓frzK_nils, ↓frzK_nilm, ↓frzK_nilf, ↓frzK_nili, ↓frzK_fz, ↓frzK_any, ↓frzK_ptr, ↓frzK_ro, ↓getB, setB, kill, killM, dropK, keysOf, capOf_nn, zeroC, bump, frzT, thaw, gets, putAll, ↓getsK, ↓getR, ↓retK, retv, find, cells, ↓nilpK, ↓nilsK, ↓nilfK, ↓niliK, ↓bndK, ↓cutK, ↓fillK, ↓exitK, List.append_nil, List.drop, List.take, Nat.reduceAdd, Nat.reduceSub, Nat.reduceMul, Nat.reduceLT, Nat.reduceLeDiff, Nat.zero_add, Nat.add_zero, Nat.mul_one, Int.reduceToNat, Nat.reduceEqDiff, Nat.succ_ne_self, Nat.le_refl, Nat.one_ne_zero, Nat.reduceBEq, Nat.lt_irrefl, List.length_append, Int.toNat_zero, Int.toNat_one, List.take_zero, List.drop_zero, Nat.zero_mul, sel, rest, keyIn, ↓reduceIte, ↓if_pos, ↓if_neg, reduceCtorEq, Bool.not_true, Bool.not_false, Bool.false_eq_true, Bool.true_eq_false, and_self, and_true, true_and, false_and, and_false, decide_true, decide_false, decide_eq_true, decide_eq_false, decide_eq_true_eq, decide_eq_false_iff_not, Bool.not_eq_true, Bool.not_eq_false, Bool.not_eq_eq_eq_not, Decidable.not_not, avs_len, Nat.sub_zero, avs_take_all, ↓frz_ints, chunk]
theorem bytesClone_hcalls (φ : Nat) (nx : Ctr) (a : AV) (es : List AV) (c : Option Nat) (hlen : es.length + 1 ≤ 1099511627776) :
    HCalls Try.prog F_bytes_Clone [.fz 1 (a :: es) c] [] nx (.sl φ 7 (nx 7) 1 0 (es.length + 1)) [(φ, 7, nx 7, some (catCells (a :: es)))] (bump nx 7) := by
  have h1 : ¬ (es.length + 1 = 0) := by omega
  have h3 : 0 < es.length + 1 := by omega
  refine hcalls_bytes_Clone φ [(φ, 7)] (walk0 60 trivial (fun A eA => ?_))
  simp only [c_bytes_Clone, ↓advStep, ↓execK, ↓opK, ↓binK, ↓intK, ↓strK, evs, ev, getT, setT, put, List.replicate, List.cons_append, List.nil_append, List.length_cons, List.length_nil, ↓mapK, ↓frzK_sl, ↓frzK_agg, ↓frzK_tup, ↓frzK_ifc, ↓frzK_func, ↓frzK_int, ↓frzK_bool, ↓frzK_str, ↓frzK_nilp, ↓frzK_nils, ↓frzK_nilm, ↓frzK_nilf, ↓frzK_nili, ↓frzK_fz, ↓frzK_any, ↓frzK_ptr, ↓frzK_ro, ↓getB, setB, kill, killM, dropK, keysOf, capOf_nn, zeroC, bump, frzT, thaw, gets, putAll, ↓getsK, ↓getR, ↓retK, retv, find, cells, ↓nilpK, ↓nilsK, ↓nilfK, ↓niliK, ↓bndK, ↓cutK, ↓fillK, ↓exitK, List.append_nil, List.drop, List.take, Nat.reduceAdd, Nat.reduceSub, Nat.reduceMul, Nat.reduceLT, Nat.reduceLeDiff, Nat.zero_add, Nat.add_zero, Nat.mul_one, Int.reduceToNat, Nat.reduceEqDiff, Nat.succ_ne_self, Nat.le_refl, Nat.one_ne_zero, Nat.reduceBEq, Nat.lt_irrefl, List.length_append, Int.toNat_zero, Int.toNat_one, List.take_zero, List.drop_zero, Nat.zero_mul, sel, rest, keyIn, ↓reduceIte, ↓if_pos, ↓if_neg, reduceCtorEq, Bool.not_true, Bool.not_false, Bool.false_eq_true, Bool.true_eq_false, and_self, and_true, true_and, false_and, and_false, decide_true, decide_false, decide_eq_true, decide_eq_false, decide_eq_true_eq, decide_eq_false_iff_not, Bool.not_eq_true, Bool.not_eq_false, Bool.not_eq_eq_eq_not, Decidable.not_not, ↓appK, eA, allSz, h1, hlen, h3, catCells]
  refine doneH ?_ ?_ rfl
  · simp only [↓advStep, ↓execK, ↓opK, ↓binK, ↓intK, ↓strK, evs, ev, getT, setT, put, List.replicate, List.cons_append, List.nil_append, List.length_cons, List.length_nil, ↓mapK, ↓frzK_sl, ↓frzK_agg, ↓frzK_tup, ↓frzK_ifc, ↓frzK_func, ↓frzK_int, ↓frzK_bool, ↓frzK_str, ↓frzK_nilp, ↓frzK_nils, ↓frzK_nilm, ↓frzK_nilf, ↓frzK_nili, ↓frzK_fz, ↓frzK_any, ↓frzK_ptr, ↓frzK_ro, ↓getB, setB, kill, killM, dropK, keysOf, capOf_nn, zeroC, bump, frzT, thaw, gets, putAll, ↓getsK, ↓getR, ↓retK, retv, find, cells, ↓nilpK, ↓nilsK, ↓nilfK, ↓niliK, ↓bndK, ↓cutK, ↓fillK, ↓exitK, List.append_nil, List.drop, List.take, Nat.reduceAdd, Nat.reduceSub, Nat.reduceMul, Nat.reduceLT, Nat.reduceLeDiff, Nat.zero_add, Nat.add_zero, Nat.mul_one, Int.reduceToNat, Nat.reduceEqDiff, Nat.succ_ne_self, Nat.le_refl, Nat.one_ne_zero, Nat.reduceBEq, Nat.lt_irrefl, List.length_append, Int.toNat_zero, Int.toNat_one, List.take_zero, List.drop_zero, Nat.zero_mul, sel, rest, keyIn, ↓reduceIte, ↓if_pos, ↓if_neg, reduceCtorEq, Bool.not_true, Bool.not_false, Bool.false_eq_true, Bool.true_eq_false, and_self, and_true, true_and, false_and, and_false, decide_true, decide_false, decide_eq_true, decide_eq_false, decide_eq_true_eq, decide_eq_false_iff_not, Bool.not_eq_true, Bool.not_eq_false, Bool.not_eq_eq_eq_not, Decidable.not_not]
  · simp only [↓advStep, ↓execK, ↓opK, ↓binK, ↓intK, ↓strK, evs, ev, getT, setT, put, List.replicate, List.cons_append, List.nil_append, List.length_cons, List.length_nil, ↓mapK, ↓frzK_sl, ↓frzK_agg, ↓frzK_tup, ↓frzK_ifc, ↓frzK_func, ↓frzK_int, ↓frzK_bool, ↓frzK_str, ↓frzK_nilp, ↓frzK_nils, ↓frzK_nilm, ↓frzK_nilf, ↓frzK_nili, ↓frzK_fz, ↓frzK_any, ↓frzK_ptr, ↓frzK_ro, ↓getB, setB, kill, killM, dropK, keysOf, capOf_nn, zeroC, bump, frzT, thaw, gets, putAll, ↓getsK, ↓getR, ↓retK, retv, find, cells, ↓nilpK, ↓nilsK, ↓nilfK, ↓niliK, ↓bndK, ↓cutK, ↓fillK, ↓exitK, List.append_nil, List.drop, List.take, Nat.reduceAdd, Nat.reduceSub, Nat.reduceMul, Nat.reduceLT, Nat.reduceLeDiff, Nat.zero_add, Nat.add_zero, Nat.mul_one, Int.reduceToNat, Nat.reduceEqDiff, Nat.succ_ne_self, Nat.le_refl, Nat.one_ne_zero, Nat.reduceBEq, Nat.lt_irrefl, List.length_append, Int.toNat_zero, Int.toNat_one, List.take_zero, List.drop_zero, Nat.zero_mul, sel, rest, keyIn, ↓reduceIte, ↓if_pos, ↓if_neg, reduceCtorEq, Bool.not_true, Bool.not_false, Bool.false_eq_true, Bool.true_eq_false, and_self, and_true, true_and, false_and, and_false, decide_true, decide_false, decide_eq_true, decide_eq_false, decide_eq_true_eq, decide_eq_false_iff_not, Bool.not_eq_true, Bool.not_eq_false, Bool.not_eq_eq_eq_not, Decidable.not_not]
theorem bstr_mk (bs : List Nat) : (⟨(bytesOf (avs bs)).toArray⟩ : ByteArray) = bstr bs := rfl
theorem avs_free (bs : List Nat) (H : Heap) : (avs bs).all (nameFree 9 H) = true := by simp [avs, nameFree]
end Go.Proofs.Ytmokhopjnjecbab
/- Numbers by sevens of bits: plain. -/
namespace Go.Ev
set_option linter.unusedVariables false
/-- Sevens of bits, the least first. -/
def lowS : List Nat → Nat
  | [] => 0
  | b :: l => b % 128 + 128 * lowS l
/-- How many bytes a number has that bytes begin with; none: there is none. -/
def takeGo : Nat → List Nat → Option Nat
  | _, [] => none
  | k, b :: l => if 9 ≤ k then none else if 128 ≤ b then takeGo (k + 1) l else if b = 0 ∧ 0 < k then none else some (k + 1)
theorem lowS_append (a b : List Nat) : lowS (a ++ b) = lowS a + 128 ^ a.length * lowS b := by
  induction a with
  | nil => simp [lowS]
  | cons x a ih => simp only [List.cons_append, lowS, ih, List.length_cons, Nat.pow_succ]; rw [Nat.mul_add, ← Nat.mul_assoc, Nat.mul_comm 128 (128 ^ a.length), ← Nat.add_assoc]
theorem lowS_lt (a : List Nat) : lowS a < 128 ^ a.length := by
  induction a with
  | nil => simp [lowS]
  | cons x a ih => simp only [lowS, List.length_cons, Nat.pow_succ]; omega
theorem takeGo_some : ∀ (l : List Nat) (k n : Nat), takeGo k l = some n → k < n ∧ n ≤ 9 ∧ n ≤ k + l.length
  | [], k, n, h => by simp [takeGo] at h
  | b :: l, k, n, h => by
    simp only [takeGo] at h
    split at h
    · cases h
    · split at h
      · have := takeGo_some l (k + 1) n h
        simp only [List.length_cons]; omega
      · split at h
        · cases h
        · simp only [Option.some.injEq] at h; subst h
          simp only [List.length_cons]; omega
theorem ibits_or (k : IntKind) (hk : k.signed = false) (a b : Nat) (ha : a < 2 ^ k.bits) (hb : b < 2 ^ k.bits) : ibits .or k a b = ((a ||| b : Nat) : Int) := by
  simp only [ibits, BitVec.toNat_or, bv_toNat _ _ ha, bv_toNat _ _ hb]
  exact wrap_nat k hk _ (Nat.or_lt_two_pow ha hb)
theorem and128 : ∀ b : Fin 256, ibits .andNot .u8 (b.1 : Int) 128 = ((b.1 % 128 : Nat) : Int) := by decide +kernel
theorem and128' : ∀ b : Fin 256, (ibits .and .u8 (b.1 : Int) 128 = 0) ↔ b.1 < 128 := by decide +kernel
/-- One more seven of bits. -/
theorem or_step (v k x : Nat) (hv : v < 128 ^ k) (hk : k ≤ 8) (hx : x < 128) : ibits .or .u64 (v : Int) ((x * 2 ^ (7 * k) : Nat) : Int) = ((v + 128 ^ k * x : Nat) : Int) := by
  have e : 128 ^ k = 2 ^ (7 * k) := by rw [Nat.pow_mul]
  rw [e] at hv ⊢
  have h1 : 2 ^ (7 * k) ≤ 2 ^ 56 := Nat.pow_le_pow_right (by omega) (by omega)
  have h2 : x * 2 ^ (7 * k) ≤ 127 * 2 ^ 56 := Nat.mul_le_mul (by omega) h1
  rw [ibits_or .u64 rfl v _ (by show _ < 2 ^ 64; omega) (by show _ < 2 ^ 64; omega), Nat.or_comm, Nat.mul_comm x, ← Nat.two_pow_add_eq_or_of_lt hv, Nat.add_comm]
end Go.Ev
/- The walk through what takes bytes apart: a number. -/
-- short
namespace Go.Proofs.Ytmokhopjnjecbab
open Go.Ev
set_option linter.unusedVariables false
set_option linter.unusedSimpArgs false
set_option maxRecDepth 100000
variable {R : List AV → Heap → Ctr → Prop} {k : List It} {H : Heap} {nx : Ctr} {φ : Nat}

/-- The value, and the state behind it. -/
def rvN (bs : List Nat) : Option Nat → Nat
  | some n => lowS (bs.take n)
  | none => 0
def stN (bs : List Nat) : Option Nat → List AV
  | some n => [bv (bs.drop n), .bool false]
  | none => [.nils, .bool true]
theorem fail_h (f d g : Nat) (x : AV) (b : Bool) (nx : Ctr) : HCalls Try.prog F_codec_In_fail [.ptr f d g 0] [(f, d, g, some [x, .bool b])] nx (.int .i64 0) [(f, d, g, some [.nils, .bool true])] nx := by
  refine hcalls_codec_In_fail 1 [(f, d)] (walk0 100 trivial (fun A eA => ?_))
  simp (disch := first | omega | (simp only [avs_len, List.length_cons, List.length_append, List.length_nil, List.length_take, List.length_drop, List.length_map]; omega) | (simp only [cells, scal1, allSz, List.length_cons, List.length_nil, List.length_append, List.length_map, List.all_cons, List.all_nil, avs_len, beq_self_eq_true, Bool.and_self, and_self, or_true, true_or, reduceCtorEq, *]; done) | fail) only [c_codec_In_fail, go_sem, Nat.reduceAdd, Nat.reduceSub, Nat.reduceMul, Nat.reduceLT, Nat.reduceLeDiff, Int.reduceToNat, Nat.reduceEqDiff, Nat.reduceBEq, ↓reduceIte, reduceCtorEq, eA, scal1]
  exact doneH (by simp only [go_sem, Nat.reduceAdd, Nat.reduceSub, Nat.reduceMul, Nat.reduceLT, Nat.reduceLeDiff, Int.reduceToNat, Nat.reduceEqDiff, Nat.reduceBEq, ↓reduceIte, reduceCtorEq]) rfl rfl
theorem takeGo_nine (k : Nat) (l : List Nat) (h : 9 ≤ k) : takeGo k l = none := by
  cases l with
  | nil => rfl
  | cons b l => simp [takeGo, h]
set_option maxHeartbeats 1600000 in
theorem num_loop (bs : List Nat) (hbs : ∀ b ∈ bs, b < 256) (hlen : bs.length ≤ 1099511627776) (f d g : Nat) (nx : Ctr) : ∀ (post pre : List Nat), bs = pre ++ post → pre.length ≤ 9 →
    RunsX Try.prog φ (GivesH [(f, d)] [.t 2] (.int .i64 (rvN bs (takeGo pre.length post) : Nat)) [(f, d, g, some (stN bs (takeGo pre.length post)))] nx) (i_codec_In_Num_0 ++ [.c c_codec_In_Num_k0])
      (s_codec_In_Num_0 (.ptr f d g 0) (.int .u64 (lowS pre : Nat)) (bv bs) (.int .i64 (bs.length : Nat)) (.int .i64 (pre.length : Nat))) [(f, d, g, some [bv bs, .bool false])] nx := by
  intro post
  induction post with
  | nil =>
    intro pre hpre hk9
    rw [List.append_nil] at hpre
    subst hpre
    refine round (its := [.blk 0 wb_codec_In_Num_0]) (k0 := [.c c_codec_In_Num_k0]) 100 trivial trivial (fun A eA => ?_)
    have h1 : ¬ ((bs.length : Int) < bs.length) := by omega
    simp (disch := first | omega | (simp only [avs_len, List.length_cons, List.length_append, List.length_nil, List.length_take, List.length_drop, List.length_map]; omega) | (simp only [cells, scal1, allSz, List.length_cons, List.length_nil, List.length_append, List.length_map, List.all_cons, List.all_nil, avs_len, beq_self_eq_true, Bool.and_self, and_self, or_true, true_or, reduceCtorEq, *]; done) | fail) only [c_codec_In_Num, wl_codec_In_Num_0, s_codec_In_Num_0, c_codec_In_Num_l0, wb_codec_In_Num_0, c_codec_In_Num_k0, go_sem, Nat.reduceAdd, Nat.reduceSub, Nat.reduceMul, Nat.reduceLT, Nat.reduceLeDiff, Int.reduceToNat, Nat.reduceEqDiff, Nat.reduceBEq, ↓reduceIte, reduceCtorEq, eA, h1]
    refine walk0 (its := [.c c_codec_In_Num_k0]) 100 trivial (fun A eA => ?_)
    simp (disch := first | omega | (simp only [avs_len, List.length_cons, List.length_append, List.length_nil, List.length_take, List.length_drop, List.length_map]; omega) | (simp only [cells, scal1, allSz, List.length_cons, List.length_nil, List.length_append, List.length_map, List.all_cons, List.all_nil, avs_len, beq_self_eq_true, Bool.and_self, and_self, or_true, true_or, reduceCtorEq, *]; done) | fail) only [c_codec_In_Num, wl_codec_In_Num_0, s_codec_In_Num_0, c_codec_In_Num_l0, wb_codec_In_Num_0, c_codec_In_Num_k0, go_sem, Nat.reduceAdd, Nat.reduceSub, Nat.reduceMul, Nat.reduceLT, Nat.reduceLeDiff, Int.reduceToNat, Nat.reduceEqDiff, Nat.reduceBEq, ↓reduceIte, reduceCtorEq, eA, h1]
    refine call2 100 trivial trivial [(f, d)] (by simp only [go_sem, Nat.reduceAdd, Nat.reduceSub, Nat.reduceMul, Nat.reduceLT, Nat.reduceLeDiff, Int.reduceToNat, Nat.reduceEqDiff, Nat.reduceBEq, ↓reduceIte, reduceCtorEq] <;> rfl) (by simp only [go_sem, Nat.reduceAdd, Nat.reduceSub, Nat.reduceMul, Nat.reduceLT, Nat.reduceLeDiff, Int.reduceToNat, Nat.reduceEqDiff, Nat.reduceBEq, ↓reduceIte, reduceCtorEq] <;> rfl) (fail_h f d g _ _ _) (.inl rfl) (fun A eA => ?_)
    simp (disch := first | omega | (simp only [avs_len, List.length_cons, List.length_append, List.length_nil, List.length_take, List.length_drop, List.length_map]; omega) | (simp only [cells, scal1, allSz, List.length_cons, List.length_nil, List.length_append, List.length_map, List.all_cons, List.all_nil, avs_len, beq_self_eq_true, Bool.and_self, and_self, or_true, true_or, reduceCtorEq, *]; done) | fail) only [c_codec_In_Num, wl_codec_In_Num_0, s_codec_In_Num_0, c_codec_In_Num_l0, wb_codec_In_Num_0, c_codec_In_Num_k0, go_sem, Nat.reduceAdd, Nat.reduceSub, Nat.reduceMul, Nat.reduceLT, Nat.reduceLeDiff, Int.reduceToNat, Nat.reduceEqDiff, Nat.reduceBEq, ↓reduceIte, reduceCtorEq, eA, h1]
    exact doneH (by simp only [go_sem, Nat.reduceAdd, Nat.reduceSub, Nat.reduceMul, Nat.reduceLT, Nat.reduceLeDiff, Int.reduceToNat, Nat.reduceEqDiff, Nat.reduceBEq, ↓reduceIte, reduceCtorEq]; rfl) rfl rfl
  | cons c post ih =>
    intro pre hpre hk9
    have hl : pre.length < bs.length := by rw [hpre]; simp
    have hc : c < 256 := hbs c (by rw [hpre]; simp)
    have h1 : (pre.length : Int) < bs.length := by omega
    have h2 : ¬ ((pre.length : Int) < 0) := by omega
    have e1 : (avs bs)[pre.length]? = some (.int .u8 (c : Nat)) := by
      rw [avs_get, hpre, List.getElem?_append_right (Nat.le_refl _), Nat.sub_self]; rfl
    have e4 : IntKind.i64.wrap ((pre.length : Int) + 1) = ((pre.length + 1 : Nat) : Int) := by rw [IntKind.wrap_i64]; omega
    by_cases h9 : 9 ≤ pre.length
    · rw [takeGo_nine _ _ h9]
      refine round (its := [.blk 0 wb_codec_In_Num_0]) (k0 := [.c c_codec_In_Num_k0]) 100 trivial trivial (fun A eA => ?_)
      simp (disch := first | omega | (simp only [avs_len, List.length_cons, List.length_append, List.length_nil, List.length_take, List.length_drop, List.length_map]; omega) | (simp only [cells, scal1, allSz, List.length_cons, List.length_nil, List.length_append, List.length_map, List.all_cons, List.all_nil, avs_len, beq_self_eq_true, Bool.and_self, and_self, or_true, true_or, reduceCtorEq, *]; done) | fail) only [c_codec_In_Num, wl_codec_In_Num_0, s_codec_In_Num_0, c_codec_In_Num_l0, wb_codec_In_Num_0, c_codec_In_Num_k0, go_sem, Nat.reduceAdd, Nat.reduceSub, Nat.reduceMul, Nat.reduceLT, Nat.reduceLeDiff, Int.reduceToNat, Nat.reduceEqDiff, Nat.reduceBEq, ↓reduceIte, reduceCtorEq, eA, h1, h2, e1, bv, avs_len, Int.toNat_natCast]
      refine walk0 (its := [.c c_codec_In_Num_k0]) 100 trivial (fun A eA => ?_)
      simp (disch := first | omega | (simp only [avs_len, List.length_cons, List.length_append, List.length_nil, List.length_take, List.length_drop, List.length_map]; omega) | (simp only [cells, scal1, allSz, List.length_cons, List.length_nil, List.length_append, List.length_map, List.all_cons, List.all_nil, avs_len, beq_self_eq_true, Bool.and_self, and_self, or_true, true_or, reduceCtorEq, *]; done) | fail) only [c_codec_In_Num, wl_codec_In_Num_0, s_codec_In_Num_0, c_codec_In_Num_l0, wb_codec_In_Num_0, c_codec_In_Num_k0, go_sem, Nat.reduceAdd, Nat.reduceSub, Nat.reduceMul, Nat.reduceLT, Nat.reduceLeDiff, Int.reduceToNat, Nat.reduceEqDiff, Nat.reduceBEq, ↓reduceIte, reduceCtorEq, eA, h1]
      refine call2 100 trivial trivial [(f, d)] (by simp only [go_sem, Nat.reduceAdd, Nat.reduceSub, Nat.reduceMul, Nat.reduceLT, Nat.reduceLeDiff, Int.reduceToNat, Nat.reduceEqDiff, Nat.reduceBEq, ↓reduceIte, reduceCtorEq] <;> rfl) (by simp only [go_sem, Nat.reduceAdd, Nat.reduceSub, Nat.reduceMul, Nat.reduceLT, Nat.reduceLeDiff, Int.reduceToNat, Nat.reduceEqDiff, Nat.reduceBEq, ↓reduceIte, reduceCtorEq] <;> rfl) (fail_h f d g _ _ _) (.inl rfl) (fun A eA => ?_)
      simp (disch := first | omega | (simp only [avs_len, List.length_cons, List.length_append, List.length_nil, List.length_take, List.length_drop, List.length_map]; omega) | (simp only [cells, scal1, allSz, List.length_cons, List.length_nil, List.length_append, List.length_map, List.all_cons, List.all_nil, avs_len, beq_self_eq_true, Bool.and_self, and_self, or_true, true_or, reduceCtorEq, *]; done) | fail) only [c_codec_In_Num, wl_codec_In_Num_0, s_codec_In_Num_0, c_codec_In_Num_l0, wb_codec_In_Num_0, c_codec_In_Num_k0, go_sem, Nat.reduceAdd, Nat.reduceSub, Nat.reduceMul, Nat.reduceLT, Nat.reduceLeDiff, Int.reduceToNat, Nat.reduceEqDiff, Nat.reduceBEq, ↓reduceIte, reduceCtorEq, eA, h1]
      exact doneH (by simp only [go_sem, Nat.reduceAdd, Nat.reduceSub, Nat.reduceMul, Nat.reduceLT, Nat.reduceLeDiff, Int.reduceToNat, Nat.reduceEqDiff, Nat.reduceBEq, ↓reduceIte, reduceCtorEq]; rfl) rfl rfl
    have hv := lowS_lt pre
    have e2 := and128 ⟨c, hc⟩
    have e3 := and128' ⟨c, hc⟩
    simp only at e2 e3
    have e5 : IntKind.u64.wrap ((c % 128 : Nat) : Int) = ((c % 128 : Nat) : Int) := wrap_nat .u64 rfl _ (by show _ < 2 ^ 64; omega)
    have e6 : IntKind.i64.wrap (7 * (pre.length : Int)) = ((7 * pre.length : Nat) : Int) := by rw [IntKind.wrap_i64]; omega
    have hp : 2 ^ (7 * pre.length) ≤ 2 ^ 56 := Nat.pow_le_pow_right (by omega) (by omega)
    have e7 : ishl .u64 ((c % 128 : Nat) : Int) ((7 * pre.length : Nat) : Int) = ((c % 128 * 2 ^ (7 * pre.length) : Nat) : Int) := by
      unfold ishl
      rw [Int.toNat_natCast, Nat.min_eq_left (by show _ ≤ 64; omega)]
      have h3 : c % 128 * 2 ^ (7 * pre.length) ≤ 127 * 2 ^ 56 := Nat.mul_le_mul (by omega) hp
      rw [show (((c % 128 : Nat) : Int) * 2 ^ (7 * pre.length)) = ((c % 128 * 2 ^ (7 * pre.length) : Nat) : Int) by push_cast; rfl]
      exact wrap_nat .u64 rfl _ (by show _ < 2 ^ 64; omega)
    have e8 := or_step (lowS pre) pre.length (c % 128) hv (by omega) (by omega)
    have e9 : lowS pre + 128 ^ pre.length * (c % 128) = lowS (pre ++ [c]) := by rw [lowS_append]; simp [lowS]
    rw [e9] at e8
    by_cases h128 : 128 ≤ c
    · have et : takeGo pre.length (c :: post) = takeGo (pre.length + 1) post := by simp [takeGo, h9, h128]
      rw [et]
      have e10 : ¬ (ibits .and .u8 (c : Int) 128 = 0) := by rw [e3]; omega
      refine round (its := [.blk 0 wb_codec_In_Num_0]) (k0 := [.c c_codec_In_Num_k0]) 100 trivial trivial (fun A eA => ?_)
      simp (disch := first | omega | (simp only [avs_len, List.length_cons, List.length_append, List.length_nil, List.length_take, List.length_drop, List.length_map]; omega) | (simp only [cells, scal1, allSz, List.length_cons, List.length_nil, List.length_append, List.length_map, List.all_cons, List.all_nil, avs_len, beq_self_eq_true, Bool.and_self, and_self, or_true, true_or, reduceCtorEq, *]; done) | fail) only [c_codec_In_Num, wl_codec_In_Num_0, s_codec_In_Num_0, c_codec_In_Num_l0, wb_codec_In_Num_0, c_codec_In_Num_k0, go_sem, Nat.reduceAdd, Nat.reduceSub, Nat.reduceMul, Nat.reduceLT, Nat.reduceLeDiff, Int.reduceToNat, Nat.reduceEqDiff, Nat.reduceBEq, ↓reduceIte, reduceCtorEq, eA, h1, h2, e1, e2, e4, e5, e6, e7, e8, e10, bv, avs_len, Int.toNat_natCast]
      have := ih (pre ++ [c]) (by rw [hpre]; simp) (by simp; omega)
      rw [show (pre ++ [c]).length = pre.length + 1 by simp] at this
      exact this
    have e10 : ibits .and .u8 (c : Int) 128 = 0 := by rw [e3]; omega
    by_cases hz : c = 0 ∧ 0 < pre.length
    · have et : takeGo pre.length (c :: post) = none := by simp only [takeGo]; rw [if_neg h9, if_neg h128, if_pos hz]
      rw [et]
      have z1 : ((c : Int) = 0) ↔ True := iff_of_true (by omega) trivial
      have z2 : (0 : Int) < (pre.length : Int) := by omega
      refine round (its := [.blk 0 wb_codec_In_Num_0]) (k0 := [.c c_codec_In_Num_k0]) 100 trivial trivial (fun A eA => ?_)
      simp (disch := first | omega | (simp only [avs_len, List.length_cons, List.length_append, List.length_nil, List.length_take, List.length_drop, List.length_map]; omega) | (simp only [cells, scal1, allSz, List.length_cons, List.length_nil, List.length_append, List.length_map, List.all_cons, List.all_nil, avs_len, beq_self_eq_true, Bool.and_self, and_self, or_true, true_or, reduceCtorEq, *]; done) | fail) only [c_codec_In_Num, wl_codec_In_Num_0, s_codec_In_Num_0, c_codec_In_Num_l0, wb_codec_In_Num_0, c_codec_In_Num_k0, go_sem, Nat.reduceAdd, Nat.reduceSub, Nat.reduceMul, Nat.reduceLT, Nat.reduceLeDiff, Int.reduceToNat, Nat.reduceEqDiff, Nat.reduceBEq, ↓reduceIte, reduceCtorEq, eA, h1, h2, e1, e2, e4, e5, e6, e7, e8, e10, z1, z2, bv, avs_len, Int.toNat_natCast]
      refine walk0 (its := [.c c_codec_In_Num_k0]) 100 trivial (fun A eA => ?_)
      simp (disch := first | omega | (simp only [avs_len, List.length_cons, List.length_append, List.length_nil, List.length_take, List.length_drop, List.length_map]; omega) | (simp only [cells, scal1, allSz, List.length_cons, List.length_nil, List.length_append, List.length_map, List.all_cons, List.all_nil, avs_len, beq_self_eq_true, Bool.and_self, and_self, or_true, true_or, reduceCtorEq, *]; done) | fail) only [c_codec_In_Num, wl_codec_In_Num_0, s_codec_In_Num_0, c_codec_In_Num_l0, wb_codec_In_Num_0, c_codec_In_Num_k0, go_sem, Nat.reduceAdd, Nat.reduceSub, Nat.reduceMul, Nat.reduceLT, Nat.reduceLeDiff, Int.reduceToNat, Nat.reduceEqDiff, Nat.reduceBEq, ↓reduceIte, reduceCtorEq, eA, h1]
      refine call2 100 trivial trivial [(f, d)] (by simp only [go_sem, Nat.reduceAdd, Nat.reduceSub, Nat.reduceMul, Nat.reduceLT, Nat.reduceLeDiff, Int.reduceToNat, Nat.reduceEqDiff, Nat.reduceBEq, ↓reduceIte, reduceCtorEq] <;> rfl) (by simp only [go_sem, Nat.reduceAdd, Nat.reduceSub, Nat.reduceMul, Nat.reduceLT, Nat.reduceLeDiff, Int.reduceToNat, Nat.reduceEqDiff, Nat.reduceBEq, ↓reduceIte, reduceCtorEq] <;> rfl) (fail_h f d g _ _ _) (.inl rfl) (fun A eA => ?_)
      simp (disch := first | omega | (simp only [avs_len, List.length_cons, List.length_append, List.length_nil, List.length_take, List.length_drop, List.length_map]; omega) | (simp only [cells, scal1, allSz, List.length_cons, List.length_nil, List.length_append, List.length_map, List.all_cons, List.all_nil, avs_len, beq_self_eq_true, Bool.and_self, and_self, or_true, true_or, reduceCtorEq, *]; done) | fail) only [c_codec_In_Num, wl_codec_In_Num_0, s_codec_In_Num_0, c_codec_In_Num_l0, wb_codec_In_Num_0, c_codec_In_Num_k0, go_sem, Nat.reduceAdd, Nat.reduceSub, Nat.reduceMul, Nat.reduceLT, Nat.reduceLeDiff, Int.reduceToNat, Nat.reduceEqDiff, Nat.reduceBEq, ↓reduceIte, reduceCtorEq, eA, h1]
      exact doneH (by simp only [go_sem, Nat.reduceAdd, Nat.reduceSub, Nat.reduceMul, Nat.reduceLT, Nat.reduceLeDiff, Int.reduceToNat, Nat.reduceEqDiff, Nat.reduceBEq, ↓reduceIte, reduceCtorEq]; rfl) rfl rfl
    have et : takeGo pre.length (c :: post) = some (pre.length + 1) := by simp only [takeGo]; rw [if_neg h9, if_neg h128, if_neg hz]
    rw [et]
    have hv2 := lowS_lt (pre ++ [c])
    have hq : 128 ^ (pre ++ [c]).length ≤ 128 ^ 9 := Nat.pow_le_pow_right (by omega) (by simp; omega)
    have q2 : lowS (pre ++ [c]) < 9223372036854775808 := by omega
    have e11 : IntKind.i64.wrap ((lowS (pre ++ [c]) : Nat) : Int) = ((lowS (pre ++ [c]) : Nat) : Int) := by rw [IntKind.wrap_i64]; omega
    have ev : rvN bs (some (pre.length + 1)) = lowS (pre ++ [c]) := by
      simp only [rvN]
      rw [hpre, show pre ++ c :: post = (pre ++ [c]) ++ post by simp, show pre.length + 1 = (pre ++ [c]).length by simp, List.take_left]
    rw [ev]
    have hT : (avs bs).take bs.length = avs bs := avs_take_all _ _ (Nat.le_refl _)
    clear hv2 hq hv hp ev et e3 e9 ih
    obtain ⟨V, hV⟩ : ∃ V, V = lowS (pre ++ [c]) := ⟨_, rfl⟩
    rw [← hV] at e8 e11 q2 ⊢
    have et : stN bs (some (pre.length + 1)) = [bv (bs.drop (pre.length + 1)), .bool false] := rfl
    rw [et]
    refine round (its := [.blk 0 wb_codec_In_Num_0]) (k0 := [.c c_codec_In_Num_k0]) 100 trivial trivial (fun A eA => ?_)
    have g1 : ¬ (9223372036854775807 < ((V : Nat) : Int)) := by omega
    by_cases c0 : c = 0
    · have z1 : ((c : Int) = 0) ↔ True := iff_of_true (by omega) trivial
      have z2 : ¬ (0 : Int) < (pre.length : Int) := by omega
      simp (disch := first | omega | (simp only [avs_len, List.length_cons, List.length_append, List.length_nil, List.length_take, List.length_drop, List.length_map]; omega) | (simp only [cells, scal1, allSz, List.length_cons, List.length_nil, List.length_append, List.length_map, List.all_cons, List.all_nil, avs_len, beq_self_eq_true, Bool.and_self, and_self, or_true, true_or, reduceCtorEq, *]; done) | fail) only [c_codec_In_Num, wl_codec_In_Num_0, s_codec_In_Num_0, c_codec_In_Num_l0, wb_codec_In_Num_0, c_codec_In_Num_k0, go_sem, Nat.reduceAdd, Nat.reduceSub, Nat.reduceMul, Nat.reduceLT, Nat.reduceLeDiff, Int.reduceToNat, Nat.reduceEqDiff, Nat.reduceBEq, ↓reduceIte, reduceCtorEq, eA, h1, h2, e1, e2, e4, e5, e6, e7, e8, e10, e11, z1, z2, g1, hT, bv, avs_len, Int.toNat_natCast, avs_drop]
      exact doneH (by simp only [go_sem, Nat.reduceAdd, Nat.reduceSub, Nat.reduceMul, Nat.reduceLT, Nat.reduceLeDiff, Int.reduceToNat, Nat.reduceEqDiff, Nat.reduceBEq, ↓reduceIte, reduceCtorEq]) rfl rfl
    · have z1 : ¬ (c : Int) = 0 := by omega
      simp (disch := first | omega | (simp only [avs_len, List.length_cons, List.length_append, List.length_nil, List.length_take, List.length_drop, List.length_map]; omega) | (simp only [cells, scal1, allSz, List.length_cons, List.length_nil, List.length_append, List.length_map, List.all_cons, List.all_nil, avs_len, beq_self_eq_true, Bool.and_self, and_self, or_true, true_or, reduceCtorEq, *]; done) | fail) only [c_codec_In_Num, wl_codec_In_Num_0, s_codec_In_Num_0, c_codec_In_Num_l0, wb_codec_In_Num_0, c_codec_In_Num_k0, go_sem, Nat.reduceAdd, Nat.reduceSub, Nat.reduceMul, Nat.reduceLT, Nat.reduceLeDiff, Int.reduceToNat, Nat.reduceEqDiff, Nat.reduceBEq, ↓reduceIte, reduceCtorEq, eA, h1, h2, e1, e2, e4, e5, e6, e7, e8, e10, e11, z1, g1, hT, bv, avs_len, Int.toNat_natCast, avs_drop]
      exact doneH (by simp only [go_sem, Nat.reduceAdd, Nat.reduceSub, Nat.reduceMul, Nat.reduceLT, Nat.reduceLeDiff, Int.reduceToNat, Nat.reduceEqDiff, Nat.reduceBEq, ↓reduceIte, reduceCtorEq]) rfl rfl
theorem num_h (bs : List Nat) (hbs : ∀ b ∈ bs, b < 256) (hlen : bs.length ≤ 1099511627776) (f d g : Nat) (nx : Ctr) :
    HCalls Try.prog F_codec_In_Num [.ptr f d g 0] [(f, d, g, some [bv bs, .bool false])] nx (.int .i64 (rvN bs (takeGo 0 bs) : Nat)) [(f, d, g, some (stN bs (takeGo 0 bs)))] nx := by
  refine hcalls_codec_In_Num 1 [(f, d)] (walk0 100 trivial (fun A eA => ?_))
  simp (disch := first | omega | (simp only [avs_len, List.length_cons, List.length_append, List.length_nil, List.length_take, List.length_drop, List.length_map]; omega) | (simp only [cells, scal1, allSz, List.length_cons, List.length_nil, List.length_append, List.length_map, List.all_cons, List.all_nil, avs_len, beq_self_eq_true, Bool.and_self, and_self, or_true, true_or, reduceCtorEq, *]; done) | fail) only [c_codec_In_Num, wl_codec_In_Num_0, s_codec_In_Num_0, c_codec_In_Num_l0, wb_codec_In_Num_0, c_codec_In_Num_k0, go_sem, Nat.reduceAdd, Nat.reduceSub, Nat.reduceMul, Nat.reduceLT, Nat.reduceLeDiff, Int.reduceToNat, Nat.reduceEqDiff, Nat.reduceBEq, ↓reduceIte, reduceCtorEq, eA, bv, avs_len]
  exact num_loop bs hbs hlen f d g nx bs [] rfl (by simp)
theorem num_bad (f d g : Nat) (x : AV) (nx : Ctr) : HCalls Try.prog F_codec_In_Num [.ptr f d g 0] [(f, d, g, some [x, .bool true])] nx (.int .i64 0) [(f, d, g, some [x, .bool true])] nx := by
  refine hcalls_codec_In_Num 1 [(f, d)] (walk0 100 trivial (fun A eA => ?_))
  simp (disch := first | omega | (simp only [avs_len, List.length_cons, List.length_append, List.length_nil, List.length_take, List.length_drop, List.length_map]; omega) | (simp only [cells, scal1, allSz, List.length_cons, List.length_nil, List.length_append, List.length_map, List.all_cons, List.all_nil, avs_len, beq_self_eq_true, Bool.and_self, and_self, or_true, true_or, reduceCtorEq, *]; done) | fail) only [c_codec_In_Num, wl_codec_In_Num_0, s_codec_In_Num_0, c_codec_In_Num_l0, wb_codec_In_Num_0, c_codec_In_Num_k0, go_sem, Nat.reduceAdd, Nat.reduceSub, Nat.reduceMul, Nat.reduceLT, Nat.reduceLeDiff, Int.reduceToNat, Nat.reduceEqDiff, Nat.reduceBEq, ↓reduceIte, reduceCtorEq, eA, scal1]
  exact doneH (by simp only [go_sem, Nat.reduceAdd, Nat.reduceSub, Nat.reduceMul, Nat.reduceLT, Nat.reduceLeDiff, Int.reduceToNat, Nat.reduceEqDiff, Nat.reduceBEq, ↓reduceIte, reduceCtorEq]) rfl rfl
end Go.Proofs.Ytmokhopjnjecbab
