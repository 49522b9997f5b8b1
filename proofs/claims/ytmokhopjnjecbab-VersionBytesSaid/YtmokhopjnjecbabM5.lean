/- The walk through what takes bytes apart: texts, counts, truths; what is left. -/
import Derived.Test.YtmokhopjnjecbabM4
-- short
namespace Go.Proofs.Ytmokhopjnjecbab
open Go.Ev
set_option linter.unusedVariables false
set_option linter.unusedSimpArgs false
set_option maxRecDepth 100000
set_option maxHeartbeats 1600000

theorem num_ok {r r1 : List Nat} {n v : Nat} (hr : ∀ b ∈ r, b < 256) (hl : r.length ≤ 1099511627776) (hn : takeGo 0 r = some n) (hv : v = lowS (r.take n)) (h1 : r1 = r.drop n) (f d g : Nat) (nx : Ctr) :
    HCalls Try.prog F_codec_In_Num [.ptr f d g 0] [(f, d, g, some [bv r, .bool false])] nx (.int .i64 (v : Nat)) [(f, d, g, some [bv r1, .bool false])] nx := by
  have := num_h r hr hl f d g nx
  rw [hn] at this; subst hv h1; exact this
theorem num_no {r : List Nat} (hr : ∀ b ∈ r, b < 256) (hl : r.length ≤ 1099511627776) (hn : takeGo 0 r = none) (f d g : Nat) (nx : Ctr) :
    HCalls Try.prog F_codec_In_Num [.ptr f d g 0] [(f, d, g, some [bv r, .bool false])] nx (.int .i64 0) [(f, d, g, some [.nils, .bool true])] nx := by
  have := num_h r hr hl f d g nx
  rw [hn] at this; exact this
theorem bad_h (f d g : Nat) (x : AV) (b : Bool) (nx : Ctr) : HCalls Try.prog F_codec_In_Bad [.ptr f d g 0] [(f, d, g, some [x, .bool b])] nx (.bool b) [(f, d, g, some [x, .bool b])] nx := by
  refine hcalls_codec_In_Bad 1 [(f, d)] (walk0 100 trivial (fun A eA => ?_))
  simp (disch := first | omega | (simp only [avs_len, List.length_cons, List.length_append, List.length_nil, List.length_take, List.length_drop, List.length_map]; omega) | (simp only [cells, scal1, allSz, List.length_cons, List.length_nil, List.length_append, List.length_map, List.all_cons, List.all_nil, avs_len, beq_self_eq_true, Bool.and_self, and_self, or_true, true_or, reduceCtorEq, *]; done) | fail) only [c_codec_In_Bad, go_sem, Nat.reduceAdd, Nat.reduceSub, Nat.reduceMul, Nat.reduceLT, Nat.reduceLeDiff, Int.reduceToNat, Nat.reduceEqDiff, Nat.reduceBEq, ↓reduceIte, reduceCtorEq, eA, scal1]
  exact doneH (by simp only [go_sem, Nat.reduceAdd, Nat.reduceSub, Nat.reduceMul, Nat.reduceLT, Nat.reduceLeDiff, Int.reduceToNat, Nat.reduceEqDiff, Nat.reduceBEq, ↓reduceIte, reduceCtorEq]) rfl rfl
theorem left_h (f d g : Nat) (bs : List Nat) (b : Bool) (nx : Ctr) : HCalls Try.prog F_codec_In_Left [.ptr f d g 0] [(f, d, g, some [bv bs, .bool b])] nx (.int .i64 (bs.length : Nat)) [(f, d, g, some [bv bs, .bool b])] nx := by
  refine hcalls_codec_In_Left 1 [(f, d)] (walk0 100 trivial (fun A eA => ?_))
  simp (disch := first | omega | (simp only [avs_len, List.length_cons, List.length_append, List.length_nil, List.length_take, List.length_drop, List.length_map]; omega) | (simp only [cells, scal1, allSz, List.length_cons, List.length_nil, List.length_append, List.length_map, List.all_cons, List.all_nil, avs_len, beq_self_eq_true, Bool.and_self, and_self, or_true, true_or, reduceCtorEq, *]; done) | fail) only [c_codec_In_Left, go_sem, Nat.reduceAdd, Nat.reduceSub, Nat.reduceMul, Nat.reduceLT, Nat.reduceLeDiff, Int.reduceToNat, Nat.reduceEqDiff, Nat.reduceBEq, ↓reduceIte, reduceCtorEq, eA, scal1, bv, avs_len]
  exact doneH (by simp only [go_sem, Nat.reduceAdd, Nat.reduceSub, Nat.reduceMul, Nat.reduceLT, Nat.reduceLeDiff, Int.reduceToNat, Nat.reduceEqDiff, Nat.reduceBEq, ↓reduceIte, reduceCtorEq]) rfl rfl
theorem left_n (f d g : Nat) (b : Bool) (nx : Ctr) : HCalls Try.prog F_codec_In_Left [.ptr f d g 0] [(f, d, g, some [.nils, .bool b])] nx (.int .i64 0) [(f, d, g, some [.nils, .bool b])] nx := by
  refine hcalls_codec_In_Left 1 [(f, d)] (walk0 100 trivial (fun A eA => ?_))
  simp (disch := first | omega | (simp only [avs_len, List.length_cons, List.length_append, List.length_nil, List.length_take, List.length_drop, List.length_map]; omega) | (simp only [cells, scal1, allSz, List.length_cons, List.length_nil, List.length_append, List.length_map, List.all_cons, List.all_nil, avs_len, beq_self_eq_true, Bool.and_self, and_self, or_true, true_or, reduceCtorEq, *]; done) | fail) only [c_codec_In_Left, go_sem, Nat.reduceAdd, Nat.reduceSub, Nat.reduceMul, Nat.reduceLT, Nat.reduceLeDiff, Int.reduceToNat, Nat.reduceEqDiff, Nat.reduceBEq, ↓reduceIte, reduceCtorEq, eA, scal1]
  exact doneH (by simp only [go_sem, Nat.reduceAdd, Nat.reduceSub, Nat.reduceMul, Nat.reduceLT, Nat.reduceLeDiff, Int.reduceToNat, Nat.reduceEqDiff, Nat.reduceBEq, ↓reduceIte, reduceCtorEq]) rfl rfl
theorem done_t (f d g : Nat) (bs : List Nat) (h : bs.length = 0) (nx : Ctr) : HCalls Try.prog F_codec_In_Done [.ptr f d g 0] [(f, d, g, some [bv bs, .bool false])] nx (.bool true) [(f, d, g, some [bv bs, .bool false])] nx := by
  refine hcalls_codec_In_Done 1 [(f, d)] (walk0 100 trivial (fun A eA => ?_))
  have h' : ((bs.length : Int) = 0) ↔ True := iff_of_true (by omega) trivial
  simp (disch := first | omega | (simp only [avs_len, List.length_cons, List.length_append, List.length_nil, List.length_take, List.length_drop, List.length_map]; omega) | (simp only [cells, scal1, allSz, List.length_cons, List.length_nil, List.length_append, List.length_map, List.all_cons, List.all_nil, avs_len, beq_self_eq_true, Bool.and_self, and_self, or_true, true_or, reduceCtorEq, *]; done) | fail) only [c_codec_In_Done, go_sem, Nat.reduceAdd, Nat.reduceSub, Nat.reduceMul, Nat.reduceLT, Nat.reduceLeDiff, Int.reduceToNat, Nat.reduceEqDiff, Nat.reduceBEq, ↓reduceIte, reduceCtorEq, eA, scal1, bv, avs_len, h']
  exact doneH (by simp only [go_sem, Nat.reduceAdd, Nat.reduceSub, Nat.reduceMul, Nat.reduceLT, Nat.reduceLeDiff, Int.reduceToNat, Nat.reduceEqDiff, Nat.reduceBEq, ↓reduceIte, reduceCtorEq]) rfl rfl
theorem done_f (f d g : Nat) (bs : List Nat) (h : 0 < bs.length) (nx : Ctr) : HCalls Try.prog F_codec_In_Done [.ptr f d g 0] [(f, d, g, some [bv bs, .bool false])] nx (.bool false) [(f, d, g, some [bv bs, .bool false])] nx := by
  refine hcalls_codec_In_Done 1 [(f, d)] (walk0 100 trivial (fun A eA => ?_))
  have h' : ((bs.length : Int) = 0) ↔ False := iff_of_false (by omega) id
  simp (disch := first | omega | (simp only [avs_len, List.length_cons, List.length_append, List.length_nil, List.length_take, List.length_drop, List.length_map]; omega) | (simp only [cells, scal1, allSz, List.length_cons, List.length_nil, List.length_append, List.length_map, List.all_cons, List.all_nil, avs_len, beq_self_eq_true, Bool.and_self, and_self, or_true, true_or, reduceCtorEq, *]; done) | fail) only [c_codec_In_Done, go_sem, Nat.reduceAdd, Nat.reduceSub, Nat.reduceMul, Nat.reduceLT, Nat.reduceLeDiff, Int.reduceToNat, Nat.reduceEqDiff, Nat.reduceBEq, ↓reduceIte, reduceCtorEq, eA, scal1, bv, avs_len, h']
  exact doneH (by simp only [go_sem, Nat.reduceAdd, Nat.reduceSub, Nat.reduceMul, Nat.reduceLT, Nat.reduceLeDiff, Int.reduceToNat, Nat.reduceEqDiff, Nat.reduceBEq, ↓reduceIte, reduceCtorEq]) rfl rfl
theorem done_b (f d g : Nat) (x : AV) (nx : Ctr) : HCalls Try.prog F_codec_In_Done [.ptr f d g 0] [(f, d, g, some [x, .bool true])] nx (.bool false) [(f, d, g, some [x, .bool true])] nx := by
  refine hcalls_codec_In_Done 1 [(f, d)] (walk0 100 trivial (fun A eA => ?_))
  simp (disch := first | omega | (simp only [avs_len, List.length_cons, List.length_append, List.length_nil, List.length_take, List.length_drop, List.length_map]; omega) | (simp only [cells, scal1, allSz, List.length_cons, List.length_nil, List.length_append, List.length_map, List.all_cons, List.all_nil, avs_len, beq_self_eq_true, Bool.and_self, and_self, or_true, true_or, reduceCtorEq, *]; done) | fail) only [c_codec_In_Done, go_sem, Nat.reduceAdd, Nat.reduceSub, Nat.reduceMul, Nat.reduceLT, Nat.reduceLeDiff, Int.reduceToNat, Nat.reduceEqDiff, Nat.reduceBEq, ↓reduceIte, reduceCtorEq, eA, scal1]
  exact doneH (by simp only [go_sem, Nat.reduceAdd, Nat.reduceSub, Nat.reduceMul, Nat.reduceLT, Nat.reduceLeDiff, Int.reduceToNat, Nat.reduceEqDiff, Nat.reduceBEq, ↓reduceIte, reduceCtorEq]) rfl rfl
theorem text_bad (f d g : Nat) (x : AV) (nx : Ctr) : HCalls Try.prog F_codec_In_Text [.ptr f d g 0] [(f, d, g, some [x, .bool true])] nx (.str ⟨#[]⟩) [(f, d, g, some [x, .bool true])] nx := by
  refine hcalls_codec_In_Text 1 [(f, d)] (walk0 100 trivial (fun A eA => ?_))
  simp (disch := first | omega | (simp only [avs_len, List.length_cons, List.length_append, List.length_nil, List.length_take, List.length_drop, List.length_map]; omega) | (simp only [cells, scal1, allSz, List.length_cons, List.length_nil, List.length_append, List.length_map, List.all_cons, List.all_nil, avs_len, beq_self_eq_true, Bool.and_self, and_self, or_true, true_or, reduceCtorEq, *]; done) | fail) only [c_codec_In_Text, go_sem, Nat.reduceAdd, Nat.reduceSub, Nat.reduceMul, Nat.reduceLT, Nat.reduceLeDiff, Int.reduceToNat, Nat.reduceEqDiff, Nat.reduceBEq, ↓reduceIte, reduceCtorEq, eA, scal1]
  refine call2 100 trivial trivial [(f, d)] (by simp only [go_sem, Nat.reduceAdd, Nat.reduceSub, Nat.reduceMul, Nat.reduceLT, Nat.reduceLeDiff, Int.reduceToNat, Nat.reduceEqDiff, Nat.reduceBEq, ↓reduceIte, reduceCtorEq] <;> rfl) (by simp only [go_sem, Nat.reduceAdd, Nat.reduceSub, Nat.reduceMul, Nat.reduceLT, Nat.reduceLeDiff, Int.reduceToNat, Nat.reduceEqDiff, Nat.reduceBEq, ↓reduceIte, reduceCtorEq] <;> rfl) (num_bad f d g x nx) (.inl rfl) (fun A eA => ?_)
  simp (disch := first | omega | (simp only [avs_len, List.length_cons, List.length_append, List.length_nil, List.length_take, List.length_drop, List.length_map]; omega) | (simp only [cells, scal1, allSz, List.length_cons, List.length_nil, List.length_append, List.length_map, List.all_cons, List.all_nil, avs_len, beq_self_eq_true, Bool.and_self, and_self, or_true, true_or, reduceCtorEq, *]; done) | fail) only [c_codec_In_Text, go_sem, Nat.reduceAdd, Nat.reduceSub, Nat.reduceMul, Nat.reduceLT, Nat.reduceLeDiff, Int.reduceToNat, Nat.reduceEqDiff, Nat.reduceBEq, ↓reduceIte, reduceCtorEq, eA, scal1]
  exact doneH (by simp only [go_sem, Nat.reduceAdd, Nat.reduceSub, Nat.reduceMul, Nat.reduceLT, Nat.reduceLeDiff, Int.reduceToNat, Nat.reduceEqDiff, Nat.reduceBEq, ↓reduceIte, reduceCtorEq]) rfl rfl
theorem text_no {r : List Nat} (hr : ∀ b ∈ r, b < 256) (hl : r.length ≤ 1099511627776) (hn : takeGo 0 r = none) (f d g : Nat) (nx : Ctr) :
    HCalls Try.prog F_codec_In_Text [.ptr f d g 0] [(f, d, g, some [bv r, .bool false])] nx (.str ⟨#[]⟩) [(f, d, g, some [.nils, .bool true])] nx := by
  refine hcalls_codec_In_Text 1 [(f, d)] (walk0 100 trivial (fun A eA => ?_))
  simp (disch := first | omega | (simp only [avs_len, List.length_cons, List.length_append, List.length_nil, List.length_take, List.length_drop, List.length_map]; omega) | (simp only [cells, scal1, allSz, List.length_cons, List.length_nil, List.length_append, List.length_map, List.all_cons, List.all_nil, avs_len, beq_self_eq_true, Bool.and_self, and_self, or_true, true_or, reduceCtorEq, *]; done) | fail) only [c_codec_In_Text, go_sem, Nat.reduceAdd, Nat.reduceSub, Nat.reduceMul, Nat.reduceLT, Nat.reduceLeDiff, Int.reduceToNat, Nat.reduceEqDiff, Nat.reduceBEq, ↓reduceIte, reduceCtorEq, eA, scal1]
  refine call2 100 trivial trivial [(f, d)] (by simp only [go_sem, Nat.reduceAdd, Nat.reduceSub, Nat.reduceMul, Nat.reduceLT, Nat.reduceLeDiff, Int.reduceToNat, Nat.reduceEqDiff, Nat.reduceBEq, ↓reduceIte, reduceCtorEq] <;> rfl) (by simp only [go_sem, Nat.reduceAdd, Nat.reduceSub, Nat.reduceMul, Nat.reduceLT, Nat.reduceLeDiff, Int.reduceToNat, Nat.reduceEqDiff, Nat.reduceBEq, ↓reduceIte, reduceCtorEq] <;> rfl) (num_no hr hl hn f d g nx) (.inl rfl) (fun A eA => ?_)
  simp (disch := first | omega | (simp only [avs_len, List.length_cons, List.length_append, List.length_nil, List.length_take, List.length_drop, List.length_map]; omega) | (simp only [cells, scal1, allSz, List.length_cons, List.length_nil, List.length_append, List.length_map, List.all_cons, List.all_nil, avs_len, beq_self_eq_true, Bool.and_self, and_self, or_true, true_or, reduceCtorEq, *]; done) | fail) only [c_codec_In_Text, go_sem, Nat.reduceAdd, Nat.reduceSub, Nat.reduceMul, Nat.reduceLT, Nat.reduceLeDiff, Int.reduceToNat, Nat.reduceEqDiff, Nat.reduceBEq, ↓reduceIte, reduceCtorEq, eA, scal1]
  exact doneH (by simp only [go_sem, Nat.reduceAdd, Nat.reduceSub, Nat.reduceMul, Nat.reduceLT, Nat.reduceLeDiff, Int.reduceToNat, Nat.reduceEqDiff, Nat.reduceBEq, ↓reduceIte, reduceCtorEq]) rfl rfl
theorem text_much {r r1 : List Nat} {n v : Nat} (hr : ∀ b ∈ r, b < 256) (hl : r.length ≤ 1099511627776) (hn : takeGo 0 r = some n) (hv : v = lowS (r.take n)) (h1 : r1 = r.drop n) (hg : r1.length < v) (f d g : Nat) (nx : Ctr) :
    HCalls Try.prog F_codec_In_Text [.ptr f d g 0] [(f, d, g, some [bv r, .bool false])] nx (.str ⟨#[]⟩) [(f, d, g, some [.nils, .bool true])] nx := by
  have cn := num_ok hr hl hn hv h1 f d g nx
  clear hv
  refine hcalls_codec_In_Text 1 [(f, d)] (walk0 100 trivial (fun A eA => ?_))
  simp (disch := first | omega | (simp only [avs_len, List.length_cons, List.length_append, List.length_nil, List.length_take, List.length_drop, List.length_map]; omega) | (simp only [cells, scal1, allSz, List.length_cons, List.length_nil, List.length_append, List.length_map, List.all_cons, List.all_nil, avs_len, beq_self_eq_true, Bool.and_self, and_self, or_true, true_or, reduceCtorEq, *]; done) | fail) only [c_codec_In_Text, go_sem, Nat.reduceAdd, Nat.reduceSub, Nat.reduceMul, Nat.reduceLT, Nat.reduceLeDiff, Int.reduceToNat, Nat.reduceEqDiff, Nat.reduceBEq, ↓reduceIte, reduceCtorEq, eA, scal1]
  refine call2 100 trivial trivial [(f, d)] (by simp only [go_sem, Nat.reduceAdd, Nat.reduceSub, Nat.reduceMul, Nat.reduceLT, Nat.reduceLeDiff, Int.reduceToNat, Nat.reduceEqDiff, Nat.reduceBEq, ↓reduceIte, reduceCtorEq] <;> rfl) (by simp only [go_sem, Nat.reduceAdd, Nat.reduceSub, Nat.reduceMul, Nat.reduceLT, Nat.reduceLeDiff, Int.reduceToNat, Nat.reduceEqDiff, Nat.reduceBEq, ↓reduceIte, reduceCtorEq] <;> rfl) cn (.inl rfl) (fun A eA => ?_)
  simp (disch := first | omega | (simp only [avs_len, List.length_cons, List.length_append, List.length_nil, List.length_take, List.length_drop, List.length_map]; omega) | (simp only [cells, scal1, allSz, List.length_cons, List.length_nil, List.length_append, List.length_map, List.all_cons, List.all_nil, avs_len, beq_self_eq_true, Bool.and_self, and_self, or_true, true_or, reduceCtorEq, *]; done) | fail) only [c_codec_In_Text, go_sem, Nat.reduceAdd, Nat.reduceSub, Nat.reduceMul, Nat.reduceLT, Nat.reduceLeDiff, Int.reduceToNat, Nat.reduceEqDiff, Nat.reduceBEq, ↓reduceIte, reduceCtorEq, eA, scal1, bv, avs_len]
  refine call2 100 trivial trivial [(f, d)] (by simp only [go_sem, Nat.reduceAdd, Nat.reduceSub, Nat.reduceMul, Nat.reduceLT, Nat.reduceLeDiff, Int.reduceToNat, Nat.reduceEqDiff, Nat.reduceBEq, ↓reduceIte, reduceCtorEq] <;> rfl) (by simp only [go_sem, Nat.reduceAdd, Nat.reduceSub, Nat.reduceMul, Nat.reduceLT, Nat.reduceLeDiff, Int.reduceToNat, Nat.reduceEqDiff, Nat.reduceBEq, ↓reduceIte, reduceCtorEq] <;> rfl) (fail_h f d g _ _ _) (.inl rfl) (fun A eA => ?_)
  simp (disch := first | omega | (simp only [avs_len, List.length_cons, List.length_append, List.length_nil, List.length_take, List.length_drop, List.length_map]; omega) | (simp only [cells, scal1, allSz, List.length_cons, List.length_nil, List.length_append, List.length_map, List.all_cons, List.all_nil, avs_len, beq_self_eq_true, Bool.and_self, and_self, or_true, true_or, reduceCtorEq, *]; done) | fail) only [c_codec_In_Text, go_sem, Nat.reduceAdd, Nat.reduceSub, Nat.reduceMul, Nat.reduceLT, Nat.reduceLeDiff, Int.reduceToNat, Nat.reduceEqDiff, Nat.reduceBEq, ↓reduceIte, reduceCtorEq, eA, scal1]
  exact doneH (by simp only [go_sem, Nat.reduceAdd, Nat.reduceSub, Nat.reduceMul, Nat.reduceLT, Nat.reduceLeDiff, Int.reduceToNat, Nat.reduceEqDiff, Nat.reduceBEq, ↓reduceIte, reduceCtorEq]) rfl rfl
theorem text_ok {r r1 : List Nat} {n v : Nat} (hr : ∀ b ∈ r, b < 256) (hl : r.length ≤ 1099511627776) (hn : takeGo 0 r = some n) (hv : v = lowS (r.take n)) (h1 : r1 = r.drop n) (hg : v ≤ r1.length) (f d g : Nat) (nx : Ctr) :
    HCalls Try.prog F_codec_In_Text [.ptr f d g 0] [(f, d, g, some [bv r, .bool false])] nx (.str (bstr (r1.take v))) [(f, d, g, some [bv (r1.drop v), .bool false])] nx := by
  have cn := num_ok hr hl hn hv h1 f d g nx
  have hr1 : ∀ b ∈ r1.take v, b < 256 := fun b hb => hr b (List.mem_of_mem_drop (h1 ▸ List.mem_of_mem_take hb))
  have hib := isBytes_avs hr1
  have hT : (avs r1).take r1.length = avs r1 := avs_take_all _ _ (Nat.le_refl _)
  clear hv
  refine hcalls_codec_In_Text 1 [(f, d)] (walk0 100 trivial (fun A eA => ?_))
  simp (disch := first | omega | (simp only [avs_len, List.length_cons, List.length_append, List.length_nil, List.length_take, List.length_drop, List.length_map]; omega) | (simp only [cells, scal1, allSz, List.length_cons, List.length_nil, List.length_append, List.length_map, List.all_cons, List.all_nil, avs_len, beq_self_eq_true, Bool.and_self, and_self, or_true, true_or, reduceCtorEq, *]; done) | fail) only [c_codec_In_Text, go_sem, Nat.reduceAdd, Nat.reduceSub, Nat.reduceMul, Nat.reduceLT, Nat.reduceLeDiff, Int.reduceToNat, Nat.reduceEqDiff, Nat.reduceBEq, ↓reduceIte, reduceCtorEq, eA, scal1]
  refine call2 100 trivial trivial [(f, d)] (by simp only [go_sem, Nat.reduceAdd, Nat.reduceSub, Nat.reduceMul, Nat.reduceLT, Nat.reduceLeDiff, Int.reduceToNat, Nat.reduceEqDiff, Nat.reduceBEq, ↓reduceIte, reduceCtorEq] <;> rfl) (by simp only [go_sem, Nat.reduceAdd, Nat.reduceSub, Nat.reduceMul, Nat.reduceLT, Nat.reduceLeDiff, Int.reduceToNat, Nat.reduceEqDiff, Nat.reduceBEq, ↓reduceIte, reduceCtorEq] <;> rfl) cn (.inl rfl) (fun A eA => ?_)
  simp (disch := first | omega | (simp only [avs_len, List.length_cons, List.length_append, List.length_nil, List.length_take, List.length_drop, List.length_map]; omega) | (simp only [cells, scal1, allSz, List.length_cons, List.length_nil, List.length_append, List.length_map, List.all_cons, List.all_nil, avs_len, beq_self_eq_true, Bool.and_self, and_self, or_true, true_or, reduceCtorEq, *]; done) | fail) only [c_codec_In_Text, go_sem, Nat.reduceAdd, Nat.reduceSub, Nat.reduceMul, Nat.reduceLT, Nat.reduceLeDiff, Int.reduceToNat, Nat.reduceEqDiff, Nat.reduceBEq, ↓reduceIte, reduceCtorEq, eA, scal1, bv, avs_len, Int.toNat_natCast, hT, avs_take, avs_drop, hib, bstr_mk]
  exact doneH (by simp only [go_sem, Nat.reduceAdd, Nat.reduceSub, Nat.reduceMul, Nat.reduceLT, Nat.reduceLeDiff, Int.reduceToNat, Nat.reduceEqDiff, Nat.reduceBEq, ↓reduceIte, reduceCtorEq]) rfl rfl
theorem count_bad (f d g : Nat) (x : AV) (most : Int) (h0 : 0 ≤ most) (nx : Ctr) : HCalls Try.prog F_codec_In_Count [.ptr f d g 0, .int .i64 most] [(f, d, g, some [x, .bool true])] nx (.int .i64 0) [(f, d, g, some [x, .bool true])] nx := by
  refine hcalls_codec_In_Count 1 [(f, d)] (walk0 100 trivial (fun A eA => ?_))
  simp (disch := first | omega | (simp only [avs_len, List.length_cons, List.length_append, List.length_nil, List.length_take, List.length_drop, List.length_map]; omega) | (simp only [cells, scal1, allSz, List.length_cons, List.length_nil, List.length_append, List.length_map, List.all_cons, List.all_nil, avs_len, beq_self_eq_true, Bool.and_self, and_self, or_true, true_or, reduceCtorEq, *]; done) | fail) only [c_codec_In_Count, go_sem, Nat.reduceAdd, Nat.reduceSub, Nat.reduceMul, Nat.reduceLT, Nat.reduceLeDiff, Int.reduceToNat, Nat.reduceEqDiff, Nat.reduceBEq, ↓reduceIte, reduceCtorEq, eA, scal1]
  refine call2 100 trivial trivial [(f, d)] (by simp only [go_sem, Nat.reduceAdd, Nat.reduceSub, Nat.reduceMul, Nat.reduceLT, Nat.reduceLeDiff, Int.reduceToNat, Nat.reduceEqDiff, Nat.reduceBEq, ↓reduceIte, reduceCtorEq] <;> rfl) (by simp only [go_sem, Nat.reduceAdd, Nat.reduceSub, Nat.reduceMul, Nat.reduceLT, Nat.reduceLeDiff, Int.reduceToNat, Nat.reduceEqDiff, Nat.reduceBEq, ↓reduceIte, reduceCtorEq] <;> rfl) (num_bad f d g x nx) (.inl rfl) (fun A eA => ?_)
  simp (disch := first | omega | (simp only [avs_len, List.length_cons, List.length_append, List.length_nil, List.length_take, List.length_drop, List.length_map]; omega) | (simp only [cells, scal1, allSz, List.length_cons, List.length_nil, List.length_append, List.length_map, List.all_cons, List.all_nil, avs_len, beq_self_eq_true, Bool.and_self, and_self, or_true, true_or, reduceCtorEq, *]; done) | fail) only [c_codec_In_Count, go_sem, Nat.reduceAdd, Nat.reduceSub, Nat.reduceMul, Nat.reduceLT, Nat.reduceLeDiff, Int.reduceToNat, Nat.reduceEqDiff, Nat.reduceBEq, ↓reduceIte, reduceCtorEq, eA, scal1]
  exact doneH (by simp only [go_sem, Nat.reduceAdd, Nat.reduceSub, Nat.reduceMul, Nat.reduceLT, Nat.reduceLeDiff, Int.reduceToNat, Nat.reduceEqDiff, Nat.reduceBEq, ↓reduceIte, reduceCtorEq]) rfl rfl
theorem count_bad' (f d g : Nat) (x : AV) (most : Int) (h0 : most < 0) (nx : Ctr) : HCalls Try.prog F_codec_In_Count [.ptr f d g 0, .int .i64 most] [(f, d, g, some [x, .bool true])] nx (.int .i64 0) [(f, d, g, some [.nils, .bool true])] nx := by
  refine hcalls_codec_In_Count 1 [(f, d)] (walk0 100 trivial (fun A eA => ?_))
  simp (disch := first | omega | (simp only [avs_len, List.length_cons, List.length_append, List.length_nil, List.length_take, List.length_drop, List.length_map]; omega) | (simp only [cells, scal1, allSz, List.length_cons, List.length_nil, List.length_append, List.length_map, List.all_cons, List.all_nil, avs_len, beq_self_eq_true, Bool.and_self, and_self, or_true, true_or, reduceCtorEq, *]; done) | fail) only [c_codec_In_Count, go_sem, Nat.reduceAdd, Nat.reduceSub, Nat.reduceMul, Nat.reduceLT, Nat.reduceLeDiff, Int.reduceToNat, Nat.reduceEqDiff, Nat.reduceBEq, ↓reduceIte, reduceCtorEq, eA, scal1]
  refine call2 100 trivial trivial [(f, d)] (by simp only [go_sem, Nat.reduceAdd, Nat.reduceSub, Nat.reduceMul, Nat.reduceLT, Nat.reduceLeDiff, Int.reduceToNat, Nat.reduceEqDiff, Nat.reduceBEq, ↓reduceIte, reduceCtorEq] <;> rfl) (by simp only [go_sem, Nat.reduceAdd, Nat.reduceSub, Nat.reduceMul, Nat.reduceLT, Nat.reduceLeDiff, Int.reduceToNat, Nat.reduceEqDiff, Nat.reduceBEq, ↓reduceIte, reduceCtorEq] <;> rfl) (num_bad f d g x nx) (.inl rfl) (fun A eA => ?_)
  simp (disch := first | omega | (simp only [avs_len, List.length_cons, List.length_append, List.length_nil, List.length_take, List.length_drop, List.length_map]; omega) | (simp only [cells, scal1, allSz, List.length_cons, List.length_nil, List.length_append, List.length_map, List.all_cons, List.all_nil, avs_len, beq_self_eq_true, Bool.and_self, and_self, or_true, true_or, reduceCtorEq, *]; done) | fail) only [c_codec_In_Count, go_sem, Nat.reduceAdd, Nat.reduceSub, Nat.reduceMul, Nat.reduceLT, Nat.reduceLeDiff, Int.reduceToNat, Nat.reduceEqDiff, Nat.reduceBEq, ↓reduceIte, reduceCtorEq, eA, scal1]
  refine call2 100 trivial trivial [(f, d)] (by simp only [go_sem, Nat.reduceAdd, Nat.reduceSub, Nat.reduceMul, Nat.reduceLT, Nat.reduceLeDiff, Int.reduceToNat, Nat.reduceEqDiff, Nat.reduceBEq, ↓reduceIte, reduceCtorEq] <;> rfl) (by simp only [go_sem, Nat.reduceAdd, Nat.reduceSub, Nat.reduceMul, Nat.reduceLT, Nat.reduceLeDiff, Int.reduceToNat, Nat.reduceEqDiff, Nat.reduceBEq, ↓reduceIte, reduceCtorEq] <;> rfl) (fail_h f d g _ _ _) (.inl rfl) (fun A eA => ?_)
  simp (disch := first | omega | (simp only [avs_len, List.length_cons, List.length_append, List.length_nil, List.length_take, List.length_drop, List.length_map]; omega) | (simp only [cells, scal1, allSz, List.length_cons, List.length_nil, List.length_append, List.length_map, List.all_cons, List.all_nil, avs_len, beq_self_eq_true, Bool.and_self, and_self, or_true, true_or, reduceCtorEq, *]; done) | fail) only [c_codec_In_Count, go_sem, Nat.reduceAdd, Nat.reduceSub, Nat.reduceMul, Nat.reduceLT, Nat.reduceLeDiff, Int.reduceToNat, Nat.reduceEqDiff, Nat.reduceBEq, ↓reduceIte, reduceCtorEq, eA, scal1]
  exact doneH (by simp only [go_sem, Nat.reduceAdd, Nat.reduceSub, Nat.reduceMul, Nat.reduceLT, Nat.reduceLeDiff, Int.reduceToNat, Nat.reduceEqDiff, Nat.reduceBEq, ↓reduceIte, reduceCtorEq]) rfl rfl
theorem count_no {r : List Nat} (hr : ∀ b ∈ r, b < 256) (hl : r.length ≤ 1099511627776) (hn : takeGo 0 r = none) (f d g : Nat) (most : Int) (nx : Ctr) :
    HCalls Try.prog F_codec_In_Count [.ptr f d g 0, .int .i64 most] [(f, d, g, some [bv r, .bool false])] nx (.int .i64 0) [(f, d, g, some [.nils, .bool true])] nx := by
  by_cases h0 : most < 0
  · refine hcalls_codec_In_Count 1 [(f, d)] (walk0 100 trivial (fun A eA => ?_))
    simp (disch := first | omega | (simp only [avs_len, List.length_cons, List.length_append, List.length_nil, List.length_take, List.length_drop, List.length_map]; omega) | (simp only [cells, scal1, allSz, List.length_cons, List.length_nil, List.length_append, List.length_map, List.all_cons, List.all_nil, avs_len, beq_self_eq_true, Bool.and_self, and_self, or_true, true_or, reduceCtorEq, *]; done) | fail) only [c_codec_In_Count, go_sem, Nat.reduceAdd, Nat.reduceSub, Nat.reduceMul, Nat.reduceLT, Nat.reduceLeDiff, Int.reduceToNat, Nat.reduceEqDiff, Nat.reduceBEq, ↓reduceIte, reduceCtorEq, eA, scal1]
    refine call2 100 trivial trivial [(f, d)] (by simp only [go_sem, Nat.reduceAdd, Nat.reduceSub, Nat.reduceMul, Nat.reduceLT, Nat.reduceLeDiff, Int.reduceToNat, Nat.reduceEqDiff, Nat.reduceBEq, ↓reduceIte, reduceCtorEq] <;> rfl) (by simp only [go_sem, Nat.reduceAdd, Nat.reduceSub, Nat.reduceMul, Nat.reduceLT, Nat.reduceLeDiff, Int.reduceToNat, Nat.reduceEqDiff, Nat.reduceBEq, ↓reduceIte, reduceCtorEq] <;> rfl) (num_no hr hl hn f d g nx) (.inl rfl) (fun A eA => ?_)
    simp (disch := first | omega | (simp only [avs_len, List.length_cons, List.length_append, List.length_nil, List.length_take, List.length_drop, List.length_map]; omega) | (simp only [cells, scal1, allSz, List.length_cons, List.length_nil, List.length_append, List.length_map, List.all_cons, List.all_nil, avs_len, beq_self_eq_true, Bool.and_self, and_self, or_true, true_or, reduceCtorEq, *]; done) | fail) only [c_codec_In_Count, go_sem, Nat.reduceAdd, Nat.reduceSub, Nat.reduceMul, Nat.reduceLT, Nat.reduceLeDiff, Int.reduceToNat, Nat.reduceEqDiff, Nat.reduceBEq, ↓reduceIte, reduceCtorEq, eA, scal1]
    refine call2 100 trivial trivial [(f, d)] (by simp only [go_sem, Nat.reduceAdd, Nat.reduceSub, Nat.reduceMul, Nat.reduceLT, Nat.reduceLeDiff, Int.reduceToNat, Nat.reduceEqDiff, Nat.reduceBEq, ↓reduceIte, reduceCtorEq] <;> rfl) (by simp only [go_sem, Nat.reduceAdd, Nat.reduceSub, Nat.reduceMul, Nat.reduceLT, Nat.reduceLeDiff, Int.reduceToNat, Nat.reduceEqDiff, Nat.reduceBEq, ↓reduceIte, reduceCtorEq] <;> rfl) (fail_h f d g _ _ _) (.inl rfl) (fun A eA => ?_)
    simp (disch := first | omega | (simp only [avs_len, List.length_cons, List.length_append, List.length_nil, List.length_take, List.length_drop, List.length_map]; omega) | (simp only [cells, scal1, allSz, List.length_cons, List.length_nil, List.length_append, List.length_map, List.all_cons, List.all_nil, avs_len, beq_self_eq_true, Bool.and_self, and_self, or_true, true_or, reduceCtorEq, *]; done) | fail) only [c_codec_In_Count, go_sem, Nat.reduceAdd, Nat.reduceSub, Nat.reduceMul, Nat.reduceLT, Nat.reduceLeDiff, Int.reduceToNat, Nat.reduceEqDiff, Nat.reduceBEq, ↓reduceIte, reduceCtorEq, eA, scal1]
    exact doneH (by simp only [go_sem, Nat.reduceAdd, Nat.reduceSub, Nat.reduceMul, Nat.reduceLT, Nat.reduceLeDiff, Int.reduceToNat, Nat.reduceEqDiff, Nat.reduceBEq, ↓reduceIte, reduceCtorEq]) rfl rfl
  · refine hcalls_codec_In_Count 1 [(f, d)] (walk0 100 trivial (fun A eA => ?_))
    simp (disch := first | omega | (simp only [avs_len, List.length_cons, List.length_append, List.length_nil, List.length_take, List.length_drop, List.length_map]; omega) | (simp only [cells, scal1, allSz, List.length_cons, List.length_nil, List.length_append, List.length_map, List.all_cons, List.all_nil, avs_len, beq_self_eq_true, Bool.and_self, and_self, or_true, true_or, reduceCtorEq, *]; done) | fail) only [c_codec_In_Count, go_sem, Nat.reduceAdd, Nat.reduceSub, Nat.reduceMul, Nat.reduceLT, Nat.reduceLeDiff, Int.reduceToNat, Nat.reduceEqDiff, Nat.reduceBEq, ↓reduceIte, reduceCtorEq, eA, scal1]
    refine call2 100 trivial trivial [(f, d)] (by simp only [go_sem, Nat.reduceAdd, Nat.reduceSub, Nat.reduceMul, Nat.reduceLT, Nat.reduceLeDiff, Int.reduceToNat, Nat.reduceEqDiff, Nat.reduceBEq, ↓reduceIte, reduceCtorEq] <;> rfl) (by simp only [go_sem, Nat.reduceAdd, Nat.reduceSub, Nat.reduceMul, Nat.reduceLT, Nat.reduceLeDiff, Int.reduceToNat, Nat.reduceEqDiff, Nat.reduceBEq, ↓reduceIte, reduceCtorEq] <;> rfl) (num_no hr hl hn f d g nx) (.inl rfl) (fun A eA => ?_)
    simp (disch := first | omega | (simp only [avs_len, List.length_cons, List.length_append, List.length_nil, List.length_take, List.length_drop, List.length_map]; omega) | (simp only [cells, scal1, allSz, List.length_cons, List.length_nil, List.length_append, List.length_map, List.all_cons, List.all_nil, avs_len, beq_self_eq_true, Bool.and_self, and_self, or_true, true_or, reduceCtorEq, *]; done) | fail) only [c_codec_In_Count, go_sem, Nat.reduceAdd, Nat.reduceSub, Nat.reduceMul, Nat.reduceLT, Nat.reduceLeDiff, Int.reduceToNat, Nat.reduceEqDiff, Nat.reduceBEq, ↓reduceIte, reduceCtorEq, eA, scal1]
    exact doneH (by simp only [go_sem, Nat.reduceAdd, Nat.reduceSub, Nat.reduceMul, Nat.reduceLT, Nat.reduceLeDiff, Int.reduceToNat, Nat.reduceEqDiff, Nat.reduceBEq, ↓reduceIte, reduceCtorEq]) rfl rfl
theorem count_much {r r1 : List Nat} {n v : Nat} (hr : ∀ b ∈ r, b < 256) (hl : r.length ≤ 1099511627776) (hn : takeGo 0 r = some n) (hv : v = lowS (r.take n)) (h1 : r1 = r.drop n) (most : Int) (hg : most < v ∨ most < 0) (f d g : Nat) (nx : Ctr) :
    HCalls Try.prog F_codec_In_Count [.ptr f d g 0, .int .i64 most] [(f, d, g, some [bv r, .bool false])] nx (.int .i64 0) [(f, d, g, some [.nils, .bool true])] nx := by
  have cn := num_ok hr hl hn hv h1 f d g nx
  clear hv
  have hg' : most < v := by omega
  refine hcalls_codec_In_Count 1 [(f, d)] (walk0 100 trivial (fun A eA => ?_))
  simp (disch := first | omega | (simp only [avs_len, List.length_cons, List.length_append, List.length_nil, List.length_take, List.length_drop, List.length_map]; omega) | (simp only [cells, scal1, allSz, List.length_cons, List.length_nil, List.length_append, List.length_map, List.all_cons, List.all_nil, avs_len, beq_self_eq_true, Bool.and_self, and_self, or_true, true_or, reduceCtorEq, *]; done) | fail) only [c_codec_In_Count, go_sem, Nat.reduceAdd, Nat.reduceSub, Nat.reduceMul, Nat.reduceLT, Nat.reduceLeDiff, Int.reduceToNat, Nat.reduceEqDiff, Nat.reduceBEq, ↓reduceIte, reduceCtorEq, eA, scal1]
  refine call2 100 trivial trivial [(f, d)] (by simp only [go_sem, Nat.reduceAdd, Nat.reduceSub, Nat.reduceMul, Nat.reduceLT, Nat.reduceLeDiff, Int.reduceToNat, Nat.reduceEqDiff, Nat.reduceBEq, ↓reduceIte, reduceCtorEq] <;> rfl) (by simp only [go_sem, Nat.reduceAdd, Nat.reduceSub, Nat.reduceMul, Nat.reduceLT, Nat.reduceLeDiff, Int.reduceToNat, Nat.reduceEqDiff, Nat.reduceBEq, ↓reduceIte, reduceCtorEq] <;> rfl) cn (.inl rfl) (fun A eA => ?_)
  simp (disch := first | omega | (simp only [avs_len, List.length_cons, List.length_append, List.length_nil, List.length_take, List.length_drop, List.length_map]; omega) | (simp only [cells, scal1, allSz, List.length_cons, List.length_nil, List.length_append, List.length_map, List.all_cons, List.all_nil, avs_len, beq_self_eq_true, Bool.and_self, and_self, or_true, true_or, reduceCtorEq, *]; done) | fail) only [c_codec_In_Count, go_sem, Nat.reduceAdd, Nat.reduceSub, Nat.reduceMul, Nat.reduceLT, Nat.reduceLeDiff, Int.reduceToNat, Nat.reduceEqDiff, Nat.reduceBEq, ↓reduceIte, reduceCtorEq, eA, scal1, bv, avs_len]
  refine call2 100 trivial trivial [(f, d)] (by simp only [go_sem, Nat.reduceAdd, Nat.reduceSub, Nat.reduceMul, Nat.reduceLT, Nat.reduceLeDiff, Int.reduceToNat, Nat.reduceEqDiff, Nat.reduceBEq, ↓reduceIte, reduceCtorEq] <;> rfl) (by simp only [go_sem, Nat.reduceAdd, Nat.reduceSub, Nat.reduceMul, Nat.reduceLT, Nat.reduceLeDiff, Int.reduceToNat, Nat.reduceEqDiff, Nat.reduceBEq, ↓reduceIte, reduceCtorEq] <;> rfl) (fail_h f d g _ _ _) (.inl rfl) (fun A eA => ?_)
  simp (disch := first | omega | (simp only [avs_len, List.length_cons, List.length_append, List.length_nil, List.length_take, List.length_drop, List.length_map]; omega) | (simp only [cells, scal1, allSz, List.length_cons, List.length_nil, List.length_append, List.length_map, List.all_cons, List.all_nil, avs_len, beq_self_eq_true, Bool.and_self, and_self, or_true, true_or, reduceCtorEq, *]; done) | fail) only [c_codec_In_Count, go_sem, Nat.reduceAdd, Nat.reduceSub, Nat.reduceMul, Nat.reduceLT, Nat.reduceLeDiff, Int.reduceToNat, Nat.reduceEqDiff, Nat.reduceBEq, ↓reduceIte, reduceCtorEq, eA, scal1]
  exact doneH (by simp only [go_sem, Nat.reduceAdd, Nat.reduceSub, Nat.reduceMul, Nat.reduceLT, Nat.reduceLeDiff, Int.reduceToNat, Nat.reduceEqDiff, Nat.reduceBEq, ↓reduceIte, reduceCtorEq]) rfl rfl
theorem count_ok {r r1 : List Nat} {n v : Nat} (hr : ∀ b ∈ r, b < 256) (hl : r.length ≤ 1099511627776) (hn : takeGo 0 r = some n) (hv : v = lowS (r.take n)) (h1 : r1 = r.drop n) (most : Int) (hg : v ≤ most) (h0 : 0 ≤ most) (f d g : Nat) (nx : Ctr) :
    HCalls Try.prog F_codec_In_Count [.ptr f d g 0, .int .i64 most] [(f, d, g, some [bv r, .bool false])] nx (.int .i64 (v : Nat)) [(f, d, g, some [bv r1, .bool false])] nx := by
  have cn := num_ok hr hl hn hv h1 f d g nx
  clear hv
  refine hcalls_codec_In_Count 1 [(f, d)] (walk0 100 trivial (fun A eA => ?_))
  simp (disch := first | omega | (simp only [avs_len, List.length_cons, List.length_append, List.length_nil, List.length_take, List.length_drop, List.length_map]; omega) | (simp only [cells, scal1, allSz, List.length_cons, List.length_nil, List.length_append, List.length_map, List.all_cons, List.all_nil, avs_len, beq_self_eq_true, Bool.and_self, and_self, or_true, true_or, reduceCtorEq, *]; done) | fail) only [c_codec_In_Count, go_sem, Nat.reduceAdd, Nat.reduceSub, Nat.reduceMul, Nat.reduceLT, Nat.reduceLeDiff, Int.reduceToNat, Nat.reduceEqDiff, Nat.reduceBEq, ↓reduceIte, reduceCtorEq, eA, scal1]
  refine call2 100 trivial trivial [(f, d)] (by simp only [go_sem, Nat.reduceAdd, Nat.reduceSub, Nat.reduceMul, Nat.reduceLT, Nat.reduceLeDiff, Int.reduceToNat, Nat.reduceEqDiff, Nat.reduceBEq, ↓reduceIte, reduceCtorEq] <;> rfl) (by simp only [go_sem, Nat.reduceAdd, Nat.reduceSub, Nat.reduceMul, Nat.reduceLT, Nat.reduceLeDiff, Int.reduceToNat, Nat.reduceEqDiff, Nat.reduceBEq, ↓reduceIte, reduceCtorEq] <;> rfl) cn (.inl rfl) (fun A eA => ?_)
  simp (disch := first | omega | (simp only [avs_len, List.length_cons, List.length_append, List.length_nil, List.length_take, List.length_drop, List.length_map]; omega) | (simp only [cells, scal1, allSz, List.length_cons, List.length_nil, List.length_append, List.length_map, List.all_cons, List.all_nil, avs_len, beq_self_eq_true, Bool.and_self, and_self, or_true, true_or, reduceCtorEq, *]; done) | fail) only [c_codec_In_Count, go_sem, Nat.reduceAdd, Nat.reduceSub, Nat.reduceMul, Nat.reduceLT, Nat.reduceLeDiff, Int.reduceToNat, Nat.reduceEqDiff, Nat.reduceBEq, ↓reduceIte, reduceCtorEq, eA, scal1, bv, avs_len]
  exact doneH (by simp only [go_sem, Nat.reduceAdd, Nat.reduceSub, Nat.reduceMul, Nat.reduceLT, Nat.reduceLeDiff, Int.reduceToNat, Nat.reduceEqDiff, Nat.reduceBEq, ↓reduceIte, reduceCtorEq]) rfl rfl
theorem bool_of (f d g : Nat) (X Y : List AV) (n : Int) (b : Bool) (hb : b = decide (n = 1)) (nx : Ctr) (h : HCalls Try.prog F_codec_In_Count [.ptr f d g 0, .int .i64 1] [(f, d, g, some X)] nx (.int .i64 n) [(f, d, g, some Y)] nx) :
    HCalls Try.prog F_codec_In_Bool [.ptr f d g 0] [(f, d, g, some X)] nx (.bool b) [(f, d, g, some Y)] nx := by
  refine hcalls_codec_In_Bool 1 [(f, d)] (walk0 100 trivial (fun A eA => ?_))
  simp (disch := first | omega | (simp only [avs_len, List.length_cons, List.length_append, List.length_nil, List.length_take, List.length_drop, List.length_map]; omega) | (simp only [cells, scal1, allSz, List.length_cons, List.length_nil, List.length_append, List.length_map, List.all_cons, List.all_nil, avs_len, beq_self_eq_true, Bool.and_self, and_self, or_true, true_or, reduceCtorEq, *]; done) | fail) only [c_codec_In_Bool, go_sem, Nat.reduceAdd, Nat.reduceSub, Nat.reduceMul, Nat.reduceLT, Nat.reduceLeDiff, Int.reduceToNat, Nat.reduceEqDiff, Nat.reduceBEq, ↓reduceIte, reduceCtorEq, eA, scal1]
  refine call2 100 trivial trivial [(f, d)] (by simp only [go_sem, Nat.reduceAdd, Nat.reduceSub, Nat.reduceMul, Nat.reduceLT, Nat.reduceLeDiff, Int.reduceToNat, Nat.reduceEqDiff, Nat.reduceBEq, ↓reduceIte, reduceCtorEq] <;> rfl) (by simp only [go_sem, Nat.reduceAdd, Nat.reduceSub, Nat.reduceMul, Nat.reduceLT, Nat.reduceLeDiff, Int.reduceToNat, Nat.reduceEqDiff, Nat.reduceBEq, ↓reduceIte, reduceCtorEq] <;> rfl) h (.inl rfl) (fun A eA => ?_)
  simp (disch := first | omega | (simp only [avs_len, List.length_cons, List.length_append, List.length_nil, List.length_take, List.length_drop, List.length_map]; omega) | (simp only [cells, scal1, allSz, List.length_cons, List.length_nil, List.length_append, List.length_map, List.all_cons, List.all_nil, avs_len, beq_self_eq_true, Bool.and_self, and_self, or_true, true_or, reduceCtorEq, *]; done) | fail) only [c_codec_In_Bool, go_sem, Nat.reduceAdd, Nat.reduceSub, Nat.reduceMul, Nat.reduceLT, Nat.reduceLeDiff, Int.reduceToNat, Nat.reduceEqDiff, Nat.reduceBEq, ↓reduceIte, reduceCtorEq, eA, scal1]
  exact doneH (by simp only [go_sem, Nat.reduceAdd, Nat.reduceSub, Nat.reduceMul, Nat.reduceLT, Nat.reduceLeDiff, Int.reduceToNat, Nat.reduceEqDiff, Nat.reduceBEq, ↓reduceIte, reduceCtorEq]) (by subst hb; rfl) rfl
theorem newIn_h (bs : List Nat) (hlen : bs.length ≤ 1099511627776) (φ : Nat) (nx : Ctr) : HCalls Try.prog F_codec_NewIn [bv bs] [] nx (.ptr φ 6 (nx 6) 0) [(φ, 6, nx 6, some [bv bs, .bool false])] (bump nx 6) := by
  refine hcalls_codec_NewIn φ [(φ, 6)] (walk0 100 trivial (fun A eA => ?_))
  simp (disch := first | omega | (simp only [avs_len, List.length_cons, List.length_append, List.length_nil, List.length_take, List.length_drop, List.length_map]; omega) | (simp only [cells, scal1, allSz, List.length_cons, List.length_nil, List.length_append, List.length_map, List.all_cons, List.all_nil, avs_len, beq_self_eq_true, Bool.and_self, and_self, or_true, true_or, reduceCtorEq, *]; done) | fail) only [c_codec_NewIn, go_sem, Nat.reduceAdd, Nat.reduceSub, Nat.reduceMul, Nat.reduceLT, Nat.reduceLeDiff, Int.reduceToNat, Nat.reduceEqDiff, Nat.reduceBEq, ↓reduceIte, reduceCtorEq, eA, scal1]
  refine call0 100 trivial trivial (bytesClone_calls bs hlen) (.inl rfl) (fun A eA => ?_)
  simp (disch := first | omega | (simp only [avs_len, List.length_cons, List.length_append, List.length_nil, List.length_take, List.length_drop, List.length_map]; omega) | (simp only [cells, scal1, allSz, List.length_cons, List.length_nil, List.length_append, List.length_map, List.all_cons, List.all_nil, avs_len, beq_self_eq_true, Bool.and_self, and_self, or_true, true_or, reduceCtorEq, *]; done) | fail) only [c_codec_NewIn, go_sem, Nat.reduceAdd, Nat.reduceSub, Nat.reduceMul, Nat.reduceLT, Nat.reduceLeDiff, Int.reduceToNat, Nat.reduceEqDiff, Nat.reduceBEq, ↓reduceIte, reduceCtorEq, eA, scal1]
  exact doneH (by simp only [go_sem, Nat.reduceAdd, Nat.reduceSub, Nat.reduceMul, Nat.reduceLT, Nat.reduceLeDiff, Int.reduceToNat, Nat.reduceEqDiff, Nat.reduceBEq, ↓reduceIte, reduceCtorEq]) rfl rfl
end Go.Proofs.Ytmokhopjnjecbab
/- A number's bytes, a text's bytes; where an Out keeps its bytes: plain. -/
namespace Go.Ev
set_option linter.unusedVariables false
/-- A number's bytes. -/
def numB (v : Nat) : List Nat := if v < 128 then [v] else (v % 128 + 128) :: numB (v / 128)
theorem numB_lt {v : Nat} (h : v < 128) : numB v = [v] := by rw [numB, if_pos h]
theorem numB_ge {v : Nat} (h : ¬ v < 128) : numB v = (v % 128 + 128) :: numB (v / 128) := by rw [numB, if_neg h]
theorem numB_len : ∀ (n v : Nat), v < 128 ^ (n + 1) → (numB v).length ≤ n + 1
  | 0, v, h => by rw [numB_lt (by omega)]; simp
  | n + 1, v, h => by
    by_cases h1 : v < 128
    · rw [numB_lt h1]; simp
    · rw [numB_ge h1]
      have := numB_len n (v / 128) (by rw [Nat.div_lt_iff_lt_mul (by omega), ← Nat.pow_succ]; exact h)
      simp only [List.length_cons]; omega
theorem or128 : ∀ b : Fin 256, ibits .or .u8 (b.1 : Int) 128 = ((b.1 % 128 + 128 : Nat) : Int) := by decide +kernel
/-- Where an Out keeps its bytes, if it has any. -/
def obV (e : Option (Nat × Nat)) (bs : List Nat) : AV := match e with
  | none => .nils
  | some (key, g) => .sl 1 key g 1 0 bs.length
def obH (e : Option (Nat × Nat)) (bs : List Nat) : Heap := match e with
  | none => []
  | some (key, g) => [(1, key, g, some (avs bs))]
/-- None but in the beginning; names behind those of the owner. -/
def ObOk (d : Nat) (e : Option (Nat × Nat)) (bs : List Nat) : Prop := match e with
  | none => bs = []
  | some (key, _) => d < key ∧ key < 50
theorem numB_256 : ∀ (n v : Nat), v < 128 ^ (n + 1) → ∀ b ∈ numB v, b < 256
  | 0, v, h, b, hb => by rw [numB_lt (by omega)] at hb; simp at hb; omega
  | n + 1, v, h, b, hb => by
    by_cases h1 : v < 128
    · rw [numB_lt h1] at hb; simp at hb; omega
    · rw [numB_ge h1, List.mem_cons] at hb
      rcases hb with rfl | hb
      · omega
      · exact numB_256 n (v / 128) (by rw [Nat.div_lt_iff_lt_mul (by omega), ← Nat.pow_succ]; exact h) b hb
/-- A text's bytes. -/
def sbs (s : ByteArray) : List Nat := s.data.toList.map UInt8.toNat
theorem avBytes_sbs (s : ByteArray) : avBytes s = avs (sbs s) := by simp only [avBytes, avs, sbs, List.map_map]; rfl
theorem sbs_len (s : ByteArray) : (sbs s).length = s.size := by simp [sbs]
theorem numB_low : ∀ (n v : Nat), v < 128 ^ (n + 1) → lowS (numB v) = v
  | 0, v, h => by rw [numB_lt (by omega)]; simp [lowS]; omega
  | n + 1, v, h => by
    by_cases h1 : v < 128
    · rw [numB_lt h1]; simp [lowS]; omega
    · rw [numB_ge h1, lowS, numB_low n (v / 128) (by rw [Nat.div_lt_iff_lt_mul (by omega), ← Nat.pow_succ]; exact h)]
      omega
theorem numB_takeGo : ∀ (n v k : Nat) (r : List Nat), v < 128 ^ (n + 1) → k + n ≤ 8 → (0 < k → 0 < v) → takeGo k (numB v ++ r) = some (k + (numB v).length)
  | n, v, k, r, h, hk, hv => by
    by_cases h1 : v < 128
    · rw [numB_lt h1]
      simp only [List.cons_append, List.nil_append, takeGo, List.length_cons, List.length_nil]
      rw [if_neg (by omega), if_neg (by omega), if_neg (by omega)]
    · match n with
      | 0 => omega
      | n + 1 =>
        rw [numB_ge h1]
        simp only [List.cons_append, takeGo, List.length_cons]
        rw [if_neg (by omega), if_pos (by omega), numB_takeGo n (v / 128) (k + 1) r (by rw [Nat.div_lt_iff_lt_mul (by omega), ← Nat.pow_succ]; exact h) (by omega) (by omega)]
        congr 1; omega
theorem numB_take (v : Nat) (r : List Nat) (h : v < 9223372036854775808) : takeGo 0 (numB v ++ r) = some (numB v).length := by
  rw [numB_takeGo 8 v 0 r (by omega) (by omega) (by omega), Nat.zero_add]
theorem numB_val (v : Nat) (r : List Nat) (h : v < 9223372036854775808) : v = lowS ((numB v ++ r).take (numB v).length) := by
  rw [List.take_left]; exact (numB_low 8 v (by omega)).symm
theorem bstr_sbs (s : ByteArray) : bstr (sbs s) = s := by
  have : bytesOf (avs (sbs s)) = s.data.toList := by
    simp only [avs, sbs, List.map_map]
    induction s.data.toList with
    | nil => rfl
    | cons b l ih =>
      have e : bytesOf (List.map ((fun b : Nat => AV.int .u8 (b : Nat)) ∘ UInt8.toNat) (b :: l)) = UInt8.ofNat ((b.toNat : Nat) : Int).toNat :: bytesOf (List.map ((fun b : Nat => AV.int .u8 (b : Nat)) ∘ UInt8.toNat) l) := rfl
      rw [e, ih]; simp
  simp only [bstr, this]
end Go.Ev
/- What is taken of bytes, as a state that is handed on: plain. -/
namespace Go.Ev
set_option linter.unusedVariables false
/-- An In: its bytes; none: it is bad. -/
abbrev InS := Option (List Nat)
def inNum : InS → Nat × InS
  | none => (0, none)
  | some r => match takeGo 0 r with
    | none => (0, none)
    | some n => (lowS (r.take n), some (r.drop n))
def inCount (most : Int) (s : InS) : Nat × InS := if most < ((inNum s).1 : Nat) then (0, none) else inNum s
def inBool (s : InS) : Bool × InS := (decide ((inCount 1 s).1 = 1), (inCount 1 s).2)
def inText (s : InS) : List Nat × InS := match (inNum s).2 with
  | none => ([], none)
  | some r => if r.length < (inNum s).1 then ([], none) else (r.take (inNum s).1, some (r.drop (inNum s).1))
def OkIn (s : InS) : Prop := ∀ r, s = some r → (∀ b ∈ r, b < 256) ∧ r.length ≤ 1099511627776
theorem inNum_no {r : List Nat} (h : takeGo 0 r = none) : inNum (some r) = (0, none) := by simp only [inNum, h]
theorem inNum_yes {r : List Nat} {n : Nat} (h : takeGo 0 r = some n) : inNum (some r) = (lowS (r.take n), some (r.drop n)) := by simp only [inNum, h]
theorem inCount_bad (m : Int) {s : InS} (h : inNum s = (0, none)) : inCount m s = (0, none) := by
  unfold inCount; rw [h]; split <;> rfl
theorem inCount_many {m : Int} {s : InS} (h : m < ((inNum s).1 : Nat)) : inCount m s = (0, none) := by
  unfold inCount; rw [if_pos h]
theorem inCount_few {m : Int} {s : InS} (h : ¬ m < ((inNum s).1 : Nat)) : inCount m s = inNum s := by
  unfold inCount; rw [if_neg h]
theorem inText_no {r : List Nat} (h : takeGo 0 r = none) : inText (some r) = ([], none) := by unfold inText; rw [inNum_no h]
theorem inText_yes {r : List Nat} {n : Nat} (h : takeGo 0 r = some n) : inText (some r) = if (r.drop n).length < lowS (r.take n) then ([], none) else ((r.drop n).take (lowS (r.take n)), some ((r.drop n).drop (lowS (r.take n)))) := by unfold inText; rw [inNum_yes h]
theorem OkIn.none : OkIn none := fun _ h => by cases h
theorem OkIn.drop {r : List Nat} (h : OkIn (some r)) (n : Nat) : OkIn (some (r.drop n)) := by
  intro q hq; cases hq
  obtain ⟨h1, h2⟩ := h r rfl
  exact ⟨fun b hb => h1 b (List.mem_of_mem_drop hb), by simp; omega⟩
theorem inNum_ok {s : InS} (h : OkIn s) : OkIn (inNum s).2 := by
  cases s with
  | none => exact h
  | some r =>
    simp only [inNum]
    split
    · exact .none
    · exact h.drop _
theorem inNum_lt (s : InS) : (inNum s).1 < 9223372036854775808 := by
  cases s with
  | none => simp [inNum]
  | some r =>
    simp only [inNum]
    split
    · omega
    · rename_i n hn
      have h1 := takeGo_some _ _ _ hn
      have h2 := lowS_lt (r.take n)
      have h3 : (r.take n).length ≤ 9 := by simp; omega
      have h4 : 128 ^ (r.take n).length ≤ 128 ^ 9 := Nat.pow_le_pow_right (by omega) h3
      show lowS (r.take n) < _
      omega
theorem inCount_ok {s : InS} (m : Int) (h : OkIn s) : OkIn (inCount m s).2 := by
  simp only [inCount]; split
  · exact .none
  · exact inNum_ok h
theorem inBool_ok {s : InS} (h : OkIn s) : OkIn (inBool s).2 := inCount_ok 1 h
theorem inText_ok {s : InS} (h : OkIn s) : OkIn (inText s).2 := by
  have := inNum_ok h
  simp only [inText]
  split
  · exact .none
  · rename_i r hr
    rw [hr] at this
    split
    · exact .none
    · exact this.drop _
theorem inNum_numB (v : Nat) (r : List Nat) (h : v < 9223372036854775808) : inNum (some (numB v ++ r)) = (v, some r) := by
  simp only [inNum, numB_take v r h]
  rw [← numB_val v r h, List.drop_left]
theorem inCount_numB (m : Int) (v : Nat) (r : List Nat) (h : v < 9223372036854775808) (hm : (v : Int) ≤ m) : inCount m (some (numB v ++ r)) = (v, some r) := by
  simp only [inCount, inNum_numB v r h]
  rw [if_neg (by omega)]
theorem inBool_numB (b : Bool) (r : List Nat) : inBool (some (numB (if b = true then 1 else 0) ++ r)) = (b, some r) := by
  cases b
  · simp only [inBool]
    rw [inCount_numB 1 _ r (by simp) (by simp)]; simp
  · simp only [inBool]
    rw [inCount_numB 1 _ r (by simp) (by simp)]; simp
theorem inBool_0 (r : List Nat) : inBool (some (numB 0 ++ r)) = (false, some r) := inBool_numB false r
theorem inBool_1 (r : List Nat) : inBool (some (numB 1 ++ r)) = (true, some r) := inBool_numB true r
theorem inText_text (s r : List Nat) (h : s.length < 9223372036854775808) : inText (some ((numB s.length ++ s) ++ r)) = (s, some r) := by
  rw [List.append_assoc]
  simp only [inText, inNum_numB _ _ h]
  rw [if_neg (by simp)]
  simp
end Go.Ev
/- What takes bytes apart, as contracts over one state. -/
-- short
namespace Go.Ev
def inE : InS → List AV
  | some r => [.fz 1 (avs r) none, .bool false]
  | none => [.nils, .bool true]
end Go.Ev
namespace Go.Proofs.Ytmokhopjnjecbab
open Go.Ev
set_option linter.unusedVariables false
set_option linter.unusedSimpArgs false
set_option maxRecDepth 100000
set_option maxHeartbeats 1600000
/-- Called with an In in that state it gives that, and leaves that state. -/
def Takes (F : Nat) (args : List AV) (s s' : InS) (r : AV) : Prop := ∀ (f g : Nat) (nx : Ctr), f < 9 → ∃ nx', HCalls Try.prog F (.ptr f 6 g 0 :: args) [(f, 6, g, some (inE s))] nx r [(f, 6, g, some (inE s'))] nx'
theorem num_takes {s : InS} (h : OkIn s) : Takes F_codec_In_Num [] s (inNum s).2 (.int .i64 ((inNum s).1 : Nat)) := by
  intro f g nx _
  refine ⟨nx, ?_⟩
  cases s with
  | none => exact num_bad f 6 g _ nx
  | some r =>
    obtain ⟨h1, h2⟩ := h r rfl
    simp only [inNum]
    split
    · rename_i hn; exact num_no h1 h2 hn f 6 g nx
    · rename_i n hn; exact num_ok h1 h2 hn rfl rfl f 6 g nx
theorem count_takes {s : InS} (h : OkIn s) (most : Int) : Takes F_codec_In_Count [.int .i64 most] s (inCount most s).2 (.int .i64 ((inCount most s).1 : Nat)) := by
  intro f g nx _
  refine ⟨nx, ?_⟩
  cases s with
  | none =>
    rw [inCount_bad most rfl]
    by_cases h0 : most < 0
    · exact count_bad' f 6 g _ most h0 nx
    · exact count_bad f 6 g _ most (by omega) nx
  | some r =>
    obtain ⟨h1, h2⟩ := h r rfl
    cases hn : takeGo 0 r with
    | none => rw [inCount_bad most (inNum_no hn)]; exact count_no h1 h2 hn f 6 g most nx
    | some n =>
      have e := inNum_yes hn
      by_cases h0 : most < (lowS (r.take n) : Nat)
      · rw [inCount_many (by rw [e]; exact h0)]; exact count_much h1 h2 hn rfl rfl most (.inl h0) f 6 g nx
      · rw [inCount_few (by rw [e]; exact h0), e]; exact count_ok h1 h2 hn rfl rfl most (by omega) (by omega) f 6 g nx
theorem bool_takes {s : InS} (h : OkIn s) : Takes F_codec_In_Bool [] s (inBool s).2 (.bool (inBool s).1) := by
  intro f g nx hf
  have := count_takes h 1 f g nx hf
  obtain ⟨nx', h1⟩ := this
  have hc : nx' = nx ∨ True := .inr trivial
  refine ⟨nx', ?_⟩
  refine hcalls_codec_In_Bool 1 [(f, 6)] (walk0 100 trivial (fun A eA => ?_))
  simp (disch := first | omega | (simp only [avs_len, List.length_cons, List.length_append, List.length_nil, List.length_take, List.length_drop, List.length_map]; omega) | (simp only [cells, scal1, allSz, List.length_cons, List.length_nil, List.length_append, List.length_map, List.all_cons, List.all_nil, avs_len, beq_self_eq_true, Bool.and_self, and_self, or_true, true_or, reduceCtorEq, *]; done) | fail) only [c_codec_In_Bool, go_sem, Nat.reduceAdd, Nat.reduceSub, Nat.reduceMul, Nat.reduceLT, Nat.reduceLeDiff, Int.reduceToNat, Nat.reduceEqDiff, Nat.reduceBEq, ↓reduceIte, reduceCtorEq, eA, scal1]
  refine call2 100 trivial trivial [(f, 6)] (by simp only [go_sem, Nat.reduceAdd, Nat.reduceSub, Nat.reduceMul, Nat.reduceLT, Nat.reduceLeDiff, Int.reduceToNat, Nat.reduceEqDiff, Nat.reduceBEq, ↓reduceIte, reduceCtorEq] <;> rfl) (by simp only [go_sem, Nat.reduceAdd, Nat.reduceSub, Nat.reduceMul, Nat.reduceLT, Nat.reduceLeDiff, Int.reduceToNat, Nat.reduceEqDiff, Nat.reduceBEq, ↓reduceIte, reduceCtorEq] <;> rfl) h1 (.inl rfl) (fun A eA => ?_)
  simp (disch := first | omega | (simp only [avs_len, List.length_cons, List.length_append, List.length_nil, List.length_take, List.length_drop, List.length_map]; omega) | (simp only [cells, scal1, allSz, List.length_cons, List.length_nil, List.length_append, List.length_map, List.all_cons, List.all_nil, avs_len, beq_self_eq_true, Bool.and_self, and_self, or_true, true_or, reduceCtorEq, *]; done) | fail) only [c_codec_In_Bool, go_sem, Nat.reduceAdd, Nat.reduceSub, Nat.reduceMul, Nat.reduceLT, Nat.reduceLeDiff, Int.reduceToNat, Nat.reduceEqDiff, Nat.reduceBEq, ↓reduceIte, reduceCtorEq, eA, scal1]
  have e : (((inCount 1 s).1 : Nat) : Int) = 1 ↔ (inCount 1 s).1 = 1 := by omega
  exact doneH (by simp only [go_sem, Nat.reduceAdd, Nat.reduceSub, Nat.reduceMul, Nat.reduceLT, Nat.reduceLeDiff, Int.reduceToNat, Nat.reduceEqDiff, Nat.reduceBEq, ↓reduceIte, reduceCtorEq]; rfl) (by simp only [inBool, e]; rfl) rfl
theorem text_takes {s : InS} (h : OkIn s) : Takes F_codec_In_Text [] s (inText s).2 (.str (bstr (inText s).1)) := by
  intro f g nx _
  refine ⟨nx, ?_⟩
  cases s with
  | none => exact text_bad f 6 g _ nx
  | some r =>
    obtain ⟨h1, h2⟩ := h r rfl
    cases hn : takeGo 0 r with
    | none => rw [inText_no hn]; exact text_no h1 h2 hn f 6 g nx
    | some n =>
      rw [inText_yes hn]
      by_cases h0 : (r.drop n).length < lowS (r.take n)
      · rw [if_pos h0]; exact text_much h1 h2 hn rfl rfl h0 f 6 g nx
      · rw [if_neg h0]; exact text_ok h1 h2 hn rfl rfl (by omega) f 6 g nx
theorem bad_takes (s : InS) : Takes F_codec_In_Bad [] s s (.bool s.isNone) := by
  intro f g nx _
  cases s with
  | none => exact ⟨nx, bad_h f 6 g _ _ nx⟩
  | some r => exact ⟨nx, bad_h f 6 g _ _ nx⟩
theorem left_takes (s : InS) : Takes F_codec_In_Left [] s s (.int .i64 ((s.getD []).length : Nat)) := by
  intro f g nx _
  cases s with
  | none => exact ⟨nx, left_n f 6 g _ nx⟩
  | some r => exact ⟨nx, left_h f 6 g r _ nx⟩
theorem done_takes (s : InS) : Takes F_codec_In_Done [] s s (.bool (decide (s = some []))) := by
  intro f g nx _
  cases s with
  | none => exact ⟨nx, done_b f 6 g _ nx⟩
  | some r =>
    cases r with
    | nil => exact ⟨nx, by rw [decide_eq_true rfl]; exact done_t f 6 g [] rfl nx⟩
    | cons b r => exact ⟨nx, by rw [decide_eq_false (by simp)]; exact done_f f 6 g (b :: r) (by simp) nx⟩
end Go.Proofs.Ytmokhopjnjecbab
/- The walk through what gathers bytes: a number. -/
-- short
namespace Go.Proofs.Ytmokhopjnjecbab
open Go.Ev
set_option linter.unusedVariables false
set_option linter.unusedSimpArgs false
set_option maxRecDepth 100000
set_option maxHeartbeats 1600000

theorem ob_app {α : Type} (K f d g : Nat) (B : Option (List AV)) (hd : d < K ∧ K < 50) (e : Option (Nat × Nat)) (bs : List Nat) (he : ObOk d e bs) (ns : List Nat) (c : Option Nat) (hn : 0 < ns.length) (hlen : bs.length + ns.length ≤ 1099511627776) (nx : Ctr) :
    ∃ key, (d < key ∧ key < 50) ∧ ∀ (ok : AV → Heap → Ctr → α) (bad : α), appK 1 1 K (obV e bs) (.fz 1 (avs ns) c) ((f, d, g, B) :: obH e bs) nx 1 ok bad = ok (.sl 1 key (nx key) 1 0 (bs ++ ns).length) ((f, d, g, B) :: obH (some (key, nx key)) (bs ++ ns)) (bump nx key) := by
  cases e with
  | none =>
    obtain rfl : bs = [] := he
    refine ⟨K, hd, fun ok bad => ?_⟩
    simp only [List.length_nil, Nat.zero_add] at hlen
    have n1 : ¬ ns.length = 0 := by omega
    have n2 : ¬ (d = K ∧ f = 1) := by omega
    have n3 : ¬ K < d := by omega
    have n4 : ns.length * 1 ≤ 1099511627776 ∧ ns.length ≤ 1099511627776 := by omega
    simp only [appK, obV, obH, avs_len, catCells_avs, if_neg n1, if_pos n4, setB, if_neg n2, if_neg n3, List.nil_append, if_true]
  | some p =>
    obtain ⟨key, g'⟩ := p
    have hk : d < key ∧ key < 50 := he
    refine ⟨key, hk, fun ok bad => ?_⟩
    have n2 : ¬ (d = key ∧ f = 1) := by omega
    have n3 : ¬ key < d := by omega
    have n4 : (bs.length + ns.length) * 1 ≤ 1099511627776 ∧ bs.length + ns.length ≤ 1099511627776 := by omega
    have n5 : (avs bs).length = bs.length * 1 := by rw [avs_len]; omega
    simp only [appK, obV, obH, avs_len, catCells_avs, setB, getB, if_neg n2, if_neg n3, and_self, if_true, true_and, if_pos n4, n5, avs_append, List.length_append]
theorem obV_nn (key g : Nat) (bs : List Nat) : obV (some (key, g)) bs = .sl 1 key g 1 0 bs.length := rfl
theorem ob_cells (e : Option (Nat × Nat)) (bs : List Nat) : cells (obV e bs) = [obV e bs] := by cases e with
  | none => rfl
  | some p => rfl
/-- A walk that falls off a function's end. -/
theorem fallH {φ : Nat} {ks : List (Nat × Nat)} {rs : List RS} {r : AV} {Hout : Heap} {nx' : Ctr} {t : List AV} {H : Heap} {nx : Ctr} (h1 : Ev.sel ks H = Hout) (h2 : getsK rs t H (fun vs => some (retv vs)) none = some r) (h3 : nx = nx') : RunsO Try.prog φ (GivesH ks rs r Hout nx') [] (.fall t H nx) :=
  RunsX.of (.nil (GivesH.of h1 h2 h3))
theorem ob_find (f d g : Nat) (B : Option (List AV)) (H : Heap) : find ((f, d, g, B) :: H) f d = some (g, B) := by simp [find]
theorem ob_get {α : Type} (f d g : Nat) (cs : List AV) (H : Heap) (ok : List AV → α) (bad : α) : getB ((f, d, g, some cs) :: H) f d g ok bad = ok cs := by simp [getB]
theorem ob_set (f d g g2 : Nat) (B B2 : Option (List AV)) (H : Heap) : setB ((f, d, g, B) :: H) f d g2 B2 = (f, d, g2, B2) :: H := by simp [setB]
theorem ob_sel (f d g : Nat) (B : Option (List AV)) (key g' : Nat) (bs : List Nat) (hd : d < key) : Ev.sel [(f, d), (1, key)] ((f, d, g, B) :: obH (some (key, g')) bs) = (f, d, g, B) :: obH (some (key, g')) bs := by
  have n2 : ¬ (d = key ∧ f = 1) := by omega
  simp [Ev.sel, find, obH, n2]
theorem outNum_loop (bd : Bool) (f d g : Nat) (hd : d < 26) : ∀ (n v : Nat), v < 128 ^ (n + 1) → v < 9223372036854775808 → ∀ (e : Option (Nat × Nat)) (bs : List Nat) (nx : Ctr), ObOk d e bs → bs.length + n < 1099511627776 →
    ∃ key g' nx', (d < key ∧ key < 50) ∧ RunsX Try.prog 1 (GivesH [(f, d), (1, key)] [] (.tup []) ((f, d, g, some [obV (some (key, g')) (bs ++ numB v), .bool bd]) :: obH (some (key, g')) (bs ++ numB v)) nx') (i_codec_Out_Num_1 ++ [.c c_codec_Out_Num_k0])
      (s_codec_Out_Num_1 (.ptr f d g 0) (.int .i64 (v : Nat))) ((f, d, g, some [obV e bs, .bool bd]) :: obH e bs) nx := by
  intro n
  induction n with
  | zero =>
    intro v hv hv2 e bs nx he hl
    have h1 : v < 128 := by omega
    have w1 : (v % 256 : Nat) = v := by omega
    obtain ⟨key, hk, hA⟩ := ob_app (α := Out) 37 f d g (some [obV e bs, .bool bd]) (by omega) e bs he [v] (some 1) (by simp) (by simp; omega) nx
    simp only [avs, List.map_cons, List.map_nil] at hA
    refine ⟨key, nx key, bump nx key, hk, ?_⟩
    have i1 : ¬ (128 : Int) ≤ (v : Int) := by omega
    refine round (its := [.blk 1 wb_codec_Out_Num_1]) (k0 := [.c c_codec_Out_Num_k0]) 100 trivial trivial (fun A eA => ?_)
    simp (disch := first | omega | (simp only [avs_len, List.length_cons, List.length_append, List.length_nil, List.length_take, List.length_drop, List.length_map]; omega) | (simp only [cells, scal1, allSz, List.length_cons, List.length_nil, List.length_append, List.length_map, List.all_cons, List.all_nil, avs_len, beq_self_eq_true, Bool.and_self, and_self, or_true, true_or, reduceCtorEq, *]; done) | fail) only [c_codec_Out_Num, wl_codec_Out_Num_1, s_codec_Out_Num_1, c_codec_Out_Num_l1, wb_codec_Out_Num_1, c_codec_Out_Num_k0, go_sem, Nat.reduceAdd, Nat.reduceSub, Nat.reduceMul, Nat.reduceLT, Nat.reduceLeDiff, Int.reduceToNat, Nat.reduceEqDiff, Nat.reduceBEq, ↓reduceIte, reduceCtorEq, eA, i1]
    refine walk0 (its := [.c c_codec_Out_Num_k0]) 100 trivial (fun A eA => ?_)
    simp (disch := first | omega | (simp only [avs_len, List.length_cons, List.length_append, List.length_nil, List.length_take, List.length_drop, List.length_map]; omega) | (simp only [cells, scal1, allSz, List.length_cons, List.length_nil, List.length_append, List.length_map, List.all_cons, List.all_nil, avs_len, beq_self_eq_true, Bool.and_self, and_self, or_true, true_or, reduceCtorEq, *]; done) | fail) only [c_codec_Out_Num, wl_codec_Out_Num_1, s_codec_Out_Num_1, c_codec_Out_Num_l1, wb_codec_Out_Num_1, c_codec_Out_Num_k0, go_sem, Nat.reduceAdd, Nat.reduceSub, Nat.reduceMul, Nat.reduceLT, Nat.reduceLeDiff, Int.reduceToNat, Nat.reduceEqDiff, Nat.reduceBEq, ↓reduceIte, reduceCtorEq, eA, ob_find, ob_get, ob_set, wrap_u8, w1, allSz, scal1, List.all_cons, List.all_nil, Bool.and_self, beq_self_eq_true, ↓ob_cells, ↓hA]
    rw [numB_lt h1]
    rw [show obV (some (key, nx key)) (bs ++ [v]) = .sl 1 key (nx key) 1 0 (bs.length + 1) by simp [obV]]; exact fallH (ob_sel f d g _ key _ _ hk.1) rfl rfl
  | succ n ih =>
    intro v hv hv2 e bs nx he hl
    by_cases h1 : v < 128
    · have w1 : (v % 256 : Nat) = v := by omega
      obtain ⟨key, hk, hA⟩ := ob_app (α := Out) 37 f d g (some [obV e bs, .bool bd]) (by omega) e bs he [v] (some 1) (by simp) (by simp; omega) nx
      simp only [avs, List.map_cons, List.map_nil] at hA
      refine ⟨key, nx key, bump nx key, hk, ?_⟩
      have i1 : ¬ (128 : Int) ≤ (v : Int) := by omega
      refine round (its := [.blk 1 wb_codec_Out_Num_1]) (k0 := [.c c_codec_Out_Num_k0]) 100 trivial trivial (fun A eA => ?_)
      simp (disch := first | omega | (simp only [avs_len, List.length_cons, List.length_append, List.length_nil, List.length_take, List.length_drop, List.length_map]; omega) | (simp only [cells, scal1, allSz, List.length_cons, List.length_nil, List.length_append, List.length_map, List.all_cons, List.all_nil, avs_len, beq_self_eq_true, Bool.and_self, and_self, or_true, true_or, reduceCtorEq, *]; done) | fail) only [c_codec_Out_Num, wl_codec_Out_Num_1, s_codec_Out_Num_1, c_codec_Out_Num_l1, wb_codec_Out_Num_1, c_codec_Out_Num_k0, go_sem, Nat.reduceAdd, Nat.reduceSub, Nat.reduceMul, Nat.reduceLT, Nat.reduceLeDiff, Int.reduceToNat, Nat.reduceEqDiff, Nat.reduceBEq, ↓reduceIte, reduceCtorEq, eA, i1]
      refine walk0 (its := [.c c_codec_Out_Num_k0]) 100 trivial (fun A eA => ?_)
      simp (disch := first | omega | (simp only [avs_len, List.length_cons, List.length_append, List.length_nil, List.length_take, List.length_drop, List.length_map]; omega) | (simp only [cells, scal1, allSz, List.length_cons, List.length_nil, List.length_append, List.length_map, List.all_cons, List.all_nil, avs_len, beq_self_eq_true, Bool.and_self, and_self, or_true, true_or, reduceCtorEq, *]; done) | fail) only [c_codec_Out_Num, wl_codec_Out_Num_1, s_codec_Out_Num_1, c_codec_Out_Num_l1, wb_codec_Out_Num_1, c_codec_Out_Num_k0, go_sem, Nat.reduceAdd, Nat.reduceSub, Nat.reduceMul, Nat.reduceLT, Nat.reduceLeDiff, Int.reduceToNat, Nat.reduceEqDiff, Nat.reduceBEq, ↓reduceIte, reduceCtorEq, eA, ob_find, ob_get, ob_set, wrap_u8, w1, allSz, scal1, List.all_cons, List.all_nil, Bool.and_self, beq_self_eq_true, ↓ob_cells, ↓hA]
      rw [numB_lt h1]
      rw [show obV (some (key, nx key)) (bs ++ [v]) = .sl 1 key (nx key) 1 0 (bs.length + 1) by simp [obV]]; exact fallH (ob_sel f d g _ key _ _ hk.1) rfl rfl
    · obtain ⟨key, hk, hA⟩ := ob_app (α := Out) 26 f d g (some [obV e bs, .bool bd]) (by omega) e bs he [v % 128 + 128] (some 1) (by simp) (by simp; omega) nx
      simp only [avs, List.map_cons, List.map_nil] at hA
      have hq : v / 128 < 128 ^ (n + 1) := by rw [Nat.div_lt_iff_lt_mul (by omega), ← Nat.pow_succ]; exact hv
      obtain ⟨key2, g2, nx2, hk2, hih⟩ := ih (v / 128) hq (by omega) (some (key, nx key)) (bs ++ [v % 128 + 128]) (bump nx key) hk (by simp; omega)
      refine ⟨key2, g2, nx2, hk2, ?_⟩
      rw [numB_ge h1]
      rw [List.append_assoc, List.singleton_append] at hih
      clear hv hq ih
      have i1 : (128 : Int) ≤ (v : Int) := by omega
      have w1 := or128 ⟨v % 256, by omega⟩
      simp only at w1
      have w2 : v % 256 % 128 = v % 128 := by omega
      rw [w2] at w1
      have e8 : ishr .i64 (v : Int) 7 = ((v / 128 : Nat) : Int) := ishr_nat .i64 .u64 v 7 (by decide)
      refine round (its := [.blk 1 wb_codec_Out_Num_1]) (k0 := [.c c_codec_Out_Num_k0]) 100 trivial trivial (fun A eA => ?_)
      simp (disch := first | omega | (simp only [avs_len, List.length_cons, List.length_append, List.length_nil, List.length_take, List.length_drop, List.length_map]; omega) | (simp only [cells, scal1, allSz, List.length_cons, List.length_nil, List.length_append, List.length_map, List.all_cons, List.all_nil, avs_len, beq_self_eq_true, Bool.and_self, and_self, or_true, true_or, reduceCtorEq, *]; done) | fail) only [c_codec_Out_Num, wl_codec_Out_Num_1, s_codec_Out_Num_1, c_codec_Out_Num_l1, wb_codec_Out_Num_1, c_codec_Out_Num_k0, go_sem, Nat.reduceAdd, Nat.reduceSub, Nat.reduceMul, Nat.reduceLT, Nat.reduceLeDiff, Int.reduceToNat, Nat.reduceEqDiff, Nat.reduceBEq, ↓reduceIte, reduceCtorEq, eA, i1, ob_find, ob_get, ob_set, wrap_u8, w1, e8, allSz, scal1, List.all_cons, List.all_nil, Bool.and_self, beq_self_eq_true, ↓ob_cells, ↓hA]
      rw [show obV (some (key, nx key)) (bs ++ [v % 128 + 128]) = .sl 1 key (nx key) 1 0 (bs.length + 1) by simp [obV]] at hih
      exact hih
/-- Out.Num of a number, whatever lies in the Out. -/
theorem outNum_h (bd : Bool) (f d g : Nat) (hd : d < 26) (v : Nat) (hv : v < 9223372036854775808) (e : Option (Nat × Nat)) (bs : List Nat) (nx : Ctr) (he : ObOk d e bs) (hl : bs.length < 1099511627700) :
    ∃ key g' nx', (d < key ∧ key < 50) ∧ HCalls Try.prog F_codec_Out_Num [.ptr f d g 0, .int .i64 (v : Nat)] ((f, d, g, some [obV e bs, .bool bd]) :: obH e bs) nx (.tup []) ((f, d, g, some [obV (some (key, g')) (bs ++ numB v), .bool bd]) :: obH (some (key, g')) (bs ++ numB v)) nx' := by
  obtain ⟨key, g', nx', hk, h⟩ := outNum_loop bd f d g hd 8 v (by omega) hv e bs nx he (by omega)
  refine ⟨key, g', nx', hk, hcalls_codec_Out_Num 1 [(f, d), (1, key)] (walk0 100 trivial (fun A eA => ?_))⟩
  have i1 : ¬ ((v : Int) < 0) := by omega
  simp (disch := first | omega | (simp only [avs_len, List.length_cons, List.length_append, List.length_nil, List.length_take, List.length_drop, List.length_map]; omega) | (simp only [cells, scal1, allSz, List.length_cons, List.length_nil, List.length_append, List.length_map, List.all_cons, List.all_nil, avs_len, beq_self_eq_true, Bool.and_self, and_self, or_true, true_or, reduceCtorEq, *]; done) | fail) only [c_codec_Out_Num, wl_codec_Out_Num_1, s_codec_Out_Num_1, c_codec_Out_Num_l1, wb_codec_Out_Num_1, c_codec_Out_Num_k0, go_sem, Nat.reduceAdd, Nat.reduceSub, Nat.reduceMul, Nat.reduceLT, Nat.reduceLeDiff, Int.reduceToNat, Nat.reduceEqDiff, Nat.reduceBEq, ↓reduceIte, reduceCtorEq, eA, i1]
  exact h
/-- Out.Num of a number below 0. -/
theorem outNum_neg (f d g : Nat) (hd : d < 26) (v : Int) (hv : v < 0) (b : Bool) (e : Option (Nat × Nat)) (bs : List Nat) (nx : Ctr) (he : ObOk d e bs) :
    HCalls Try.prog F_codec_Out_Num [.ptr f d g 0, .int .i64 v] ((f, d, g, some [obV e bs, .bool b]) :: obH e bs) nx (.tup []) ((f, d, g, some [obV e bs, .bool true]) :: obH e bs) nx := by
  cases e with
  | none =>
    refine hcalls_codec_Out_Num 1 [(f, d)] (walk0 100 trivial (fun A eA => ?_))
    simp (disch := first | omega | (simp only [avs_len, List.length_cons, List.length_append, List.length_nil, List.length_take, List.length_drop, List.length_map]; omega) | (simp only [cells, scal1, allSz, List.length_cons, List.length_nil, List.length_append, List.length_map, List.all_cons, List.all_nil, avs_len, beq_self_eq_true, Bool.and_self, and_self, or_true, true_or, reduceCtorEq, *]; done) | fail) only [c_codec_Out_Num, wl_codec_Out_Num_1, s_codec_Out_Num_1, c_codec_Out_Num_l1, wb_codec_Out_Num_1, c_codec_Out_Num_k0, go_sem, Nat.reduceAdd, Nat.reduceSub, Nat.reduceMul, Nat.reduceLT, Nat.reduceLeDiff, Int.reduceToNat, Nat.reduceEqDiff, Nat.reduceBEq, ↓reduceIte, reduceCtorEq, eA, obV, obH, ob_get, ob_set, scal1]
    exact doneH (by simp only [go_sem, Nat.reduceAdd, Nat.reduceSub, Nat.reduceMul, Nat.reduceLT, Nat.reduceLeDiff, Int.reduceToNat, Nat.reduceEqDiff, Nat.reduceBEq, ↓reduceIte, reduceCtorEq]) rfl rfl
  | some p =>
    obtain ⟨key, g'⟩ := p
    refine hcalls_codec_Out_Num 1 [(f, d), (1, key)] (walk0 100 trivial (fun A eA => ?_))
    simp (disch := first | omega | (simp only [avs_len, List.length_cons, List.length_append, List.length_nil, List.length_take, List.length_drop, List.length_map]; omega) | (simp only [cells, scal1, allSz, List.length_cons, List.length_nil, List.length_append, List.length_map, List.all_cons, List.all_nil, avs_len, beq_self_eq_true, Bool.and_self, and_self, or_true, true_or, reduceCtorEq, *]; done) | fail) only [c_codec_Out_Num, wl_codec_Out_Num_1, s_codec_Out_Num_1, c_codec_Out_Num_l1, wb_codec_Out_Num_1, c_codec_Out_Num_k0, go_sem, Nat.reduceAdd, Nat.reduceSub, Nat.reduceMul, Nat.reduceLT, Nat.reduceLeDiff, Int.reduceToNat, Nat.reduceEqDiff, Nat.reduceBEq, ↓reduceIte, reduceCtorEq, eA, obV, obH, ob_get, ob_set, scal1]
    exact doneH (ob_sel f d g _ key _ _ he.1) rfl rfl
theorem bool_num (f d g : Nat) (c : Bool) (X X' : List AV) (H H' : Heap) (ks ks2 : List (Nat × Nat)) (nx nx' : Ctr) (hin : Ev.sel ks ((f, d, g, some X) :: H) = (f, d, g, some X) :: H) (hre : rest ks ((f, d, g, some X) :: H) = []) (hs : Ev.sel ks2 ((f, d, g, some X') :: H') = (f, d, g, some X') :: H')
    (h : HCalls Try.prog F_codec_Out_Num [.ptr f d g 0, .int .i64 (if c = true then 1 else 0)] ((f, d, g, some X) :: H) nx (.tup []) ((f, d, g, some X') :: H') nx') :
    HCalls Try.prog F_codec_Out_Bool [.ptr f d g 0, .bool c] ((f, d, g, some X) :: H) nx (.tup []) ((f, d, g, some X') :: H') nx' := by
  refine hcalls_codec_Out_Bool 2 ks2 (walk0 100 trivial (fun A eA => ?_))
  cases c with
  | true =>
    simp (disch := first | omega | (simp only [avs_len, List.length_cons, List.length_append, List.length_nil, List.length_take, List.length_drop, List.length_map]; omega) | (simp only [cells, scal1, allSz, List.length_cons, List.length_nil, List.length_append, List.length_map, List.all_cons, List.all_nil, avs_len, beq_self_eq_true, Bool.and_self, and_self, or_true, true_or, reduceCtorEq, *]; done) | fail) only [c_codec_Out_Bool, go_sem, Nat.reduceAdd, Nat.reduceSub, Nat.reduceMul, Nat.reduceLT, Nat.reduceLeDiff, Int.reduceToNat, Nat.reduceEqDiff, Nat.reduceBEq, ↓reduceIte, reduceCtorEq, eA, scal1]
    refine call2 100 trivial trivial ks hin hre h (.inl rfl) (fun A eA => ?_)
    simp (disch := first | omega | (simp only [avs_len, List.length_cons, List.length_append, List.length_nil, List.length_take, List.length_drop, List.length_map]; omega) | (simp only [cells, scal1, allSz, List.length_cons, List.length_nil, List.length_append, List.length_map, List.all_cons, List.all_nil, avs_len, beq_self_eq_true, Bool.and_self, and_self, or_true, true_or, reduceCtorEq, *]; done) | fail) only [c_codec_Out_Bool, go_sem, Nat.reduceAdd, Nat.reduceSub, Nat.reduceMul, Nat.reduceLT, Nat.reduceLeDiff, Int.reduceToNat, Nat.reduceEqDiff, Nat.reduceBEq, ↓reduceIte, reduceCtorEq, eA, scal1]
    exact doneH hs rfl rfl
  | false =>
    simp (disch := first | omega | (simp only [avs_len, List.length_cons, List.length_append, List.length_nil, List.length_take, List.length_drop, List.length_map]; omega) | (simp only [cells, scal1, allSz, List.length_cons, List.length_nil, List.length_append, List.length_map, List.all_cons, List.all_nil, avs_len, beq_self_eq_true, Bool.and_self, and_self, or_true, true_or, reduceCtorEq, *]; done) | fail) only [c_codec_Out_Bool, go_sem, Nat.reduceAdd, Nat.reduceSub, Nat.reduceMul, Nat.reduceLT, Nat.reduceLeDiff, Int.reduceToNat, Nat.reduceEqDiff, Nat.reduceBEq, ↓reduceIte, reduceCtorEq, eA, scal1]
    refine call2 100 trivial trivial ks hin hre h (.inl rfl) (fun A eA => ?_)
    simp (disch := first | omega | (simp only [avs_len, List.length_cons, List.length_append, List.length_nil, List.length_take, List.length_drop, List.length_map]; omega) | (simp only [cells, scal1, allSz, List.length_cons, List.length_nil, List.length_append, List.length_map, List.all_cons, List.all_nil, avs_len, beq_self_eq_true, Bool.and_self, and_self, or_true, true_or, reduceCtorEq, *]; done) | fail) only [c_codec_Out_Bool, go_sem, Nat.reduceAdd, Nat.reduceSub, Nat.reduceMul, Nat.reduceLT, Nat.reduceLeDiff, Int.reduceToNat, Nat.reduceEqDiff, Nat.reduceBEq, ↓reduceIte, reduceCtorEq, eA, scal1]
    exact fallH hs rfl rfl
end Go.Proofs.Ytmokhopjnjecbab
/- The lemmas for Out.Text and End: names of an Out's rows, an append to a row that is there. -/
namespace Go.Proofs.Ytmokhopjnjecbab
open Go.Ev
set_option linter.unusedVariables false
set_option linter.unusedSimpArgs false
set_option maxRecDepth 100000
set_option maxHeartbeats 1600000

def obK (f d : Nat) (e : Option (Nat × Nat)) : List (Nat × Nat) := match e with
  | none => [(f, d)]
  | some (key, _) => [(f, d), (1, key)]
theorem obK_sel (f d g : Nat) (B : Option (List AV)) (e : Option (Nat × Nat)) (bs : List Nat) (he : ObOk d e bs) : Ev.sel (obK f d e) ((f, d, g, B) :: obH e bs) = (f, d, g, B) :: obH e bs := by
  cases e with
  | none => simp [obK, obH, Ev.sel, find]
  | some p =>
    have h : d < p.1 := he.1
    exact ob_sel f d g B p.1 p.2 bs h
theorem obK_rest (f d g : Nat) (B : Option (List AV)) (e : Option (Nat × Nat)) (bs : List Nat) : rest (obK f d e) ((f, d, g, B) :: obH e bs) = [] := by
  cases e with
  | none => simp [obK, obH, rest, keyIn, kill]
  | some p => simp [obK, obH, rest, keyIn, kill]
theorem ob_app_some {α : Type} (K f d g : Nat) (B : Option (List AV)) (key g' : Nat) (bs : List Nat) (hk : d < key) (ns : List Nat) (c : Option Nat) (hlen : bs.length + ns.length ≤ 1099511627776) (nx : Ctr) (ok : AV → Heap → Ctr → α) (bad : α) :
    appK 1 1 K (obV (some (key, g')) bs) (.fz 1 (avs ns) c) ((f, d, g, B) :: obH (some (key, g')) bs) nx 1 ok bad = ok (.sl 1 key (nx key) 1 0 (bs ++ ns).length) ((f, d, g, B) :: obH (some (key, nx key)) (bs ++ ns)) (bump nx key) := by
  have n2 : ¬ (d = key ∧ f = 1) := by omega
  have n3 : ¬ key < d := by omega
  have n4 : (bs.length + ns.length) * 1 ≤ 1099511627776 ∧ bs.length + ns.length ≤ 1099511627776 := by omega
  have n5 : (avs bs).length = bs.length * 1 := by rw [avs_len]; omega
  simp only [appK, obV, obH, avs_len, catCells_avs, setB, getB, if_neg n2, if_neg n3, and_self, if_true, true_and, if_pos n4, n5, avs_append, List.length_append]
end Go.Proofs.Ytmokhopjnjecbab
/- The walk through Out.Text. -/
-- short
namespace Go.Proofs.Ytmokhopjnjecbab
open Go.Ev
set_option linter.unusedVariables false
set_option linter.unusedSimpArgs false
set_option maxRecDepth 100000
set_option maxHeartbeats 1600000

theorem outText_h (bd : Bool) (f d g : Nat) (hd : d < 26) (s : ByteArray) (hs : s.size ≤ 2000) (e : Option (Nat × Nat)) (bs : List Nat) (nx : Ctr) (he : ObOk d e bs) (hl : bs.length < 1099511620000) :
    ∃ key g' nx', (d < key ∧ key < 50) ∧ HCalls Try.prog F_codec_Out_Text [.ptr f d g 0, .str s] ((f, d, g, some [obV e bs, .bool bd]) :: obH e bs) nx (.tup []) ((f, d, g, some [obV (some (key, g')) (bs ++ (numB s.size ++ sbs s)), .bool bd]) :: obH (some (key, g')) (bs ++ (numB s.size ++ sbs s))) nx' := by
  obtain ⟨key, g1, nx1, hk, hn⟩ := outNum_h bd f d g hd s.size (by omega) e bs nx he (by omega)
  have hnl := numB_len 9 s.size (by omega)
  have hsl := sbs_len s
  have hA := fun ok b => ob_app_some (α := Out) 16 f d g (some [obV (some (key, g1)) (bs ++ numB s.size), .bool bd]) key g1 (bs ++ numB s.size) hk.1 (sbs s) none (by rw [List.length_append]; omega) nx1 ok b
  refine ⟨key, nx1 key, bump nx1 key, hk, hcalls_codec_Out_Text 1 [(f, d), (1, key)] (walk0 100 trivial (fun A eA => ?_))⟩
  simp (disch := first | omega | (simp only [avs_len, List.length_cons, List.length_append, List.length_nil, List.length_take, List.length_drop, List.length_map]; omega) | (simp only [cells, scal1, allSz, List.length_cons, List.length_nil, List.length_append, List.length_map, List.all_cons, List.all_nil, avs_len, beq_self_eq_true, Bool.and_self, and_self, or_true, true_or, reduceCtorEq, *]; done) | fail) only [c_codec_Out_Text, go_sem, Nat.reduceAdd, Nat.reduceSub, Nat.reduceMul, Nat.reduceLT, Nat.reduceLeDiff, Int.reduceToNat, Nat.reduceEqDiff, Nat.reduceBEq, ↓reduceIte, reduceCtorEq, eA, scal1]
  refine call2 100 trivial trivial (obK f d e) (obK_sel f d g _ e bs he) (obK_rest f d g _ e bs) hn (.inl rfl) (fun A eA => ?_)
  simp (disch := first | omega | (simp only [avs_len, List.length_cons, List.length_append, List.length_nil, List.length_take, List.length_drop, List.length_map]; omega) | (simp only [cells, scal1, allSz, List.length_cons, List.length_nil, List.length_append, List.length_map, List.all_cons, List.all_nil, avs_len, beq_self_eq_true, Bool.and_self, and_self, or_true, true_or, reduceCtorEq, *]; done) | fail) only [c_codec_Out_Text, go_sem, Nat.reduceAdd, Nat.reduceSub, Nat.reduceMul, Nat.reduceLT, Nat.reduceLeDiff, Int.reduceToNat, Nat.reduceEqDiff, Nat.reduceBEq, ↓reduceIte, reduceCtorEq, eA, ob_find, ob_get, ob_set, avBytes_sbs, scal1, List.all_cons, List.all_nil, Bool.and_self, ↓hA]
  rw [show obV (some (key, nx1 key)) (bs ++ (numB s.size ++ sbs s)) = .sl 1 key (nx1 key) 1 0 (bs.length + (numB s.size).length + (sbs s).length) by simp [obV, Nat.add_assoc], ← List.append_assoc]
  exact fallH (ob_sel f d g _ key _ _ hk.1) rfl rfl
end Go.Proofs.Ytmokhopjnjecbab
/- The walk through Out.End; what is put is taken as it was: plain. -/
-- short
namespace Go.Proofs.Ytmokhopjnjecbab
open Go.Ev
set_option linter.unusedVariables false
set_option linter.unusedSimpArgs false
set_option maxRecDepth 100000
set_option maxHeartbeats 1600000

/-- A copy of a row that may be written. -/
theorem cloneRow_h (φ f d g : Nat) (bs : List Nat) (h0 : bs ≠ []) (hlen : bs.length ≤ 1099511627776) (hd : ¬ (d = 7 ∧ f = φ)) (nx : Ctr) :
    HCalls Try.prog F_bytes_Clone [.sl f d g 1 0 bs.length] [(f, d, g, some (avs bs))] nx (.sl φ 7 (nx 7) 1 0 bs.length) [(f, d, g, some (avs bs)), (φ, 7, nx 7, some (avs bs))] (bump nx 7) := by
  have hp : 0 < bs.length := List.length_pos_iff.2 h0
  have n1 : ¬ bs.length = 0 := by omega
  have hT : (avs bs).take bs.length = avs bs := avs_take_all _ _ (Nat.le_refl _)
  have hd2 : ¬ (7 = d ∧ φ = f) := fun e => hd ⟨e.1.symm, e.2.symm⟩
  refine hcalls_bytes_Clone φ [(f, d), (φ, 7)] (walk0 100 trivial (fun A eA => ?_))
  by_cases h7 : 7 < d
  · simp (disch := first | omega | (simp only [avs_len, List.length_cons, List.length_append, List.length_nil, List.length_take, List.length_drop, List.length_map]; omega) | (simp only [cells, scal1, allSz, List.length_cons, List.length_nil, List.length_append, List.length_map, List.all_cons, List.all_nil, avs_len, beq_self_eq_true, Bool.and_self, and_self, or_true, true_or, reduceCtorEq, *]; done) | fail) only [c_bytes_Clone, go_sem, Nat.reduceAdd, Nat.reduceSub, Nat.reduceMul, Nat.reduceLT, Nat.reduceLeDiff, Int.reduceToNat, Nat.reduceEqDiff, Nat.reduceBEq, ↓reduceIte, reduceCtorEq, eA, ↓appK, allSz, avs_len, n1, hp, hlen, hT, catCells, hd, h7]
    exact doneH (by simp [Ev.sel, find, hd, hd2]) rfl rfl
  · simp (disch := first | omega | (simp only [avs_len, List.length_cons, List.length_append, List.length_nil, List.length_take, List.length_drop, List.length_map]; omega) | (simp only [cells, scal1, allSz, List.length_cons, List.length_nil, List.length_append, List.length_map, List.all_cons, List.all_nil, avs_len, beq_self_eq_true, Bool.and_self, and_self, or_true, true_or, reduceCtorEq, *]; done) | fail) only [c_bytes_Clone, go_sem, Nat.reduceAdd, Nat.reduceSub, Nat.reduceMul, Nat.reduceLT, Nat.reduceLeDiff, Int.reduceToNat, Nat.reduceEqDiff, Nat.reduceBEq, ↓reduceIte, reduceCtorEq, eA, ↓appK, allSz, avs_len, n1, hp, hlen, hT, catCells, hd, h7]
    exact doneH (by simp [Ev.sel, find, hd, hd2]) rfl rfl
theorem cloneNil_h (φ : Nat) (nx : Ctr) : HCalls Try.prog F_bytes_Clone [.nils] [] nx .nils [] nx := by
  refine hcalls_bytes_Clone φ [] (walk0 100 trivial (fun A eA => ?_))
  simp (disch := first | omega | (simp only [avs_len, List.length_cons, List.length_append, List.length_nil, List.length_take, List.length_drop, List.length_map]; omega) | (simp only [cells, scal1, allSz, List.length_cons, List.length_nil, List.length_append, List.length_map, List.all_cons, List.all_nil, avs_len, beq_self_eq_true, Bool.and_self, and_self, or_true, true_or, reduceCtorEq, *]; done) | fail) only [c_bytes_Clone, go_sem, Nat.reduceAdd, Nat.reduceSub, Nat.reduceMul, Nat.reduceLT, Nat.reduceLeDiff, Int.reduceToNat, Nat.reduceEqDiff, Nat.reduceBEq, ↓reduceIte, reduceCtorEq, eA, ↓appK]
  exact doneH rfl rfl rfl
theorem outEnd_bad (f d g : Nat) (e : Option (Nat × Nat)) (bs : List Nat) (he : ObOk d e bs) (nx : Ctr) :
    HCalls Try.prog F_codec_Out_End [.ptr f d g 0] ((f, d, g, some [obV e bs, .bool true]) :: obH e bs) nx (.tup [.nils, .int .i64 1]) ((f, d, g, some [obV e bs, .bool true]) :: obH e bs) nx := by
  refine hcalls_codec_Out_End 7 (obK f d e) (walk0 100 trivial (fun A eA => ?_))
  simp (disch := first | omega | (simp only [avs_len, List.length_cons, List.length_append, List.length_nil, List.length_take, List.length_drop, List.length_map]; omega) | (simp only [cells, scal1, allSz, List.length_cons, List.length_nil, List.length_append, List.length_map, List.all_cons, List.all_nil, avs_len, beq_self_eq_true, Bool.and_self, and_self, or_true, true_or, reduceCtorEq, *]; done) | fail) only [c_codec_Out_End, go_sem, Nat.reduceAdd, Nat.reduceSub, Nat.reduceMul, Nat.reduceLT, Nat.reduceLeDiff, Int.reduceToNat, Nat.reduceEqDiff, Nat.reduceBEq, ↓reduceIte, reduceCtorEq, eA, ob_find, ob_get, scal1]
  exact doneH (obK_sel f d g _ e bs he) rfl rfl
theorem outEnd_none (f d g : Nat) (nx : Ctr) :
    HCalls Try.prog F_codec_Out_End [.ptr f d g 0] [(f, d, g, some [.nils, .bool false])] nx (.tup [.nils, .int .i64 0]) [(f, d, g, some [.nils, .bool false])] nx := by
  refine hcalls_codec_Out_End 7 [(f, d)] (walk0 100 trivial (fun A eA => ?_))
  simp (disch := first | omega | (simp only [avs_len, List.length_cons, List.length_append, List.length_nil, List.length_take, List.length_drop, List.length_map]; omega) | (simp only [cells, scal1, allSz, List.length_cons, List.length_nil, List.length_append, List.length_map, List.all_cons, List.all_nil, avs_len, beq_self_eq_true, Bool.and_self, and_self, or_true, true_or, reduceCtorEq, *]; done) | fail) only [c_codec_Out_End, go_sem, Nat.reduceAdd, Nat.reduceSub, Nat.reduceMul, Nat.reduceLT, Nat.reduceLeDiff, Int.reduceToNat, Nat.reduceEqDiff, Nat.reduceBEq, ↓reduceIte, reduceCtorEq, eA, ob_find, ob_get, scal1]
  refine call2 100 trivial trivial [] rfl rfl (cloneNil_h 8 nx) (.inr ⟨rfl, rfl⟩) (fun A eA => ?_)
  simp (disch := first | omega | (simp only [avs_len, List.length_cons, List.length_append, List.length_nil, List.length_take, List.length_drop, List.length_map]; omega) | (simp only [cells, scal1, allSz, List.length_cons, List.length_nil, List.length_append, List.length_map, List.all_cons, List.all_nil, avs_len, beq_self_eq_true, Bool.and_self, and_self, or_true, true_or, reduceCtorEq, *]; done) | fail) only [c_codec_Out_End, go_sem, Nat.reduceAdd, Nat.reduceSub, Nat.reduceMul, Nat.reduceLT, Nat.reduceLeDiff, Int.reduceToNat, Nat.reduceEqDiff, Nat.reduceBEq, ↓reduceIte, reduceCtorEq, eA, ob_find, ob_get, scal1]
  exact doneH (by simp only [go_sem, Nat.reduceAdd, Nat.reduceSub, Nat.reduceMul, Nat.reduceLT, Nat.reduceLeDiff, Int.reduceToNat, Nat.reduceEqDiff, Nat.reduceBEq, ↓reduceIte, reduceCtorEq]) rfl rfl
theorem outEnd_some (f d g key g' : Nat) (hf : f ≠ 1) (hf8 : f ≠ 8) (bs : List Nat) (h0 : bs ≠ []) (hlen : bs.length ≤ 1099511627776) (nx : Ctr) :
    HCalls Try.prog F_codec_Out_End [.ptr f d g 0] [(f, d, g, some [.sl 1 key g' 1 0 bs.length, .bool false]), (1, key, g', some (avs bs))] nx (.tup [.sl 8 7 (nx 7) 1 0 bs.length, .int .i64 0])
      [(f, d, g, some [.sl 1 key g' 1 0 bs.length, .bool false]), (1, key, g', some (avs bs)), (8, 7, nx 7, some (avs bs))] (bump nx 7) := by
  refine hcalls_codec_Out_End 7 [(f, d), (1, key), (8, 7)] (walk0 100 trivial (fun A eA => ?_))
  have s1 : Ev.sel [(1, key)] [(f, d, g, some [.sl 1 key g' 1 0 bs.length, .bool false]), (1, key, g', some (avs bs))] = [(1, key, g', some (avs bs))] := by simp [Ev.sel, find, hf]
  have s2 : rest [(1, key)] [(f, d, g, some [.sl 1 key g' 1 0 bs.length, .bool false]), (1, key, g', some (avs bs))] = [(f, d, g, some [.sl 1 key g' 1 0 bs.length, .bool false])] := by simp [rest, keyIn, Ne.symm hf]
  have hav : ∀ H : Heap, (avs bs).all (nameFree 9 H) = true := fun H => by simp [avs, nameFree]
  simp (disch := first | omega | (simp only [avs_len, List.length_cons, List.length_append, List.length_nil, List.length_take, List.length_drop, List.length_map]; omega) | (simp only [cells, scal1, allSz, List.length_cons, List.length_nil, List.length_append, List.length_map, List.all_cons, List.all_nil, avs_len, beq_self_eq_true, Bool.and_self, and_self, or_true, true_or, reduceCtorEq, *]; done) | fail) only [c_codec_Out_End, go_sem, Nat.reduceAdd, Nat.reduceSub, Nat.reduceMul, Nat.reduceLT, Nat.reduceLeDiff, Int.reduceToNat, Nat.reduceEqDiff, Nat.reduceBEq, ↓reduceIte, reduceCtorEq, eA, ob_find, ob_get, scal1]
  refine call2 100 trivial trivial [(1, key)] s1 s2 (cloneRow_h 8 1 key g' bs h0 hlen (by omega) nx) (.inr ⟨by simp [nameFree, find, hf8], by simp only [heapFree, hav, Bool.and_self]⟩) (fun A eA => ?_)
  simp (disch := first | omega | (simp only [avs_len, List.length_cons, List.length_append, List.length_nil, List.length_take, List.length_drop, List.length_map]; omega) | (simp only [cells, scal1, allSz, List.length_cons, List.length_nil, List.length_append, List.length_map, List.all_cons, List.all_nil, avs_len, beq_self_eq_true, Bool.and_self, and_self, or_true, true_or, reduceCtorEq, *]; done) | fail) only [c_codec_Out_End, go_sem, Nat.reduceAdd, Nat.reduceSub, Nat.reduceMul, Nat.reduceLT, Nat.reduceLeDiff, Int.reduceToNat, Nat.reduceEqDiff, Nat.reduceBEq, ↓reduceIte, reduceCtorEq, eA, ob_find, ob_get, scal1]
  exact doneH (by simp [Ev.sel, find, hf, hf8, Ne.symm hf, Ne.symm hf8]) rfl rfl
end Go.Proofs.Ytmokhopjnjecbab
/- What gathers bytes, as contracts over one state. -/
-- short
namespace Go.Proofs.Ytmokhopjnjecbab
open Go.Ev
set_option linter.unusedVariables false
set_option linter.unusedSimpArgs false
set_option maxRecDepth 100000
set_option maxHeartbeats 1600000
/-- An Out that holds these bytes. -/
abbrev outS (f d g : Nat) (e : Option (Nat × Nat)) (bs : List Nat) : Heap := (f, d, g, some [obV e bs, .bool false]) :: obH e bs
/-- Called with an Out it puts these bytes. -/
def Puts (F : Nat) (args : List AV) (B : List Nat) : Prop := ∀ (f d g : Nat), d < 26 → ∀ (e : Option (Nat × Nat)) (bs : List Nat) (nx : Ctr), ObOk d e bs → bs.length + B.length < 1000000000 →
  ∃ key g' nx', (d < key ∧ key < 50) ∧ HCalls Try.prog F (.ptr f d g 0 :: args) (outS f d g e bs) nx (.tup []) (outS f d g (some (key, g')) (bs ++ B)) nx'
theorem num_puts (v : Nat) (hv : v < 9223372036854775808) : Puts F_codec_Out_Num [.int .i64 (v : Nat)] (numB v) :=
  fun f d g hd e bs nx he hl => outNum_h false f d g hd v hv e bs nx he (by omega)
theorem text_puts (s : ByteArray) (hs : s.size ≤ 2000) : Puts F_codec_Out_Text [.str s] (numB s.size ++ sbs s) :=
  fun f d g hd e bs nx he hl => outText_h false f d g hd s hs e bs nx he (by omega)
theorem bool_puts (b : Bool) : Puts F_codec_Out_Bool [.bool b] (numB (if b = true then 1 else 0)) := by
  intro f d g hd e bs nx he hl
  obtain ⟨key, g', nx', hk, h⟩ := outNum_h false f d g hd (if b = true then 1 else 0) (by split <;> omega) e bs nx he (by omega)
  refine ⟨key, g', nx', hk, bool_num f d g b _ _ _ _ (obK f d e) [(f, d), (1, key)] nx nx' (obK_sel f d g _ e bs he) (obK_rest f d g _ e bs) (ob_sel f d g _ key _ _ hk.1) ?_⟩
  cases b
  · exact h
  · exact h
theorem bool0_puts : Puts F_codec_Out_Bool [.bool false] (numB 0) := bool_puts false
theorem bool1_puts : Puts F_codec_Out_Bool [.bool true] (numB 1) := bool_puts true
end Go.Proofs.Ytmokhopjnjecbab
/- Trees as bytes: plain. -/
namespace Go.Ev
set_option linter.unusedVariables false
/-- A tree's bytes. -/
def putE : E → List Nat
  | .lf n => numB n ++ numB 0
  | .nd n l r => numB n ++ numB 1 ++ putE l ++ putE r
/-- What is taken as a tree. -/
def getE : Nat → InS → ET × InS
  | 0, s => (.mk (inNum s).1 [], (inBool (inNum s).2).2)
  | d + 1, s => if (inBool (inNum s).2).1 = true then (.mk (inNum s).1 [(getE d (inBool (inNum s).2).2).1, (getE d (getE d (inBool (inNum s).2).2).2).1], (getE d (getE d (inBool (inNum s).2).2).2).2)
    else (.mk (inNum s).1 [], (inBool (inNum s).2).2)
theorem getE_ok : ∀ (d : Nat) {s : InS}, OkIn s → OkIn (getE d s).2
  | 0, s, h => inBool_ok (inNum_ok h)
  | d + 1, s, h => by
    simp only [getE]
    split
    · exact getE_ok d (getE_ok d (inBool_ok (inNum_ok h)))
    · exact inBool_ok (inNum_ok h)
theorem putE_len : ∀ (b : E), b.small = true → (putE b).length ≤ 20 * b.nodes
  | .lf n, h => by
    simp only [E.small, decide_eq_true_eq] at h
    have := numB_len 9 n (by omega)
    have := numB_len 9 0 (by omega)
    simp only [putE, List.length_append, E.nodes]; omega
  | .nd n l r, h => by
    simp only [E.small, Bool.and_eq_true, decide_eq_true_eq] at h
    have := numB_len 9 n (by omega)
    have := numB_len 9 1 (by omega)
    have := putE_len l h.1.2
    have := putE_len r h.2
    simp only [putE, List.length_append, E.nodes]; omega
theorem putE_256 : ∀ (b : E), b.small = true → ∀ x ∈ putE b, x < 256
  | .lf n, h, x, hx => by
    simp only [E.small, decide_eq_true_eq] at h
    simp only [putE, List.mem_append] at hx
    rcases hx with hx | hx
    · exact numB_256 9 n (by omega) x hx
    · exact numB_256 9 _ (by omega) x hx
  | .nd n l r, h, x, hx => by
    simp only [E.small, Bool.and_eq_true, decide_eq_true_eq] at h
    simp only [putE, List.mem_append] at hx
    rcases hx with ((hx | hx) | hx) | hx
    · exact numB_256 9 n (by omega) x hx
    · exact numB_256 9 _ (by omega) x hx
    · exact putE_256 l h.1.2 x hx
    · exact putE_256 r h.2 x hx
/-- What was put is taken as it was. -/
theorem getE_putE : ∀ (b : E) (d : Nat) (r : List Nat), b.small = true → b.dep ≤ d + 1 → getE d (some (putE b ++ r)) = (b.t, some r)
  | .lf n, d, r, h, _ => by
    simp only [E.small, decide_eq_true_eq] at h
    have e1 : inNum (some (putE (.lf n) ++ r)) = (n, some (numB 0 ++ r)) := by
      simp only [putE]; rw [List.append_assoc]; exact inNum_numB n _ (by omega)
    have e2 := inBool_0 r
    cases d with
    | zero => rw [getE, e1]; simp only; rw [e2]; rfl
    | succ d => rw [getE, e1]; simp only; rw [e2]; rfl
  | .nd n l r1, d, r, h, hd => by
    simp only [E.small, Bool.and_eq_true, decide_eq_true_eq] at h
    have hl : 1 ≤ l.dep := l.dep_pos
    simp only [E.dep] at hd
    have e1 : inNum (some (putE (.nd n l r1) ++ r)) = (n, some (numB 1 ++ (putE l ++ (putE r1 ++ r)))) := by
      simp only [putE, List.append_assoc]; exact inNum_numB n _ (by omega)
    have e2 := inBool_1 (putE l ++ (putE r1 ++ r))
    cases d with
    | zero => omega
    | succ d =>
      have e3 := getE_putE l d (putE r1 ++ r) h.1.2 (by omega)
      have e4 := getE_putE r1 d r h.2 (by omega)
      rw [getE, e1]; simp only; rw [e2]; simp only; rw [e3]; simp only; rw [e4]; rfl
end Go.Ev
/- The walks through what puts and takes event trees. -/
-- short
-- fuel 300
namespace Go.Proofs.Ytmokhopjnjecbab
open Go.Ev
set_option linter.unusedVariables false
set_option linter.unusedSimpArgs false
set_option maxRecDepth 100000
set_option maxHeartbeats 1600000
theorem evput_puts : ∀ (b : E) (deep : Nat), b.small = true → b.dep ≤ deep → deep ≤ 100 → b.nodes ≤ 1000 → ∀ (f d g : Nat), d < 26 → ∀ (e : Option (Nat × Nat)) (bs : List Nat) (nx : Ctr), ObOk d e bs → bs.length + (putE b).length < 1000000000 →
    ∃ key g' nx', (d < key ∧ key < 50) ∧ HCalls Try.prog F_event_put [.ptr f d g 0, xtv b.t, .int .i64 (deep : Nat)] (outS f d g e bs) nx (.tup []) (outS f d g (some (key, g')) (bs ++ putE b)) nx'
  | .lf n, deep, hs, hdp, hdeep, hn, f, d, g, hd, e, bs, nx, he, hl => by
    simp only [E.small, decide_eq_true_eq] at hs
    simp only [putE, List.length_append] at hl
    obtain ⟨k1, g1, nx1, hk1, h1⟩ := num_puts n (by omega) f d g hd e bs nx he (by omega)
    obtain ⟨k2, g2, nx2, hk2, h2⟩ := bool0_puts f d g hd (some (k1, g1)) (bs ++ numB n) nx1 hk1 (by simp only [List.length_append]; omega)
    refine ⟨k2, g2, nx2, hk2, hcalls_event_put 2 [(f, d), (1, k2)] (walk0 300 trivial (fun A eA => ?_))⟩
    simp (disch := first | omega | (simp only [avs_len, List.length_cons, List.length_append, List.length_nil, List.length_take, List.length_drop, List.length_map]; omega) | (simp only [cells, scal1, allSz, List.length_cons, List.length_nil, List.length_append, List.length_map, List.all_cons, List.all_nil, avs_len, beq_self_eq_true, Bool.and_self, and_self, or_true, true_or, reduceCtorEq, *]; done) | fail) only [c_event_put, go_sem, Nat.reduceAdd, Nat.reduceSub, Nat.reduceMul, Nat.reduceLT, Nat.reduceLeDiff, Int.reduceToNat, Nat.reduceEqDiff, Nat.reduceBEq, ↓reduceIte, reduceCtorEq, eA, scal1, E.t, xtavs]
    refine call2 300 trivial trivial (obK f d e) (obK_sel f d g _ e bs he) (obK_rest f d g _ e bs) h1 (.inl rfl) (fun A eA => ?_)
    simp (disch := first | omega | (simp only [avs_len, List.length_cons, List.length_append, List.length_nil, List.length_take, List.length_drop, List.length_map]; omega) | (simp only [cells, scal1, allSz, List.length_cons, List.length_nil, List.length_append, List.length_map, List.all_cons, List.all_nil, avs_len, beq_self_eq_true, Bool.and_self, and_self, or_true, true_or, reduceCtorEq, *]; done) | fail) only [c_event_put, go_sem, Nat.reduceAdd, Nat.reduceSub, Nat.reduceMul, Nat.reduceLT, Nat.reduceLeDiff, Int.reduceToNat, Nat.reduceEqDiff, Nat.reduceBEq, ↓reduceIte, reduceCtorEq, eA, scal1]
    refine call2 300 trivial trivial (obK f d (some (k1, g1))) (obK_sel f d g _ (some (k1, g1)) _ hk1) (obK_rest f d g _ (some (k1, g1)) _) h2 (.inl rfl) (fun A eA => ?_)
    simp (disch := first | omega | (simp only [avs_len, List.length_cons, List.length_append, List.length_nil, List.length_take, List.length_drop, List.length_map]; omega) | (simp only [cells, scal1, allSz, List.length_cons, List.length_nil, List.length_append, List.length_map, List.all_cons, List.all_nil, avs_len, beq_self_eq_true, Bool.and_self, and_self, or_true, true_or, reduceCtorEq, *]; done) | fail) only [c_event_put, go_sem, Nat.reduceAdd, Nat.reduceSub, Nat.reduceMul, Nat.reduceLT, Nat.reduceLeDiff, Int.reduceToNat, Nat.reduceEqDiff, Nat.reduceBEq, ↓reduceIte, reduceCtorEq, eA, scal1]
    rw [show bs ++ putE (.lf n) = bs ++ numB n ++ numB 0 by simp only [putE, List.append_assoc]]
    exact fallH (ob_sel f d g _ k2 _ _ hk2.1) rfl rfl
  | .nd n l r, deep, hs, hdp, hdeep, hn, f, d, g, hd, e, bs, nx, he, hl => by
    simp only [E.small, Bool.and_eq_true, decide_eq_true_eq] at hs
    simp only [putE, List.length_append] at hl
    simp only [E.nodes] at hn
    simp only [E.dep] at hdp
    have hl1 := l.dep_pos
    obtain ⟨dp, rfl⟩ : ∃ dp, deep = dp + 1 := ⟨deep - 1, by omega⟩
    obtain ⟨k1, g1, nx1, hk1, h1⟩ := num_puts n (by omega) f d g hd e bs nx he (by omega)
    obtain ⟨k2, g2, nx2, hk2, h2⟩ := bool1_puts f d g hd (some (k1, g1)) (bs ++ numB n) nx1 hk1 (by simp only [List.length_append]; omega)
    obtain ⟨k3, g3, nx3, hk3, h3⟩ := evput_puts l dp hs.1.2 (by omega) (by omega) (by omega) f d g hd (some (k2, g2)) (bs ++ numB n ++ numB 1) nx2 hk2 (by simp only [List.length_append]; omega)
    obtain ⟨k4, g4, nx4, hk4, h4⟩ := evput_puts r dp hs.2 (by omega) (by omega) (by omega) f d g hd (some (k3, g3)) (bs ++ numB n ++ numB 1 ++ putE l) nx3 hk3 (by simp only [List.length_append]; omega)
    have e1 : (1 : Int) < ((dp + 1 : Nat) : Int) := by omega
    have e2 : IntKind.i64.wrap (((dp + 1 : Nat) : Int) - 1) = ((dp : Nat) : Int) := by rw [wrap64 (by omega) (by omega)]; omega
    refine ⟨k4, g4, nx4, hk4, hcalls_event_put 2 [(f, d), (1, k4)] (walk0 300 trivial (fun A eA => ?_))⟩
    simp (disch := first | omega | (simp only [avs_len, List.length_cons, List.length_append, List.length_nil, List.length_take, List.length_drop, List.length_map]; omega) | (simp only [cells, scal1, allSz, List.length_cons, List.length_nil, List.length_append, List.length_map, List.all_cons, List.all_nil, avs_len, beq_self_eq_true, Bool.and_self, and_self, or_true, true_or, reduceCtorEq, *]; done) | fail) only [c_event_put, go_sem, Nat.reduceAdd, Nat.reduceSub, Nat.reduceMul, Nat.reduceLT, Nat.reduceLeDiff, Int.reduceToNat, Nat.reduceEqDiff, Nat.reduceBEq, ↓reduceIte, reduceCtorEq, eA, scal1, E.t, ET.ps, xtavs, xtav_tv, e1, e2]
    refine call2 300 trivial trivial (obK f d e) (obK_sel f d g _ e bs he) (obK_rest f d g _ e bs) h1 (.inl rfl) (fun A eA => ?_)
    simp (disch := first | omega | (simp only [avs_len, List.length_cons, List.length_append, List.length_nil, List.length_take, List.length_drop, List.length_map]; omega) | (simp only [cells, scal1, allSz, List.length_cons, List.length_nil, List.length_append, List.length_map, List.all_cons, List.all_nil, avs_len, beq_self_eq_true, Bool.and_self, and_self, or_true, true_or, reduceCtorEq, *]; done) | fail) only [c_event_put, go_sem, Nat.reduceAdd, Nat.reduceSub, Nat.reduceMul, Nat.reduceLT, Nat.reduceLeDiff, Int.reduceToNat, Nat.reduceEqDiff, Nat.reduceBEq, ↓reduceIte, reduceCtorEq, eA, scal1, E.t, ET.ps, xtavs, xtav_tv, e1, e2]
    refine call2 300 trivial trivial (obK f d (some (k1, g1))) (obK_sel f d g _ (some (k1, g1)) _ hk1) (obK_rest f d g _ (some (k1, g1)) _) h2 (.inl rfl) (fun A eA => ?_)
    simp (disch := first | omega | (simp only [avs_len, List.length_cons, List.length_append, List.length_nil, List.length_take, List.length_drop, List.length_map]; omega) | (simp only [cells, scal1, allSz, List.length_cons, List.length_nil, List.length_append, List.length_map, List.all_cons, List.all_nil, avs_len, beq_self_eq_true, Bool.and_self, and_self, or_true, true_or, reduceCtorEq, *]; done) | fail) only [c_event_put, go_sem, Nat.reduceAdd, Nat.reduceSub, Nat.reduceMul, Nat.reduceLT, Nat.reduceLeDiff, Int.reduceToNat, Nat.reduceEqDiff, Nat.reduceBEq, ↓reduceIte, reduceCtorEq, eA, scal1, E.t, ET.ps, xtavs, xtav_tv, e1, e2]
    refine call2 300 trivial trivial (obK f d (some (k2, g2))) (obK_sel f d g _ (some (k2, g2)) _ hk2) (obK_rest f d g _ (some (k2, g2)) _) h3 (.inl rfl) (fun A eA => ?_)
    simp (disch := first | omega | (simp only [avs_len, List.length_cons, List.length_append, List.length_nil, List.length_take, List.length_drop, List.length_map]; omega) | (simp only [cells, scal1, allSz, List.length_cons, List.length_nil, List.length_append, List.length_map, List.all_cons, List.all_nil, avs_len, beq_self_eq_true, Bool.and_self, and_self, or_true, true_or, reduceCtorEq, *]; done) | fail) only [c_event_put, go_sem, Nat.reduceAdd, Nat.reduceSub, Nat.reduceMul, Nat.reduceLT, Nat.reduceLeDiff, Int.reduceToNat, Nat.reduceEqDiff, Nat.reduceBEq, ↓reduceIte, reduceCtorEq, eA, scal1, E.t, ET.ps, xtavs, xtav_tv, e1, e2]
    refine call2 300 trivial trivial (obK f d (some (k3, g3))) (obK_sel f d g _ (some (k3, g3)) _ hk3) (obK_rest f d g _ (some (k3, g3)) _) h4 (.inl rfl) (fun A eA => ?_)
    simp (disch := first | omega | (simp only [avs_len, List.length_cons, List.length_append, List.length_nil, List.length_take, List.length_drop, List.length_map]; omega) | (simp only [cells, scal1, allSz, List.length_cons, List.length_nil, List.length_append, List.length_map, List.all_cons, List.all_nil, avs_len, beq_self_eq_true, Bool.and_self, and_self, or_true, true_or, reduceCtorEq, *]; done) | fail) only [c_event_put, go_sem, Nat.reduceAdd, Nat.reduceSub, Nat.reduceMul, Nat.reduceLT, Nat.reduceLeDiff, Int.reduceToNat, Nat.reduceEqDiff, Nat.reduceBEq, ↓reduceIte, reduceCtorEq, eA, scal1, E.t, ET.ps, xtavs, xtav_tv, e1, e2]
    rw [show bs ++ putE (.nd n l r) = bs ++ numB n ++ numB 1 ++ putE l ++ putE r by simp only [putE, List.append_assoc]]
    exact fallH (ob_sel f d g _ k4 _ _ hk4.1) rfl rfl
theorem evPut_puts (b : E) (hs : b.small = true) (hdp : b.dep ≤ 8) (hn : b.nodes ≤ 60) : Puts F_event_Put [xtv b.t] (putE b) := by
  intro f d g hd e bs nx he hl
  obtain ⟨k1, g1, nx1, hk1, h1⟩ := evput_puts b 8 hs hdp (by omega) (by omega) f d g hd e bs nx he hl
  refine ⟨k1, g1, nx1, hk1, hcalls_event_Put 2 [(f, d), (1, k1)] (walk0 300 trivial (fun A eA => ?_))⟩
  simp (disch := first | omega | (simp only [avs_len, List.length_cons, List.length_append, List.length_nil, List.length_take, List.length_drop, List.length_map]; omega) | (simp only [cells, scal1, allSz, List.length_cons, List.length_nil, List.length_append, List.length_map, List.all_cons, List.all_nil, avs_len, beq_self_eq_true, Bool.and_self, and_self, or_true, true_or, reduceCtorEq, *]; done) | fail) only [c_event_Put, go_sem, Nat.reduceAdd, Nat.reduceSub, Nat.reduceMul, Nat.reduceLT, Nat.reduceLeDiff, Int.reduceToNat, Nat.reduceEqDiff, Nat.reduceBEq, ↓reduceIte, reduceCtorEq, eA, scal1]
  refine call2 300 trivial trivial (obK f d e) (obK_sel f d g _ e bs he) (obK_rest f d g _ e bs) h1 (.inl rfl) (fun A eA => ?_)
  simp (disch := first | omega | (simp only [avs_len, List.length_cons, List.length_append, List.length_nil, List.length_take, List.length_drop, List.length_map]; omega) | (simp only [cells, scal1, allSz, List.length_cons, List.length_nil, List.length_append, List.length_map, List.all_cons, List.all_nil, avs_len, beq_self_eq_true, Bool.and_self, and_self, or_true, true_or, reduceCtorEq, *]; done) | fail) only [c_event_Put, go_sem, Nat.reduceAdd, Nat.reduceSub, Nat.reduceMul, Nat.reduceLT, Nat.reduceLeDiff, Int.reduceToNat, Nat.reduceEqDiff, Nat.reduceBEq, ↓reduceIte, reduceCtorEq, eA, scal1]
  exact fallH (ob_sel f d g _ k1 _ _ hk1.1) rfl rfl
end Go.Proofs.Ytmokhopjnjecbab
/- The walks through what takes event trees. -/
-- short
-- fuel 300
namespace Go.Proofs.Ytmokhopjnjecbab
open Go.Ev
set_option linter.unusedVariables false
set_option linter.unusedSimpArgs false
set_option maxRecDepth 100000
set_option maxHeartbeats 1600000
theorem inE_free (s : InS) (H : Heap) : (inE s).all (nameFree 9 H) = true := by cases s <;> rfl
theorem evget_takes : ∀ (deep : Nat) {s : InS}, OkIn s → deep ≤ 100 → Takes F_event_get [.int .i64 (deep : Nat)] s (getE deep s).2 (xtv (getE deep s).1)
  | 0, s, hs, hdp => by
    intro f g nx hf
    obtain ⟨nx1, h1⟩ := num_takes hs f g (bump nx 4) hf
    obtain ⟨nx2, h2⟩ := bool_takes (inNum_ok hs) f g (bump nx1 5) hf
    have hwk : Wk1 (.agg [.int .i64 ((inNum s).1 : Nat), .nils]) (xtv (getE 0 s).1) := xwk_leaf _
    have e0 : (getE 0 s).2 = (inBool (inNum s).2).2 := rfl
    rw [e0]
    have hFr := inE_free
    refine ⟨nx2, HCalls.wk (hcalls_event_get 9 [(f, 6)] (walk0 300 trivial (fun A eA => ?_))) hwk⟩
    cases hb : (inBool (inNum s).2).1
    all_goals
      rw [hb] at h2
      simp (disch := first | omega | (simp only [avs_len, List.length_cons, List.length_append, List.length_nil, List.length_take, List.length_drop, List.length_map]; omega) | (simp only [cells, scal1, allSz, List.length_cons, List.length_nil, List.length_append, List.length_map, List.all_cons, List.all_nil, avs_len, beq_self_eq_true, Bool.and_self, and_self, or_true, true_or, reduceCtorEq, *]; done) | fail) only [c_event_get, go_sem, Nat.reduceAdd, Nat.reduceSub, Nat.reduceMul, Nat.reduceLT, Nat.reduceLeDiff, Int.reduceToNat, Nat.reduceEqDiff, Nat.reduceBEq, ↓reduceIte, reduceCtorEq, eA, scal1, List.all_cons, List.all_nil, Bool.and_self]
      refine call2 300 trivial trivial [(f, 6)] (by simp only [go_sem, Nat.reduceAdd, Nat.reduceSub, Nat.reduceMul, Nat.reduceLT, Nat.reduceLeDiff, Int.reduceToNat, Nat.reduceEqDiff, Nat.reduceBEq, ↓reduceIte, reduceCtorEq] <;> rfl) (by simp only [go_sem, Nat.reduceAdd, Nat.reduceSub, Nat.reduceMul, Nat.reduceLT, Nat.reduceLeDiff, Int.reduceToNat, Nat.reduceEqDiff, Nat.reduceBEq, ↓reduceIte, reduceCtorEq, Ev.rest, keyIn] <;> rfl) h1 (.inr ⟨rfl, by simp only [heapFree, hFr, Bool.and_self]⟩) (fun A eA => ?_)
      simp (disch := first | omega | (simp only [avs_len, List.length_cons, List.length_append, List.length_nil, List.length_take, List.length_drop, List.length_map]; omega) | (simp only [cells, scal1, allSz, List.length_cons, List.length_nil, List.length_append, List.length_map, List.all_cons, List.all_nil, avs_len, beq_self_eq_true, Bool.and_self, and_self, or_true, true_or, reduceCtorEq, *]; done) | fail) only [c_event_get, go_sem, Nat.reduceAdd, Nat.reduceSub, Nat.reduceMul, Nat.reduceLT, Nat.reduceLeDiff, Int.reduceToNat, Nat.reduceEqDiff, Nat.reduceBEq, ↓reduceIte, reduceCtorEq, eA, scal1, List.all_cons, List.all_nil, Bool.and_self]
      refine call2 300 trivial trivial [(f, 6)] (by simp only [go_sem, Nat.reduceAdd, Nat.reduceSub, Nat.reduceMul, Nat.reduceLT, Nat.reduceLeDiff, Int.reduceToNat, Nat.reduceEqDiff, Nat.reduceBEq, ↓reduceIte, reduceCtorEq] <;> rfl) (by simp only [go_sem, Nat.reduceAdd, Nat.reduceSub, Nat.reduceMul, Nat.reduceLT, Nat.reduceLeDiff, Int.reduceToNat, Nat.reduceEqDiff, Nat.reduceBEq, ↓reduceIte, reduceCtorEq, Ev.rest, keyIn] <;> rfl) h2 (.inr ⟨rfl, by simp only [heapFree, hFr, Bool.and_self]⟩) (fun A eA => ?_)
      simp (disch := first | omega | (simp only [avs_len, List.length_cons, List.length_append, List.length_nil, List.length_take, List.length_drop, List.length_map]; omega) | (simp only [cells, scal1, allSz, List.length_cons, List.length_nil, List.length_append, List.length_map, List.all_cons, List.all_nil, avs_len, beq_self_eq_true, Bool.and_self, and_self, or_true, true_or, reduceCtorEq, *]; done) | fail) only [c_event_get, go_sem, Nat.reduceAdd, Nat.reduceSub, Nat.reduceMul, Nat.reduceLT, Nat.reduceLeDiff, Int.reduceToNat, Nat.reduceEqDiff, Nat.reduceBEq, ↓reduceIte, reduceCtorEq, eA, scal1, List.all_cons, List.all_nil, Bool.and_self]
      exact doneH (by simp only [go_sem, Nat.reduceAdd, Nat.reduceSub, Nat.reduceMul, Nat.reduceLT, Nat.reduceLeDiff, Int.reduceToNat, Nat.reduceEqDiff, Nat.reduceBEq, ↓reduceIte, reduceCtorEq]) (by simp only [go_sem, Nat.reduceAdd, Nat.reduceSub, Nat.reduceMul, Nat.reduceLT, Nat.reduceLeDiff, Int.reduceToNat, Nat.reduceEqDiff, Nat.reduceBEq, ↓reduceIte, reduceCtorEq]) rfl
  | dp + 1, s, hs, hdp => by
    intro f g nx hf
    have hFr := inE_free
    have hs2 : OkIn (inBool (inNum s).2).2 := inBool_ok (inNum_ok hs)
    obtain ⟨nx1, h1⟩ := num_takes hs f g (bump nx 4) hf
    obtain ⟨nx2, h2⟩ := bool_takes (inNum_ok hs) f g (bump nx1 5) hf
    have e2 : (0 : Int) < ((dp + 1 : Nat) : Int) := by omega
    have w1 : IntKind.i64.wrap (((dp + 1 : Nat) : Int) - 1) = ((dp : Nat) : Int) := by rw [wrap64 (by omega) (by omega)]; omega
    cases hb : (inBool (inNum s).2).1 with
    | false =>
      rw [hb] at h2
      have e0 : getE (dp + 1) s = (.mk (inNum s).1 [], (inBool (inNum s).2).2) := by simp only [getE, hb, Bool.false_eq_true, if_false]
      rw [e0]
      refine ⟨nx2, HCalls.wk (hcalls_event_get 9 [(f, 6)] (walk0 300 trivial (fun A eA => ?_))) (xwk_leaf _)⟩
      simp (disch := first | omega | (simp only [avs_len, List.length_cons, List.length_append, List.length_nil, List.length_take, List.length_drop, List.length_map]; omega) | (simp only [cells, scal1, allSz, List.length_cons, List.length_nil, List.length_append, List.length_map, List.all_cons, List.all_nil, avs_len, beq_self_eq_true, Bool.and_self, and_self, or_true, true_or, reduceCtorEq, *]; done) | fail) only [c_event_get, go_sem, Nat.reduceAdd, Nat.reduceSub, Nat.reduceMul, Nat.reduceLT, Nat.reduceLeDiff, Int.reduceToNat, Nat.reduceEqDiff, Nat.reduceBEq, ↓reduceIte, reduceCtorEq, eA, scal1, List.all_cons, List.all_nil, Bool.and_self, e2, w1]
      refine call2 300 trivial trivial [(f, 6)] (by simp only [go_sem, Nat.reduceAdd, Nat.reduceSub, Nat.reduceMul, Nat.reduceLT, Nat.reduceLeDiff, Int.reduceToNat, Nat.reduceEqDiff, Nat.reduceBEq, ↓reduceIte, reduceCtorEq] <;> rfl) (by simp only [go_sem, Nat.reduceAdd, Nat.reduceSub, Nat.reduceMul, Nat.reduceLT, Nat.reduceLeDiff, Int.reduceToNat, Nat.reduceEqDiff, Nat.reduceBEq, ↓reduceIte, reduceCtorEq, Ev.rest, keyIn] <;> rfl) h1 (.inr ⟨rfl, by simp only [heapFree, hFr, Bool.and_self]⟩) (fun A eA => ?_)
      simp (disch := first | omega | (simp only [avs_len, List.length_cons, List.length_append, List.length_nil, List.length_take, List.length_drop, List.length_map]; omega) | (simp only [cells, scal1, allSz, List.length_cons, List.length_nil, List.length_append, List.length_map, List.all_cons, List.all_nil, avs_len, beq_self_eq_true, Bool.and_self, and_self, or_true, true_or, reduceCtorEq, *]; done) | fail) only [c_event_get, go_sem, Nat.reduceAdd, Nat.reduceSub, Nat.reduceMul, Nat.reduceLT, Nat.reduceLeDiff, Int.reduceToNat, Nat.reduceEqDiff, Nat.reduceBEq, ↓reduceIte, reduceCtorEq, eA, scal1, List.all_cons, List.all_nil, Bool.and_self, e2, w1]
      refine call2 300 trivial trivial [(f, 6)] (by simp only [go_sem, Nat.reduceAdd, Nat.reduceSub, Nat.reduceMul, Nat.reduceLT, Nat.reduceLeDiff, Int.reduceToNat, Nat.reduceEqDiff, Nat.reduceBEq, ↓reduceIte, reduceCtorEq] <;> rfl) (by simp only [go_sem, Nat.reduceAdd, Nat.reduceSub, Nat.reduceMul, Nat.reduceLT, Nat.reduceLeDiff, Int.reduceToNat, Nat.reduceEqDiff, Nat.reduceBEq, ↓reduceIte, reduceCtorEq, Ev.rest, keyIn] <;> rfl) h2 (.inr ⟨rfl, by simp only [heapFree, hFr, Bool.and_self]⟩) (fun A eA => ?_)
      simp (disch := first | omega | (simp only [avs_len, List.length_cons, List.length_append, List.length_nil, List.length_take, List.length_drop, List.length_map]; omega) | (simp only [cells, scal1, allSz, List.length_cons, List.length_nil, List.length_append, List.length_map, List.all_cons, List.all_nil, avs_len, beq_self_eq_true, Bool.and_self, and_self, or_true, true_or, reduceCtorEq, *]; done) | fail) only [c_event_get, go_sem, Nat.reduceAdd, Nat.reduceSub, Nat.reduceMul, Nat.reduceLT, Nat.reduceLeDiff, Int.reduceToNat, Nat.reduceEqDiff, Nat.reduceBEq, ↓reduceIte, reduceCtorEq, eA, scal1, List.all_cons, List.all_nil, Bool.and_self, e2, w1]
      exact doneH (by simp only [go_sem, Nat.reduceAdd, Nat.reduceSub, Nat.reduceMul, Nat.reduceLT, Nat.reduceLeDiff, Int.reduceToNat, Nat.reduceEqDiff, Nat.reduceBEq, ↓reduceIte, reduceCtorEq]) (by simp only [go_sem, Nat.reduceAdd, Nat.reduceSub, Nat.reduceMul, Nat.reduceLT, Nat.reduceLeDiff, Int.reduceToNat, Nat.reduceEqDiff, Nat.reduceBEq, ↓reduceIte, reduceCtorEq]) rfl
    | true =>
      rw [hb] at h2
      obtain ⟨nx3, h3⟩ := evget_takes dp hs2 (by omega) f g nx2 hf
      obtain ⟨nx4, h4⟩ := evget_takes dp (getE_ok dp hs2) (by omega) f g nx3 hf
      have e0 : getE (dp + 1) s = (.mk (inNum s).1 [(getE dp (inBool (inNum s).2).2).1, (getE dp (getE dp (inBool (inNum s).2).2).2).1], (getE dp (getE dp (inBool (inNum s).2).2).2).2) := by simp only [getE, hb, if_true]
      rw [e0]
      refine ⟨nx4, HCalls.wk (hcalls_event_get 9 [(f, 6)] (walk0 300 trivial (fun A eA => ?_))) (xwk_two _ _ _)⟩
      simp (disch := first | omega | (simp only [avs_len, List.length_cons, List.length_append, List.length_nil, List.length_take, List.length_drop, List.length_map]; omega) | (simp only [cells, scal1, allSz, List.length_cons, List.length_nil, List.length_append, List.length_map, List.all_cons, List.all_nil, avs_len, beq_self_eq_true, Bool.and_self, and_self, or_true, true_or, reduceCtorEq, *]; done) | fail) only [c_event_get, go_sem, Nat.reduceAdd, Nat.reduceSub, Nat.reduceMul, Nat.reduceLT, Nat.reduceLeDiff, Int.reduceToNat, Nat.reduceEqDiff, Nat.reduceBEq, ↓reduceIte, reduceCtorEq, eA, scal1, List.all_cons, List.all_nil, Bool.and_self, e2, w1]
      refine call2 300 trivial trivial [(f, 6)] (by simp only [go_sem, Nat.reduceAdd, Nat.reduceSub, Nat.reduceMul, Nat.reduceLT, Nat.reduceLeDiff, Int.reduceToNat, Nat.reduceEqDiff, Nat.reduceBEq, ↓reduceIte, reduceCtorEq] <;> rfl) (by simp only [go_sem, Nat.reduceAdd, Nat.reduceSub, Nat.reduceMul, Nat.reduceLT, Nat.reduceLeDiff, Int.reduceToNat, Nat.reduceEqDiff, Nat.reduceBEq, ↓reduceIte, reduceCtorEq, Ev.rest, keyIn] <;> rfl) h1 (.inr ⟨rfl, by simp only [heapFree, hFr, Bool.and_self]⟩) (fun A eA => ?_)
      simp (disch := first | omega | (simp only [avs_len, List.length_cons, List.length_append, List.length_nil, List.length_take, List.length_drop, List.length_map]; omega) | (simp only [cells, scal1, allSz, List.length_cons, List.length_nil, List.length_append, List.length_map, List.all_cons, List.all_nil, avs_len, beq_self_eq_true, Bool.and_self, and_self, or_true, true_or, reduceCtorEq, *]; done) | fail) only [c_event_get, go_sem, Nat.reduceAdd, Nat.reduceSub, Nat.reduceMul, Nat.reduceLT, Nat.reduceLeDiff, Int.reduceToNat, Nat.reduceEqDiff, Nat.reduceBEq, ↓reduceIte, reduceCtorEq, eA, scal1, List.all_cons, List.all_nil, Bool.and_self, e2, w1]
      refine call2 300 trivial trivial [(f, 6)] (by simp only [go_sem, Nat.reduceAdd, Nat.reduceSub, Nat.reduceMul, Nat.reduceLT, Nat.reduceLeDiff, Int.reduceToNat, Nat.reduceEqDiff, Nat.reduceBEq, ↓reduceIte, reduceCtorEq] <;> rfl) (by simp only [go_sem, Nat.reduceAdd, Nat.reduceSub, Nat.reduceMul, Nat.reduceLT, Nat.reduceLeDiff, Int.reduceToNat, Nat.reduceEqDiff, Nat.reduceBEq, ↓reduceIte, reduceCtorEq, Ev.rest, keyIn] <;> rfl) h2 (.inr ⟨rfl, by simp only [heapFree, hFr, Bool.and_self]⟩) (fun A eA => ?_)
      simp (disch := first | omega | (simp only [avs_len, List.length_cons, List.length_append, List.length_nil, List.length_take, List.length_drop, List.length_map]; omega) | (simp only [cells, scal1, allSz, List.length_cons, List.length_nil, List.length_append, List.length_map, List.all_cons, List.all_nil, avs_len, beq_self_eq_true, Bool.and_self, and_self, or_true, true_or, reduceCtorEq, *]; done) | fail) only [c_event_get, go_sem, Nat.reduceAdd, Nat.reduceSub, Nat.reduceMul, Nat.reduceLT, Nat.reduceLeDiff, Int.reduceToNat, Nat.reduceEqDiff, Nat.reduceBEq, ↓reduceIte, reduceCtorEq, eA, scal1, List.all_cons, List.all_nil, Bool.and_self, e2, w1]
      refine call2 300 trivial trivial [(f, 6)] (by simp only [go_sem, Nat.reduceAdd, Nat.reduceSub, Nat.reduceMul, Nat.reduceLT, Nat.reduceLeDiff, Int.reduceToNat, Nat.reduceEqDiff, Nat.reduceBEq, ↓reduceIte, reduceCtorEq] <;> rfl) (by simp only [go_sem, Nat.reduceAdd, Nat.reduceSub, Nat.reduceMul, Nat.reduceLT, Nat.reduceLeDiff, Int.reduceToNat, Nat.reduceEqDiff, Nat.reduceBEq, ↓reduceIte, reduceCtorEq, Ev.rest, keyIn] <;> rfl) h3 (.inr ⟨rfl, by simp only [heapFree, hFr, Bool.and_self]⟩) (fun A eA => ?_)
      simp (disch := first | omega | (simp only [avs_len, List.length_cons, List.length_append, List.length_nil, List.length_take, List.length_drop, List.length_map]; omega) | (simp only [cells, scal1, allSz, List.length_cons, List.length_nil, List.length_append, List.length_map, List.all_cons, List.all_nil, avs_len, beq_self_eq_true, Bool.and_self, and_self, or_true, true_or, reduceCtorEq, *]; done) | fail) only [c_event_get, go_sem, Nat.reduceAdd, Nat.reduceSub, Nat.reduceMul, Nat.reduceLT, Nat.reduceLeDiff, Int.reduceToNat, Nat.reduceEqDiff, Nat.reduceBEq, ↓reduceIte, reduceCtorEq, eA, scal1, List.all_cons, List.all_nil, Bool.and_self, e2, w1]
      refine call2 300 trivial trivial [(f, 6)] (by simp only [go_sem, Nat.reduceAdd, Nat.reduceSub, Nat.reduceMul, Nat.reduceLT, Nat.reduceLeDiff, Int.reduceToNat, Nat.reduceEqDiff, Nat.reduceBEq, ↓reduceIte, reduceCtorEq] <;> rfl) (by simp only [go_sem, Nat.reduceAdd, Nat.reduceSub, Nat.reduceMul, Nat.reduceLT, Nat.reduceLeDiff, Int.reduceToNat, Nat.reduceEqDiff, Nat.reduceBEq, ↓reduceIte, reduceCtorEq, Ev.rest, keyIn] <;> rfl) h4 (.inr ⟨rfl, by simp only [heapFree, hFr, Bool.and_self]⟩) (fun A eA => ?_)
      simp (disch := first | omega | (simp only [avs_len, List.length_cons, List.length_append, List.length_nil, List.length_take, List.length_drop, List.length_map]; omega) | (simp only [cells, scal1, allSz, List.length_cons, List.length_nil, List.length_append, List.length_map, List.all_cons, List.all_nil, avs_len, beq_self_eq_true, Bool.and_self, and_self, or_true, true_or, reduceCtorEq, *]; done) | fail) only [c_event_get, go_sem, Nat.reduceAdd, Nat.reduceSub, Nat.reduceMul, Nat.reduceLT, Nat.reduceLeDiff, Int.reduceToNat, Nat.reduceEqDiff, Nat.reduceBEq, ↓reduceIte, reduceCtorEq, eA, scal1, List.all_cons, List.all_nil, Bool.and_self, e2, w1, allSz, beq_self_eq_true]
      exact doneH (by simp only [go_sem, Nat.reduceAdd, Nat.reduceSub, Nat.reduceMul, Nat.reduceLT, Nat.reduceLeDiff, Int.reduceToNat, Nat.reduceEqDiff, Nat.reduceBEq, ↓reduceIte, reduceCtorEq]) (by simp only [go_sem, Nat.reduceAdd, Nat.reduceSub, Nat.reduceMul, Nat.reduceLT, Nat.reduceLeDiff, Int.reduceToNat, Nat.reduceEqDiff, Nat.reduceBEq, ↓reduceIte, reduceCtorEq]) rfl
open Classical in
/-- What Get gives. -/
noncomputable def gotE (s : InS) : ET × Bool := if (getE 8 s).2 = none ∨ ¬ XRt (getE 8 s).1 then (.mk 0 [], false) else ((getE 8 s).1, true)
theorem wk_got (b : Bool) : Wk1 (.tup [.agg [.int .i64 0, .nils], .bool b]) (.tup [xtv (.mk 0 []), .bool b]) := by
  refine Wk1.tup rfl (fun j x y hx hy => ?_)
  match j, hx, hy with
  | 0, hx, hy => simp at hx hy; subst hx hy; exact xwk_leaf 0
  | 1, hx, hy => simp at hx hy; subst hx hy; exact Wk1.refl _
  | j + 2, hx, hy => simp at hx
theorem evGet_takes {s : InS} (hs : OkIn s) : Takes F_event_Get [] s (getE 8 s).2 (.tup [xtv (gotE s).1, .bool (gotE s).2]) := by
  intro f g nx hf
  have hFr := inE_free
  obtain ⟨nx1, h1⟩ := evget_takes 8 hs (by omega) f g (bump nx 2) hf
  obtain ⟨nx2, h2⟩ := bad_takes (getE 8 s).2 f g (bump nx1 4) hf
  have cr := xright_calls (getE 8 s).1
  refine ⟨nx2, ?_⟩
  cases hb : (getE 8 s).2 with
  | none =>
    rw [show gotE s = (.mk 0 [], false) by unfold gotE; rw [if_pos (.inl hb)]]
    refine HCalls.wk ?_ (wk_got false)
    rw [hb] at h1 h2
    refine hcalls_event_Get 10 [(f, 6)] (walk0 300 trivial (fun A eA => ?_))
    simp (disch := first | omega | (simp only [avs_len, List.length_cons, List.length_append, List.length_nil, List.length_take, List.length_drop, List.length_map]; omega) | (simp only [cells, scal1, allSz, List.length_cons, List.length_nil, List.length_append, List.length_map, List.all_cons, List.all_nil, avs_len, beq_self_eq_true, Bool.and_self, and_self, or_true, true_or, reduceCtorEq, *]; done) | fail) only [c_event_Get, go_sem, Nat.reduceAdd, Nat.reduceSub, Nat.reduceMul, Nat.reduceLT, Nat.reduceLeDiff, Int.reduceToNat, Nat.reduceEqDiff, Nat.reduceBEq, ↓reduceIte, reduceCtorEq, eA, scal1, List.all_cons, List.all_nil, Bool.and_self]
    refine call2 300 trivial trivial [(f, 6)] (by simp only [go_sem, Nat.reduceAdd, Nat.reduceSub, Nat.reduceMul, Nat.reduceLT, Nat.reduceLeDiff, Int.reduceToNat, Nat.reduceEqDiff, Nat.reduceBEq, ↓reduceIte, reduceCtorEq] <;> rfl) (by simp only [go_sem, Nat.reduceAdd, Nat.reduceSub, Nat.reduceMul, Nat.reduceLT, Nat.reduceLeDiff, Int.reduceToNat, Nat.reduceEqDiff, Nat.reduceBEq, ↓reduceIte, reduceCtorEq, Ev.rest, keyIn] <;> rfl) h1 (.inr ⟨rfl, by simp only [heapFree, hFr, Bool.and_self]⟩) (fun A eA => ?_)
    simp (disch := first | omega | (simp only [avs_len, List.length_cons, List.length_append, List.length_nil, List.length_take, List.length_drop, List.length_map]; omega) | (simp only [cells, scal1, allSz, List.length_cons, List.length_nil, List.length_append, List.length_map, List.all_cons, List.all_nil, avs_len, beq_self_eq_true, Bool.and_self, and_self, or_true, true_or, reduceCtorEq, *]; done) | fail) only [c_event_Get, go_sem, Nat.reduceAdd, Nat.reduceSub, Nat.reduceMul, Nat.reduceLT, Nat.reduceLeDiff, Int.reduceToNat, Nat.reduceEqDiff, Nat.reduceBEq, ↓reduceIte, reduceCtorEq, eA, scal1, List.all_cons, List.all_nil, Bool.and_self]
    refine call2 300 trivial trivial [(f, 6)] (by simp only [go_sem, Nat.reduceAdd, Nat.reduceSub, Nat.reduceMul, Nat.reduceLT, Nat.reduceLeDiff, Int.reduceToNat, Nat.reduceEqDiff, Nat.reduceBEq, ↓reduceIte, reduceCtorEq] <;> rfl) (by simp only [go_sem, Nat.reduceAdd, Nat.reduceSub, Nat.reduceMul, Nat.reduceLT, Nat.reduceLeDiff, Int.reduceToNat, Nat.reduceEqDiff, Nat.reduceBEq, ↓reduceIte, reduceCtorEq, Ev.rest, keyIn] <;> rfl) h2 (.inr ⟨rfl, by simp only [heapFree, hFr, Bool.and_self]⟩) (fun A eA => ?_)
    simp (disch := first | omega | (simp only [avs_len, List.length_cons, List.length_append, List.length_nil, List.length_take, List.length_drop, List.length_map]; omega) | (simp only [cells, scal1, allSz, List.length_cons, List.length_nil, List.length_append, List.length_map, List.all_cons, List.all_nil, avs_len, beq_self_eq_true, Bool.and_self, and_self, or_true, true_or, reduceCtorEq, *]; done) | fail) only [c_event_Get, go_sem, Nat.reduceAdd, Nat.reduceSub, Nat.reduceMul, Nat.reduceLT, Nat.reduceLeDiff, Int.reduceToNat, Nat.reduceEqDiff, Nat.reduceBEq, ↓reduceIte, reduceCtorEq, eA, scal1, List.all_cons, List.all_nil, Bool.and_self, Option.isNone]
    exact doneH (by simp only [go_sem, Nat.reduceAdd, Nat.reduceSub, Nat.reduceMul, Nat.reduceLT, Nat.reduceLeDiff, Int.reduceToNat, Nat.reduceEqDiff, Nat.reduceBEq, ↓reduceIte, reduceCtorEq]) (by simp only [go_sem, Nat.reduceAdd, Nat.reduceSub, Nat.reduceMul, Nat.reduceLT, Nat.reduceLeDiff, Int.reduceToNat, Nat.reduceEqDiff, Nat.reduceBEq, ↓reduceIte, reduceCtorEq]) rfl
  | some r =>
    rw [hb] at h1 h2
    by_cases hr : XRt (getE 8 s).1
    · rw [show gotE s = ((getE 8 s).1, true) by unfold gotE; rw [if_neg (by rw [hb]; simp [hr])]]
      rw [xrtb_true.2 hr] at cr
      refine hcalls_event_Get 10 [(f, 6)] (walk0 300 trivial (fun A eA => ?_))
      simp (disch := first | omega | (simp only [avs_len, List.length_cons, List.length_append, List.length_nil, List.length_take, List.length_drop, List.length_map]; omega) | (simp only [cells, scal1, allSz, List.length_cons, List.length_nil, List.length_append, List.length_map, List.all_cons, List.all_nil, avs_len, beq_self_eq_true, Bool.and_self, and_self, or_true, true_or, reduceCtorEq, *]; done) | fail) only [c_event_Get, go_sem, Nat.reduceAdd, Nat.reduceSub, Nat.reduceMul, Nat.reduceLT, Nat.reduceLeDiff, Int.reduceToNat, Nat.reduceEqDiff, Nat.reduceBEq, ↓reduceIte, reduceCtorEq, eA, scal1, List.all_cons, List.all_nil, Bool.and_self]
      refine call2 300 trivial trivial [(f, 6)] (by simp only [go_sem, Nat.reduceAdd, Nat.reduceSub, Nat.reduceMul, Nat.reduceLT, Nat.reduceLeDiff, Int.reduceToNat, Nat.reduceEqDiff, Nat.reduceBEq, ↓reduceIte, reduceCtorEq] <;> rfl) (by simp only [go_sem, Nat.reduceAdd, Nat.reduceSub, Nat.reduceMul, Nat.reduceLT, Nat.reduceLeDiff, Int.reduceToNat, Nat.reduceEqDiff, Nat.reduceBEq, ↓reduceIte, reduceCtorEq, Ev.rest, keyIn] <;> rfl) h1 (.inr ⟨rfl, by simp only [heapFree, hFr, Bool.and_self]⟩) (fun A eA => ?_)
      simp (disch := first | omega | (simp only [avs_len, List.length_cons, List.length_append, List.length_nil, List.length_take, List.length_drop, List.length_map]; omega) | (simp only [cells, scal1, allSz, List.length_cons, List.length_nil, List.length_append, List.length_map, List.all_cons, List.all_nil, avs_len, beq_self_eq_true, Bool.and_self, and_self, or_true, true_or, reduceCtorEq, *]; done) | fail) only [c_event_Get, go_sem, Nat.reduceAdd, Nat.reduceSub, Nat.reduceMul, Nat.reduceLT, Nat.reduceLeDiff, Int.reduceToNat, Nat.reduceEqDiff, Nat.reduceBEq, ↓reduceIte, reduceCtorEq, eA, scal1, List.all_cons, List.all_nil, Bool.and_self]
      refine call2 300 trivial trivial [(f, 6)] (by simp only [go_sem, Nat.reduceAdd, Nat.reduceSub, Nat.reduceMul, Nat.reduceLT, Nat.reduceLeDiff, Int.reduceToNat, Nat.reduceEqDiff, Nat.reduceBEq, ↓reduceIte, reduceCtorEq] <;> rfl) (by simp only [go_sem, Nat.reduceAdd, Nat.reduceSub, Nat.reduceMul, Nat.reduceLT, Nat.reduceLeDiff, Int.reduceToNat, Nat.reduceEqDiff, Nat.reduceBEq, ↓reduceIte, reduceCtorEq, Ev.rest, keyIn] <;> rfl) h2 (.inr ⟨rfl, by simp only [heapFree, hFr, Bool.and_self]⟩) (fun A eA => ?_)
      simp (disch := first | omega | (simp only [avs_len, List.length_cons, List.length_append, List.length_nil, List.length_take, List.length_drop, List.length_map]; omega) | (simp only [cells, scal1, allSz, List.length_cons, List.length_nil, List.length_append, List.length_map, List.all_cons, List.all_nil, avs_len, beq_self_eq_true, Bool.and_self, and_self, or_true, true_or, reduceCtorEq, *]; done) | fail) only [c_event_Get, go_sem, Nat.reduceAdd, Nat.reduceSub, Nat.reduceMul, Nat.reduceLT, Nat.reduceLeDiff, Int.reduceToNat, Nat.reduceEqDiff, Nat.reduceBEq, ↓reduceIte, reduceCtorEq, eA, scal1, List.all_cons, List.all_nil, Bool.and_self, Option.isNone]
      refine call0 300 trivial trivial cr (.inl rfl) (fun A eA => ?_)
      simp (disch := first | omega | (simp only [avs_len, List.length_cons, List.length_append, List.length_nil, List.length_take, List.length_drop, List.length_map]; omega) | (simp only [cells, scal1, allSz, List.length_cons, List.length_nil, List.length_append, List.length_map, List.all_cons, List.all_nil, avs_len, beq_self_eq_true, Bool.and_self, and_self, or_true, true_or, reduceCtorEq, *]; done) | fail) only [c_event_Get, go_sem, Nat.reduceAdd, Nat.reduceSub, Nat.reduceMul, Nat.reduceLT, Nat.reduceLeDiff, Int.reduceToNat, Nat.reduceEqDiff, Nat.reduceBEq, ↓reduceIte, reduceCtorEq, eA, scal1, List.all_cons, List.all_nil, Bool.and_self]
      exact doneH (by simp only [go_sem, Nat.reduceAdd, Nat.reduceSub, Nat.reduceMul, Nat.reduceLT, Nat.reduceLeDiff, Int.reduceToNat, Nat.reduceEqDiff, Nat.reduceBEq, ↓reduceIte, reduceCtorEq]) (by simp only [go_sem, Nat.reduceAdd, Nat.reduceSub, Nat.reduceMul, Nat.reduceLT, Nat.reduceLeDiff, Int.reduceToNat, Nat.reduceEqDiff, Nat.reduceBEq, ↓reduceIte, reduceCtorEq]) rfl
    · rw [show gotE s = (.mk 0 [], false) by unfold gotE; rw [if_pos (.inr hr)]]
      refine HCalls.wk ?_ (wk_got false)
      rw [xrtb_no hr] at cr
      refine hcalls_event_Get 10 [(f, 6)] (walk0 300 trivial (fun A eA => ?_))
      simp (disch := first | omega | (simp only [avs_len, List.length_cons, List.length_append, List.length_nil, List.length_take, List.length_drop, List.length_map]; omega) | (simp only [cells, scal1, allSz, List.length_cons, List.length_nil, List.length_append, List.length_map, List.all_cons, List.all_nil, avs_len, beq_self_eq_true, Bool.and_self, and_self, or_true, true_or, reduceCtorEq, *]; done) | fail) only [c_event_Get, go_sem, Nat.reduceAdd, Nat.reduceSub, Nat.reduceMul, Nat.reduceLT, Nat.reduceLeDiff, Int.reduceToNat, Nat.reduceEqDiff, Nat.reduceBEq, ↓reduceIte, reduceCtorEq, eA, scal1, List.all_cons, List.all_nil, Bool.and_self]
      refine call2 300 trivial trivial [(f, 6)] (by simp only [go_sem, Nat.reduceAdd, Nat.reduceSub, Nat.reduceMul, Nat.reduceLT, Nat.reduceLeDiff, Int.reduceToNat, Nat.reduceEqDiff, Nat.reduceBEq, ↓reduceIte, reduceCtorEq] <;> rfl) (by simp only [go_sem, Nat.reduceAdd, Nat.reduceSub, Nat.reduceMul, Nat.reduceLT, Nat.reduceLeDiff, Int.reduceToNat, Nat.reduceEqDiff, Nat.reduceBEq, ↓reduceIte, reduceCtorEq, Ev.rest, keyIn] <;> rfl) h1 (.inr ⟨rfl, by simp only [heapFree, hFr, Bool.and_self]⟩) (fun A eA => ?_)
      simp (disch := first | omega | (simp only [avs_len, List.length_cons, List.length_append, List.length_nil, List.length_take, List.length_drop, List.length_map]; omega) | (simp only [cells, scal1, allSz, List.length_cons, List.length_nil, List.length_append, List.length_map, List.all_cons, List.all_nil, avs_len, beq_self_eq_true, Bool.and_self, and_self, or_true, true_or, reduceCtorEq, *]; done) | fail) only [c_event_Get, go_sem, Nat.reduceAdd, Nat.reduceSub, Nat.reduceMul, Nat.reduceLT, Nat.reduceLeDiff, Int.reduceToNat, Nat.reduceEqDiff, Nat.reduceBEq, ↓reduceIte, reduceCtorEq, eA, scal1, List.all_cons, List.all_nil, Bool.and_self]
      refine call2 300 trivial trivial [(f, 6)] (by simp only [go_sem, Nat.reduceAdd, Nat.reduceSub, Nat.reduceMul, Nat.reduceLT, Nat.reduceLeDiff, Int.reduceToNat, Nat.reduceEqDiff, Nat.reduceBEq, ↓reduceIte, reduceCtorEq] <;> rfl) (by simp only [go_sem, Nat.reduceAdd, Nat.reduceSub, Nat.reduceMul, Nat.reduceLT, Nat.reduceLeDiff, Int.reduceToNat, Nat.reduceEqDiff, Nat.reduceBEq, ↓reduceIte, reduceCtorEq, Ev.rest, keyIn] <;> rfl) h2 (.inr ⟨rfl, by simp only [heapFree, hFr, Bool.and_self]⟩) (fun A eA => ?_)
      simp (disch := first | omega | (simp only [avs_len, List.length_cons, List.length_append, List.length_nil, List.length_take, List.length_drop, List.length_map]; omega) | (simp only [cells, scal1, allSz, List.length_cons, List.length_nil, List.length_append, List.length_map, List.all_cons, List.all_nil, avs_len, beq_self_eq_true, Bool.and_self, and_self, or_true, true_or, reduceCtorEq, *]; done) | fail) only [c_event_Get, go_sem, Nat.reduceAdd, Nat.reduceSub, Nat.reduceMul, Nat.reduceLT, Nat.reduceLeDiff, Int.reduceToNat, Nat.reduceEqDiff, Nat.reduceBEq, ↓reduceIte, reduceCtorEq, eA, scal1, List.all_cons, List.all_nil, Bool.and_self, Option.isNone]
      refine call0 300 trivial trivial cr (.inl rfl) (fun A eA => ?_)
      simp (disch := first | omega | (simp only [avs_len, List.length_cons, List.length_append, List.length_nil, List.length_take, List.length_drop, List.length_map]; omega) | (simp only [cells, scal1, allSz, List.length_cons, List.length_nil, List.length_append, List.length_map, List.all_cons, List.all_nil, avs_len, beq_self_eq_true, Bool.and_self, and_self, or_true, true_or, reduceCtorEq, *]; done) | fail) only [c_event_Get, go_sem, Nat.reduceAdd, Nat.reduceSub, Nat.reduceMul, Nat.reduceLT, Nat.reduceLeDiff, Int.reduceToNat, Nat.reduceEqDiff, Nat.reduceBEq, ↓reduceIte, reduceCtorEq, eA, scal1, List.all_cons, List.all_nil, Bool.and_self]
      exact doneH (by simp only [go_sem, Nat.reduceAdd, Nat.reduceSub, Nat.reduceMul, Nat.reduceLT, Nat.reduceLeDiff, Int.reduceToNat, Nat.reduceEqDiff, Nat.reduceBEq, ↓reduceIte, reduceCtorEq]) (by simp only [go_sem, Nat.reduceAdd, Nat.reduceSub, Nat.reduceMul, Nat.reduceLT, Nat.reduceLeDiff, Int.reduceToNat, Nat.reduceEqDiff, Nat.reduceBEq, ↓reduceIte, reduceCtorEq]) rfl
theorem out_free (Hr : Heap) (f d g key g' : Nat) (bs : List Nat) (h : find Hr 1 key = none) : heapFree Hr (outS f d g (some (key, g')) bs) = true := by
  have h1 : nameFree 9 Hr (.sl 1 key g' 1 0 bs.length) = true := by
    show (match find Hr 1 key with | some (g', some _) => _ | _ => true) = true
    rw [h]
  show ((nameFree 9 Hr (.sl 1 key g' 1 0 bs.length) && (nameFree 9 Hr (.bool false) && true)) && ((avs bs).all (nameFree 9 Hr) && true)) = true
  rw [h1, avs_free]; rfl
theorem out_free2 (Hr : Heap) (f d g key g' n g2 : Nat) (bs : List Nat) (h : find Hr 1 key = none) : heapFree Hr [(f, d, g, some [.sl 1 key g' 1 0 n, .bool false]), (1, key, g', some (avs bs)), (8, 7, g2, some (avs bs))] = true := by
  have h1 : nameFree 9 Hr (.sl 1 key g' 1 0 n) = true := by
    show (match find Hr 1 key with | some (g', some _) => _ | _ => true) = true
    rw [h]
  show ((nameFree 9 Hr (.sl 1 key g' 1 0 n) && (nameFree 9 Hr (.bool false) && true)) && ((avs bs).all (nameFree 9 Hr) && ((avs bs).all (nameFree 9 Hr) && true))) = true
  rw [h1, avs_free]; rfl
theorem tup_free (Hr : Heap) (f d g n : Nat) (m : Int) (h : find Hr f d = none) : nameFree 9 Hr (.tup [.sl f d g 1 0 n, .int .i64 m]) = true := by
  show ((match find Hr f d with | some (g', some _) => _ | _ => true) && _) = true
  rw [h]; rfl
theorem putE_ne (b : E) : putE b ≠ [] := by
  cases b with
  | lf n => simp only [putE]; intro e; have := (List.append_eq_nil_iff.1 e).2; rw [numB_lt (by omega)] at this; cases this
  | nd n l r => simp only [putE]; intro e; have := (List.append_eq_nil_iff.1 (List.append_eq_nil_iff.1 (List.append_eq_nil_iff.1 e).1).1).2; rw [numB_lt (by omega)] at this; cases this
theorem got_some {s : InS} (h : (gotE s).2 = true) : ∃ r, (getE 8 s).2 = some r := by
  unfold gotE at h
  split at h
  · cases h
  · rename_i hn
    cases hg : (getE 8 s).2 with
    | none => exact absurd (.inl hg) hn
    | some r => exact ⟨r, rfl⟩
end Go.Proofs.Ytmokhopjnjecbab
/- Versions taken of bytes, one by one. -/
-- short
-- fuel 300
namespace Go.Ev
def lenIn (s : InS) : Nat := (s.getD []).length
theorem inNum_len (s : InS) : lenIn (inNum s).2 ≤ lenIn s ∧ ((inNum s).2 ≠ none → lenIn (inNum s).2 < lenIn s) := by
  cases s with
  | none => exact ⟨Nat.le_refl _, fun h => absurd rfl h⟩
  | some r =>
    cases hn : takeGo 0 r with
    | none => rw [inNum_no hn]; exact ⟨Nat.zero_le _, fun h => absurd rfl h⟩
    | some n =>
      have h1 := takeGo_some _ _ _ hn
      rw [inNum_yes hn]
      simp only [lenIn, Option.getD_some, List.length_drop]
      exact ⟨by omega, fun _ => by omega⟩
theorem inNum_some {s : InS} (h : (inNum s).2 ≠ none) : s ≠ none := by intro e; rw [e] at h; exact h rfl
theorem inCount_num {m : Int} {s : InS} (h : (inCount m s).2 ≠ none) : inCount m s = inNum s := by
  unfold inCount at h ⊢
  split at h
  · exact absurd rfl h
  · rename_i hn; rw [if_neg hn]
theorem inCount_len (m : Int) (s : InS) : lenIn (inCount m s).2 ≤ lenIn s := by
  unfold inCount; split
  · exact Nat.zero_le _
  · exact (inNum_len s).1
theorem inText_len (s : InS) : lenIn (inText s).2 ≤ lenIn s := by
  have := (inNum_len s).1
  unfold inText
  split
  · exact Nat.zero_le _
  · rename_i r hr
    rw [hr] at this
    split
    · exact Nat.zero_le _
    · simp only [lenIn, Option.getD_some, List.length_drop] at this ⊢; omega
theorem inText_some {s : InS} (h : (inText s).2 ≠ none) : s ≠ none := by
  intro e; rw [e] at h; exact h rfl
theorem inBool_some {s : InS} (h : (inBool s).2 ≠ none) : s ≠ none := by
  intro e; rw [e] at h; exact h rfl
theorem inBool_len (s : InS) : lenIn (inBool s).2 ≤ lenIn s := inCount_len 1 s
theorem getE_len : ∀ (d : Nat) (s : InS), lenIn (getE d s).2 ≤ lenIn s
  | 0, s => Nat.le_trans (inBool_len _) (inNum_len s).1
  | d + 1, s => by
    have h1 := Nat.le_trans (inBool_len (inNum s).2) (inNum_len s).1
    simp only [getE]; split
    · exact Nat.le_trans (Nat.le_trans (getE_len d _) (getE_len d _)) h1
    · exact h1
theorem getE_none : ∀ (d : Nat), (getE d none).2 = none
  | 0 => rfl
  | d + 1 => by simp only [getE]; rfl
theorem getE_some {d : Nat} {s : InS} (h : (getE d s).2 ≠ none) : s ≠ none := by
  intro e; rw [e, getE_none] at h; exact h rfl
end Go.Ev
namespace Go.Proofs.Ytmokhopjnjecbab
open Go.Ev
set_option linter.unusedVariables false
set_option linter.unusedSimpArgs false
set_option maxRecDepth 100000
set_option maxHeartbeats 3200000
abbrev o1 (s : InS) := inCount 1048576 s
abbrev o2 (s : InS) := inNum (o1 s).2
abbrev o3 (s : InS) := inText (o2 s).2
abbrev o4 (s : InS) := inText (o3 s).2
abbrev o5 (s : InS) := inBool (o4 s).2
def oneS (s : InS) : InS := (getE 8 (o5 s).2).2
noncomputable def oneV (s : InS) : Ver := ⟨((o1 s).1 : Nat), ((o2 s).1 : Nat), bstr (o3 s).1, bstr (o4 s).1, (o5 s).1, (gotE (o5 s).2).1⟩
noncomputable def oneOk (s : InS) : Bool := (gotE (o5 s).2).2 && vrtb (oneV s)
abbrev zver : Ver := ⟨0, 0, ⟨#[]⟩, ⟨#[]⟩, false, .mk 0 []⟩
theorem oneS_ok {s : InS} (h : OkIn s) : OkIn (oneS s) := getE_ok 8 (inBool_ok (inText_ok (inText_ok (inNum_ok (inCount_ok _ h)))))
theorem oneS_len (s : InS) (h : oneS s ≠ none) : lenIn (oneS s) < lenIn s := by
  have h5 : (o5 s).2 ≠ none := getE_some h
  have h4 : (o4 s).2 ≠ none := inBool_some h5
  have h3 : (o3 s).2 ≠ none := inText_some h4
  have h2 : (o2 s).2 ≠ none := inText_some h3
  have h1 : (o1 s).2 ≠ none := inNum_some h2
  have l1 : lenIn (oneS s) ≤ lenIn (o2 s).2 := Nat.le_trans (getE_len 8 _) (Nat.le_trans (inBool_len _) (Nat.le_trans (inText_len _) (inText_len _)))
  have l2 := (inNum_len (o1 s).2).2 h2
  have l3 := inCount_len 1048576 s
  exact Nat.lt_of_le_of_lt l1 (Nat.lt_of_lt_of_le l2 l3)
theorem wk_vtup {xs ys : List AV} {b : Bool} (h : Wk1 (.agg xs) (.agg ys)) : Wk1 (.tup [.agg xs, .bool b]) (.tup [.agg ys, .bool b]) := by
  refine Wk1.tup rfl (fun j x y hx hy => ?_)
  match j, hx, hy with
  | 0, hx, hy => simp at hx hy; subst hx hy; exact h
  | 1, hx, hy => simp at hx hy; subst hx hy; exact Wk1.refl _
  | j + 2, hx, hy => simp at hx
theorem wk_zver : Wk1 (.agg [.int .i64 0, .int .i64 0, .str ⟨#[]⟩, .str ⟨#[]⟩, .bool false, .int .i64 0, .nils]) (vv zver) := by
  refine Wk1.agg rfl (fun j x y hx hy => ?_)
  match j, hx, hy with
  | 0, hx, hy => simp at hx hy; subst hx hy; exact Wk1.refl _
  | 1, hx, hy => simp at hx hy; subst hx hy; exact Wk1.refl _
  | 2, hx, hy => simp at hx hy; subst hx hy; exact Wk1.refl _
  | 3, hx, hy => simp at hx hy; subst hx hy; exact Wk1.refl _
  | 4, hx, hy => simp at hx hy; subst hx hy; exact Wk1.refl _
  | 5, hx, hy => simp at hx hy; subst hx hy; exact Wk1.refl _
  | 6, hx, hy => simp at hx hy; subst hx hy; simp only [ET.ps, xtavs]; exact Wk1.nils 2
  | j + 7, hx, hy => simp at hx
theorem one_takes {s : InS} (hs : OkIn s) : Takes F_version_One [] s (oneS s) (.tup [vv (if oneOk s = true then oneV s else zver), .bool (oneOk s)]) := by
  intro f g nx hf
  have hFr := inE_free
  have k1 : OkIn (o1 s).2 := inCount_ok _ hs
  have k2 : OkIn (o2 s).2 := inNum_ok k1
  have k3 : OkIn (o3 s).2 := inText_ok k2
  have k4 : OkIn (o4 s).2 := inText_ok k3
  have k5 : OkIn (o5 s).2 := inBool_ok k4
  obtain ⟨nx1, h1⟩ := count_takes hs 1048576 f g (bump nx 2) hf
  obtain ⟨nx2, h2⟩ := num_takes k1 f g nx1 hf
  obtain ⟨nx3, h3⟩ := text_takes k2 f g nx2 hf
  obtain ⟨nx4, h4⟩ := text_takes k3 f g nx3 hf
  obtain ⟨nx5, h5⟩ := bool_takes k4 f g nx4 hf
  obtain ⟨nx6, h6⟩ := evGet_takes k5 f g (bump nx5 4) hf
  obtain ⟨nx7, h7⟩ := bad_takes (oneS s) f g (bump nx6 5) hf
  have cr := vRight_calls (oneV s)
  have e0 : (getE 8 (o5 s).2).2 = oneS s := rfl
  rw [e0] at h6
  cases hb : (gotE (o5 s).2).2 with
  | false =>
    have hno : oneOk s = false := by unfold oneOk; rw [hb]; rfl
    rw [hno, if_neg (by simp)]
    rw [hb] at h6
    refine ⟨bump nx6 5, HCalls.wk ?_ (wk_vtup wk_zver)⟩
    refine hcalls_version_One 10 [(f, 6)] (walk0 300 trivial (fun A eA => ?_))
    simp (disch := first | omega | (simp only [avs_len, List.length_cons, List.length_append, List.length_nil, List.length_take, List.length_drop, List.length_map]; omega) | (simp only [cells, scal1, allSz, List.length_cons, List.length_nil, List.length_append, List.length_map, List.all_cons, List.all_nil, avs_len, beq_self_eq_true, Bool.and_self, and_self, or_true, true_or, reduceCtorEq, *]; done) | fail) only [c_version_One, go_sem, Nat.reduceAdd, Nat.reduceSub, Nat.reduceMul, Nat.reduceLT, Nat.reduceLeDiff, Int.reduceToNat, Nat.reduceEqDiff, Nat.reduceBEq, ↓reduceIte, reduceCtorEq, eA, scal1, List.all_cons, List.all_nil, Bool.and_self]
    repeat (refine call2 300 trivial trivial [(f, 6)] (by simp only [go_sem, Nat.reduceAdd, Nat.reduceSub, Nat.reduceMul, Nat.reduceLT, Nat.reduceLeDiff, Int.reduceToNat, Nat.reduceEqDiff, Nat.reduceBEq, ↓reduceIte, reduceCtorEq] <;> rfl) (by simp only [go_sem, Nat.reduceAdd, Nat.reduceSub, Nat.reduceMul, Nat.reduceLT, Nat.reduceLeDiff, Int.reduceToNat, Nat.reduceEqDiff, Nat.reduceBEq, ↓reduceIte, reduceCtorEq, Ev.rest, keyIn] <;> rfl) (by first | exact h1 | exact h2 | exact h3 | exact h4 | exact h5 | exact h6) (.inr ⟨rfl, by simp only [heapFree, hFr, Bool.and_self]⟩) (fun A eA => ?_); simp (disch := first | omega | (simp only [avs_len, List.length_cons, List.length_append, List.length_nil, List.length_take, List.length_drop, List.length_map]; omega) | (simp only [cells, scal1, allSz, List.length_cons, List.length_nil, List.length_append, List.length_map, List.all_cons, List.all_nil, avs_len, beq_self_eq_true, Bool.and_self, and_self, or_true, true_or, reduceCtorEq, *]; done) | fail) only [c_version_One, go_sem, Nat.reduceAdd, Nat.reduceSub, Nat.reduceMul, Nat.reduceLT, Nat.reduceLeDiff, Int.reduceToNat, Nat.reduceEqDiff, Nat.reduceBEq, ↓reduceIte, reduceCtorEq, eA, scal1, List.all_cons, List.all_nil, Bool.and_self, Option.isNone])
    exact doneH (by simp only [go_sem, Nat.reduceAdd, Nat.reduceSub, Nat.reduceMul, Nat.reduceLT, Nat.reduceLeDiff, Int.reduceToNat, Nat.reduceEqDiff, Nat.reduceBEq, ↓reduceIte, reduceCtorEq]) (by simp only [go_sem, Nat.reduceAdd, Nat.reduceSub, Nat.reduceMul, Nat.reduceLT, Nat.reduceLeDiff, Int.reduceToNat, Nat.reduceEqDiff, Nat.reduceBEq, ↓reduceIte, reduceCtorEq]) rfl
  | true =>
    obtain ⟨r, hr⟩ : ∃ r, oneS s = some r := got_some hb
    rw [hb] at h6
    rw [hr] at h6 h7
    rw [hr]
    by_cases hv : VRt (oneV s)
    · have hyes : oneOk s = true := by unfold oneOk; rw [hb, vrtb_true.2 hv]; rfl
      rw [hyes, if_pos rfl]
      rw [vrtb_true.2 hv] at cr
      refine ⟨nx7, ?_⟩
      refine hcalls_version_One 10 [(f, 6)] (walk0 300 trivial (fun A eA => ?_))
      simp (disch := first | omega | (simp only [avs_len, List.length_cons, List.length_append, List.length_nil, List.length_take, List.length_drop, List.length_map]; omega) | (simp only [cells, scal1, allSz, List.length_cons, List.length_nil, List.length_append, List.length_map, List.all_cons, List.all_nil, avs_len, beq_self_eq_true, Bool.and_self, and_self, or_true, true_or, reduceCtorEq, *]; done) | fail) only [c_version_One, go_sem, Nat.reduceAdd, Nat.reduceSub, Nat.reduceMul, Nat.reduceLT, Nat.reduceLeDiff, Int.reduceToNat, Nat.reduceEqDiff, Nat.reduceBEq, ↓reduceIte, reduceCtorEq, eA, scal1, List.all_cons, List.all_nil, Bool.and_self]
      repeat (refine call2 300 trivial trivial [(f, 6)] (by simp only [go_sem, Nat.reduceAdd, Nat.reduceSub, Nat.reduceMul, Nat.reduceLT, Nat.reduceLeDiff, Int.reduceToNat, Nat.reduceEqDiff, Nat.reduceBEq, ↓reduceIte, reduceCtorEq] <;> rfl) (by simp only [go_sem, Nat.reduceAdd, Nat.reduceSub, Nat.reduceMul, Nat.reduceLT, Nat.reduceLeDiff, Int.reduceToNat, Nat.reduceEqDiff, Nat.reduceBEq, ↓reduceIte, reduceCtorEq, Ev.rest, keyIn] <;> rfl) (by first | exact h1 | exact h2 | exact h3 | exact h4 | exact h5 | exact h6 | exact h7) (.inr ⟨rfl, by simp only [heapFree, hFr, Bool.and_self]⟩) (fun A eA => ?_); simp (disch := first | omega | (simp only [avs_len, List.length_cons, List.length_append, List.length_nil, List.length_take, List.length_drop, List.length_map]; omega) | (simp only [cells, scal1, allSz, List.length_cons, List.length_nil, List.length_append, List.length_map, List.all_cons, List.all_nil, avs_len, beq_self_eq_true, Bool.and_self, and_self, or_true, true_or, reduceCtorEq, *]; done) | fail) only [c_version_One, go_sem, Nat.reduceAdd, Nat.reduceSub, Nat.reduceMul, Nat.reduceLT, Nat.reduceLeDiff, Int.reduceToNat, Nat.reduceEqDiff, Nat.reduceBEq, ↓reduceIte, reduceCtorEq, eA, scal1, List.all_cons, List.all_nil, Bool.and_self, Option.isNone])
      refine call0 300 trivial trivial cr (.inl rfl) (fun A eA => ?_)
      simp (disch := first | omega | (simp only [avs_len, List.length_cons, List.length_append, List.length_nil, List.length_take, List.length_drop, List.length_map]; omega) | (simp only [cells, scal1, allSz, List.length_cons, List.length_nil, List.length_append, List.length_map, List.all_cons, List.all_nil, avs_len, beq_self_eq_true, Bool.and_self, and_self, or_true, true_or, reduceCtorEq, *]; done) | fail) only [c_version_One, go_sem, Nat.reduceAdd, Nat.reduceSub, Nat.reduceMul, Nat.reduceLT, Nat.reduceLeDiff, Int.reduceToNat, Nat.reduceEqDiff, Nat.reduceBEq, ↓reduceIte, reduceCtorEq, eA, scal1, List.all_cons, List.all_nil, Bool.and_self]
      exact doneH (by simp only [go_sem, Nat.reduceAdd, Nat.reduceSub, Nat.reduceMul, Nat.reduceLT, Nat.reduceLeDiff, Int.reduceToNat, Nat.reduceEqDiff, Nat.reduceBEq, ↓reduceIte, reduceCtorEq]) (by simp only [go_sem, Nat.reduceAdd, Nat.reduceSub, Nat.reduceMul, Nat.reduceLT, Nat.reduceLeDiff, Int.reduceToNat, Nat.reduceEqDiff, Nat.reduceBEq, ↓reduceIte, reduceCtorEq]; rfl) rfl
    · have hno : oneOk s = false := by unfold oneOk; rw [vrtb_no hv, Bool.and_false]
      rw [hno, if_neg (by simp)]
      rw [vrtb_no hv] at cr
      refine ⟨nx7, HCalls.wk ?_ (wk_vtup wk_zver)⟩
      refine hcalls_version_One 10 [(f, 6)] (walk0 300 trivial (fun A eA => ?_))
      simp (disch := first | omega | (simp only [avs_len, List.length_cons, List.length_append, List.length_nil, List.length_take, List.length_drop, List.length_map]; omega) | (simp only [cells, scal1, allSz, List.length_cons, List.length_nil, List.length_append, List.length_map, List.all_cons, List.all_nil, avs_len, beq_self_eq_true, Bool.and_self, and_self, or_true, true_or, reduceCtorEq, *]; done) | fail) only [c_version_One, go_sem, Nat.reduceAdd, Nat.reduceSub, Nat.reduceMul, Nat.reduceLT, Nat.reduceLeDiff, Int.reduceToNat, Nat.reduceEqDiff, Nat.reduceBEq, ↓reduceIte, reduceCtorEq, eA, scal1, List.all_cons, List.all_nil, Bool.and_self]
      repeat (refine call2 300 trivial trivial [(f, 6)] (by simp only [go_sem, Nat.reduceAdd, Nat.reduceSub, Nat.reduceMul, Nat.reduceLT, Nat.reduceLeDiff, Int.reduceToNat, Nat.reduceEqDiff, Nat.reduceBEq, ↓reduceIte, reduceCtorEq] <;> rfl) (by simp only [go_sem, Nat.reduceAdd, Nat.reduceSub, Nat.reduceMul, Nat.reduceLT, Nat.reduceLeDiff, Int.reduceToNat, Nat.reduceEqDiff, Nat.reduceBEq, ↓reduceIte, reduceCtorEq, Ev.rest, keyIn] <;> rfl) (by first | exact h1 | exact h2 | exact h3 | exact h4 | exact h5 | exact h6 | exact h7) (.inr ⟨rfl, by simp only [heapFree, hFr, Bool.and_self]⟩) (fun A eA => ?_); simp (disch := first | omega | (simp only [avs_len, List.length_cons, List.length_append, List.length_nil, List.length_take, List.length_drop, List.length_map]; omega) | (simp only [cells, scal1, allSz, List.length_cons, List.length_nil, List.length_append, List.length_map, List.all_cons, List.all_nil, avs_len, beq_self_eq_true, Bool.and_self, and_self, or_true, true_or, reduceCtorEq, *]; done) | fail) only [c_version_One, go_sem, Nat.reduceAdd, Nat.reduceSub, Nat.reduceMul, Nat.reduceLT, Nat.reduceLeDiff, Int.reduceToNat, Nat.reduceEqDiff, Nat.reduceBEq, ↓reduceIte, reduceCtorEq, eA, scal1, List.all_cons, List.all_nil, Bool.and_self, Option.isNone])
      refine call0 300 trivial trivial cr (.inl rfl) (fun A eA => ?_)
      simp (disch := first | omega | (simp only [avs_len, List.length_cons, List.length_append, List.length_nil, List.length_take, List.length_drop, List.length_map]; omega) | (simp only [cells, scal1, allSz, List.length_cons, List.length_nil, List.length_append, List.length_map, List.all_cons, List.all_nil, avs_len, beq_self_eq_true, Bool.and_self, and_self, or_true, true_or, reduceCtorEq, *]; done) | fail) only [c_version_One, go_sem, Nat.reduceAdd, Nat.reduceSub, Nat.reduceMul, Nat.reduceLT, Nat.reduceLeDiff, Int.reduceToNat, Nat.reduceEqDiff, Nat.reduceBEq, ↓reduceIte, reduceCtorEq, eA, scal1, List.all_cons, List.all_nil, Bool.and_self]
      exact doneH (by simp only [go_sem, Nat.reduceAdd, Nat.reduceSub, Nat.reduceMul, Nat.reduceLT, Nat.reduceLeDiff, Int.reduceToNat, Nat.reduceEqDiff, Nat.reduceBEq, ↓reduceIte, reduceCtorEq]) (by simp only [go_sem, Nat.reduceAdd, Nat.reduceSub, Nat.reduceMul, Nat.reduceLT, Nat.reduceLeDiff, Int.reduceToNat, Nat.reduceEqDiff, Nat.reduceBEq, ↓reduceIte, reduceCtorEq]) rfl
theorem spoil_takes {s : InS} (hs : OkIn s) : Takes F_version_Spoil [] s none (.tup []) := by
  intro f g nx hf
  obtain ⟨nx1, h1⟩ := count_takes hs (-1) f g nx hf
  have e : inCount (-1) s = (0, none) := inCount_many (by omega)
  rw [e] at h1
  refine ⟨nx1, hcalls_version_Spoil 10 [(f, 6)] (walk0 300 trivial (fun A eA => ?_))⟩
  simp (disch := first | omega | (simp only [avs_len, List.length_cons, List.length_append, List.length_nil, List.length_take, List.length_drop, List.length_map]; omega) | (simp only [cells, scal1, allSz, List.length_cons, List.length_nil, List.length_append, List.length_map, List.all_cons, List.all_nil, avs_len, beq_self_eq_true, Bool.and_self, and_self, or_true, true_or, reduceCtorEq, *]; done) | fail) only [c_version_Spoil, go_sem, Nat.reduceAdd, Nat.reduceSub, Nat.reduceMul, Nat.reduceLT, Nat.reduceLeDiff, Int.reduceToNat, Nat.reduceEqDiff, Nat.reduceBEq, ↓reduceIte, reduceCtorEq, eA, scal1]
  refine call2 300 trivial trivial [(f, 6)] (by simp only [go_sem, Nat.reduceAdd, Nat.reduceSub, Nat.reduceMul, Nat.reduceLT, Nat.reduceLeDiff, Int.reduceToNat, Nat.reduceEqDiff, Nat.reduceBEq, ↓reduceIte, reduceCtorEq] <;> rfl) (by simp only [go_sem, Nat.reduceAdd, Nat.reduceSub, Nat.reduceMul, Nat.reduceLT, Nat.reduceLeDiff, Int.reduceToNat, Nat.reduceEqDiff, Nat.reduceBEq, ↓reduceIte, reduceCtorEq, Ev.rest, keyIn] <;> rfl) h1 (.inl rfl) (fun A eA => ?_)
  simp (disch := first | omega | (simp only [avs_len, List.length_cons, List.length_append, List.length_nil, List.length_take, List.length_drop, List.length_map]; omega) | (simp only [cells, scal1, allSz, List.length_cons, List.length_nil, List.length_append, List.length_map, List.all_cons, List.all_nil, avs_len, beq_self_eq_true, Bool.and_self, and_self, or_true, true_or, reduceCtorEq, *]; done) | fail) only [c_version_Spoil, go_sem, Nat.reduceAdd, Nat.reduceSub, Nat.reduceMul, Nat.reduceLT, Nat.reduceLeDiff, Int.reduceToNat, Nat.reduceEqDiff, Nat.reduceBEq, ↓reduceIte, reduceCtorEq, eA, scal1]
  exact fallH (by simp only [go_sem, Nat.reduceAdd, Nat.reduceSub, Nat.reduceMul, Nat.reduceLT, Nat.reduceLeDiff, Int.reduceToNat, Nat.reduceEqDiff, Nat.reduceBEq, ↓reduceIte, reduceCtorEq]) rfl rfl
end Go.Proofs.Ytmokhopjnjecbab
/- Versions taken of bytes, as many as there are. -/
-- short
-- fuel 300
namespace Go.Proofs.Ytmokhopjnjecbab
open Go.Ev
set_option linter.unusedVariables false
set_option linter.unusedSimpArgs false
set_option maxRecDepth 100000
set_option maxHeartbeats 3200000
/-- A row of versions, cell by cell. -/
def vcat : List Ver → List AV
  | [] => []
  | v :: l => vcs v ++ vcat l
theorem vcat_cat : ∀ l : List Ver, catCells (l.map vv) = vcat l
  | [] => rfl
  | v :: l => by simp only [List.map_cons, catCells, cells, vcat, vcat_cat l]
theorem vcat_len : ∀ l : List Ver, (vcat l).length = l.length * 7
  | [] => rfl
  | v :: l => by simp only [vcat, List.length_append, vcat_len l, List.length_cons, List.length_nil]; omega
theorem vcat_app : ∀ a b : List Ver, vcat a ++ vcat b = vcat (a ++ b)
  | [], b => rfl
  | v :: a, b => by simp only [vcat, List.append_assoc, vcat_app a b, List.cons_append]
theorem vcat_free (H : Heap) : ∀ l : List Ver, (vcat l).all (nameFree 9 H) = true
  | [] => rfl
  | v :: l => by simp only [vcat, List.all_append, vcat_free H l]; rfl
/-- What Get gives. -/
noncomputable def getVs : Nat → Nat → List Ver → InS → List Ver × InS
  | 0, _, acc, s => (acc, s)
  | n + 1, most, acc, s => if lenIn s = 0 then (acc, s) else if oneOk s = false ∨ most ≤ acc.length then ([], none) else getVs n most (acc ++ [oneV s]) (oneS s)
theorem oneOk_some {s : InS} (h : oneOk s = true) : oneS s ≠ none := by
  unfold oneOk at h
  rw [Bool.and_eq_true] at h
  obtain ⟨r, hr⟩ := got_some h.1
  show (getE 8 (o5 s).2).2 ≠ none
  rw [hr]; simp
theorem get_loop (most : Nat) (hm : most < 1000) (f g : Nat) (hf : f < 9) : ∀ (n : Nat) (acc : List Ver) (s : InS) (e : Option Nat) (nx : Ctr), OkIn s → lenIn s < n → lenIn s < 1000000 → acc.length ≤ most → (e = none → acc = []) →
    ∃ (e' : Option Nat) (nx' : Ctr) (ks : List (Nat × Nat)), (e' = none → (getVs n most acc s).1 = []) ∧
      RunsX Try.prog 12 (GivesH ks [.t 4] (accV 12 29 7 e' (getVs n most acc s).1.length) ((f, 6, g, some (inE (getVs n most acc s).2)) :: accE 12 29 e' (vcat (getVs n most acc s).1)) nx') (i_version_Get_0 ++ [.c c_version_Get_k0])
        (s_version_Get_0 (.ptr f 6 g 0) (.int .i64 (most : Nat)) (accV 12 29 7 e acc.length)) ((f, 6, g, some (inE s)) :: accE 12 29 e (vcat acc)) nx := by
  intro n
  induction n with
  | zero => intro acc s e nx hs hl; omega
  | succ n ih =>
    intro acc s e nx hs hl hl2 ha he
    have hFr := inE_free
    obtain ⟨nx1, h1⟩ := left_takes s f g nx hf
    by_cases h0 : lenIn s = 0
    · have e0 : getVs (n + 1) most acc s = (acc, s) := by simp only [getVs]; rw [if_pos h0]
      rw [e0]
      have i0 : ¬ (0 : Int) < ((s.getD []).length : Nat) := by unfold lenIn at h0; omega
      cases e with
      | none =>
        have hacc := he rfl
        subst hacc
        refine ⟨none, nx1, [(f, 6)], fun _ => rfl, ?_⟩
        refine round (its := [.blk 0 wb_version_Get_0]) (k0 := [.c c_version_Get_k0]) 300 trivial trivial (fun A eA => ?_)
        simp only [accV, accE]
        simp (disch := first | omega | (simp only [avs_len, List.length_cons, List.length_append, List.length_nil, List.length_take, List.length_drop, List.length_map]; omega) | (simp only [cells, scal1, allSz, List.length_cons, List.length_nil, List.length_append, List.length_map, List.all_cons, List.all_nil, avs_len, beq_self_eq_true, Bool.and_self, and_self, or_true, true_or, reduceCtorEq, *]; done) | fail) only [c_version_Get, wl_version_Get_0, s_version_Get_0, c_version_Get_l0, wb_version_Get_0, c_version_Get_k0, go_sem, Nat.reduceAdd, Nat.reduceSub, Nat.reduceMul, Nat.reduceLT, Nat.reduceLeDiff, Int.reduceToNat, Nat.reduceEqDiff, Nat.reduceBEq, ↓reduceIte, reduceCtorEq, eA, scal1]
        refine call2 300 trivial trivial [(f, 6)] (by simp only [go_sem, Nat.reduceAdd, Nat.reduceSub, Nat.reduceMul, Nat.reduceLT, Nat.reduceLeDiff, Int.reduceToNat, Nat.reduceEqDiff, Nat.reduceBEq, ↓reduceIte, reduceCtorEq] <;> rfl) (by simp only [go_sem, Nat.reduceAdd, Nat.reduceSub, Nat.reduceMul, Nat.reduceLT, Nat.reduceLeDiff, Int.reduceToNat, Nat.reduceEqDiff, Nat.reduceBEq, ↓reduceIte, reduceCtorEq, Ev.rest, keyIn] <;> rfl) h1 (.inl rfl) (fun A eA => ?_)
        simp (disch := first | omega | (simp only [avs_len, List.length_cons, List.length_append, List.length_nil, List.length_take, List.length_drop, List.length_map]; omega) | (simp only [cells, scal1, allSz, List.length_cons, List.length_nil, List.length_append, List.length_map, List.all_cons, List.all_nil, avs_len, beq_self_eq_true, Bool.and_self, and_self, or_true, true_or, reduceCtorEq, *]; done) | fail) only [c_version_Get, wl_version_Get_0, s_version_Get_0, c_version_Get_l0, wb_version_Get_0, c_version_Get_k0, go_sem, Nat.reduceAdd, Nat.reduceSub, Nat.reduceMul, Nat.reduceLT, Nat.reduceLeDiff, Int.reduceToNat, Nat.reduceEqDiff, Nat.reduceBEq, ↓reduceIte, reduceCtorEq, eA, scal1, i0]
        refine walk0 (its := [.c c_version_Get_k0]) 300 trivial (fun A eA => ?_)
        simp (disch := first | omega | (simp only [avs_len, List.length_cons, List.length_append, List.length_nil, List.length_take, List.length_drop, List.length_map]; omega) | (simp only [cells, scal1, allSz, List.length_cons, List.length_nil, List.length_append, List.length_map, List.all_cons, List.all_nil, avs_len, beq_self_eq_true, Bool.and_self, and_self, or_true, true_or, reduceCtorEq, *]; done) | fail) only [c_version_Get, wl_version_Get_0, s_version_Get_0, c_version_Get_l0, wb_version_Get_0, c_version_Get_k0, go_sem, Nat.reduceAdd, Nat.reduceSub, Nat.reduceMul, Nat.reduceLT, Nat.reduceLeDiff, Int.reduceToNat, Nat.reduceEqDiff, Nat.reduceBEq, ↓reduceIte, reduceCtorEq, eA, scal1]
        exact doneH (by simp only [go_sem, Nat.reduceAdd, Nat.reduceSub, Nat.reduceMul, Nat.reduceLT, Nat.reduceLeDiff, Int.reduceToNat, Nat.reduceEqDiff, Nat.reduceBEq, ↓reduceIte, reduceCtorEq]) rfl rfl
      | some ge =>
        refine ⟨some ge, nx1, [(f, 6), (12, 29)], (fun h => by cases h), ?_⟩
        refine round (its := [.blk 0 wb_version_Get_0]) (k0 := [.c c_version_Get_k0]) 300 trivial trivial (fun A eA => ?_)
        simp only [accV, accE]
        simp (disch := first | omega | (simp only [avs_len, List.length_cons, List.length_append, List.length_nil, List.length_take, List.length_drop, List.length_map]; omega) | (simp only [cells, scal1, allSz, List.length_cons, List.length_nil, List.length_append, List.length_map, List.all_cons, List.all_nil, avs_len, beq_self_eq_true, Bool.and_self, and_self, or_true, true_or, reduceCtorEq, *]; done) | fail) only [c_version_Get, wl_version_Get_0, s_version_Get_0, c_version_Get_l0, wb_version_Get_0, c_version_Get_k0, go_sem, Nat.reduceAdd, Nat.reduceSub, Nat.reduceMul, Nat.reduceLT, Nat.reduceLeDiff, Int.reduceToNat, Nat.reduceEqDiff, Nat.reduceBEq, ↓reduceIte, reduceCtorEq, eA, scal1]
        refine call2 300 trivial trivial [(f, 6)] (by simp only [go_sem, Nat.reduceAdd, Nat.reduceSub, Nat.reduceMul, Nat.reduceLT, Nat.reduceLeDiff, Int.reduceToNat, Nat.reduceEqDiff, Nat.reduceBEq, ↓reduceIte, reduceCtorEq] <;> rfl) (by simp only [go_sem, Nat.reduceAdd, Nat.reduceSub, Nat.reduceMul, Nat.reduceLT, Nat.reduceLeDiff, Int.reduceToNat, Nat.reduceEqDiff, Nat.reduceBEq, ↓reduceIte, reduceCtorEq, Ev.rest, keyIn] <;> rfl) h1 (.inr ⟨rfl, by simp only [heapFree, hFr, Bool.and_self]⟩) (fun A eA => ?_)
        simp (disch := first | omega | (simp only [avs_len, List.length_cons, List.length_append, List.length_nil, List.length_take, List.length_drop, List.length_map]; omega) | (simp only [cells, scal1, allSz, List.length_cons, List.length_nil, List.length_append, List.length_map, List.all_cons, List.all_nil, avs_len, beq_self_eq_true, Bool.and_self, and_self, or_true, true_or, reduceCtorEq, *]; done) | fail) only [c_version_Get, wl_version_Get_0, s_version_Get_0, c_version_Get_l0, wb_version_Get_0, c_version_Get_k0, go_sem, Nat.reduceAdd, Nat.reduceSub, Nat.reduceMul, Nat.reduceLT, Nat.reduceLeDiff, Int.reduceToNat, Nat.reduceEqDiff, Nat.reduceBEq, ↓reduceIte, reduceCtorEq, eA, scal1, i0]
        refine walk0 (its := [.c c_version_Get_k0]) 300 trivial (fun A eA => ?_)
        simp (disch := first | omega | (simp only [avs_len, List.length_cons, List.length_append, List.length_nil, List.length_take, List.length_drop, List.length_map]; omega) | (simp only [cells, scal1, allSz, List.length_cons, List.length_nil, List.length_append, List.length_map, List.all_cons, List.all_nil, avs_len, beq_self_eq_true, Bool.and_self, and_self, or_true, true_or, reduceCtorEq, *]; done) | fail) only [c_version_Get, wl_version_Get_0, s_version_Get_0, c_version_Get_l0, wb_version_Get_0, c_version_Get_k0, go_sem, Nat.reduceAdd, Nat.reduceSub, Nat.reduceMul, Nat.reduceLT, Nat.reduceLeDiff, Int.reduceToNat, Nat.reduceEqDiff, Nat.reduceBEq, ↓reduceIte, reduceCtorEq, eA, scal1]
        exact doneH (by simp only [go_sem, Nat.reduceAdd, Nat.reduceSub, Nat.reduceMul, Nat.reduceLT, Nat.reduceLeDiff, Int.reduceToNat, Nat.reduceEqDiff, Nat.reduceBEq, ↓reduceIte, reduceCtorEq]) rfl rfl
    · have i0 : (0 : Int) < ((s.getD []).length : Nat) := by unfold lenIn at h0; omega
      obtain ⟨nx2, h2⟩ := one_takes hs f g nx1 hf
      obtain ⟨nx3, h3⟩ := spoil_takes (oneS_ok hs) f g (bump nx2 6) hf
      by_cases hbad : oneOk s = false ∨ most ≤ acc.length
      · have e0 : getVs (n + 1) most acc s = ([], none) := by simp only [getVs]; rw [if_neg h0, if_pos hbad]
        rw [e0]
        refine ⟨none, nx3, [(f, 6)], fun _ => rfl, ?_⟩
        have hcase : oneOk s = false ∨ (oneOk s = true ∧ (most : Int) ≤ (acc.length : Nat)) := by
          rcases hbad with h | h
          · exact .inl h
          · cases ho : oneOk s
            · exact .inl rfl
            · exact .inr ⟨rfl, by omega⟩
        refine round (its := [.blk 0 wb_version_Get_0]) (k0 := [.c c_version_Get_k0]) 300 trivial trivial (fun A eA => ?_)
        rcases hcase with ho | ⟨ho, hm2⟩
        all_goals
          rw [ho] at h2
          simp only [Bool.false_eq_true, if_false, if_true] at h2
          cases e with
          | none =>
            have hacc := he rfl
            subst hacc
            simp only [accV, accE]
            simp (disch := first | omega | (simp only [avs_len, List.length_cons, List.length_append, List.length_nil, List.length_take, List.length_drop, List.length_map]; omega) | (simp only [cells, scal1, allSz, List.length_cons, List.length_nil, List.length_append, List.length_map, List.all_cons, List.all_nil, avs_len, beq_self_eq_true, Bool.and_self, and_self, or_true, true_or, reduceCtorEq, *]; done) | fail) only [c_version_Get, wl_version_Get_0, s_version_Get_0, c_version_Get_l0, wb_version_Get_0, c_version_Get_k0, go_sem, Nat.reduceAdd, Nat.reduceSub, Nat.reduceMul, Nat.reduceLT, Nat.reduceLeDiff, Int.reduceToNat, Nat.reduceEqDiff, Nat.reduceBEq, ↓reduceIte, reduceCtorEq, eA, scal1]
            refine call2 300 trivial trivial [(f, 6)] (by simp only [go_sem, Nat.reduceAdd, Nat.reduceSub, Nat.reduceMul, Nat.reduceLT, Nat.reduceLeDiff, Int.reduceToNat, Nat.reduceEqDiff, Nat.reduceBEq, ↓reduceIte, reduceCtorEq] <;> rfl) (by simp only [go_sem, Nat.reduceAdd, Nat.reduceSub, Nat.reduceMul, Nat.reduceLT, Nat.reduceLeDiff, Int.reduceToNat, Nat.reduceEqDiff, Nat.reduceBEq, ↓reduceIte, reduceCtorEq, Ev.rest, keyIn] <;> rfl) h1 (.inl rfl) (fun A eA => ?_)
            simp (disch := first | omega | (simp only [avs_len, List.length_cons, List.length_append, List.length_nil, List.length_take, List.length_drop, List.length_map]; omega) | (simp only [cells, scal1, allSz, List.length_cons, List.length_nil, List.length_append, List.length_map, List.all_cons, List.all_nil, avs_len, beq_self_eq_true, Bool.and_self, and_self, or_true, true_or, reduceCtorEq, *]; done) | fail) only [c_version_Get, wl_version_Get_0, s_version_Get_0, c_version_Get_l0, wb_version_Get_0, c_version_Get_k0, go_sem, Nat.reduceAdd, Nat.reduceSub, Nat.reduceMul, Nat.reduceLT, Nat.reduceLeDiff, Int.reduceToNat, Nat.reduceEqDiff, Nat.reduceBEq, ↓reduceIte, reduceCtorEq, eA, scal1, i0]
            refine call2 300 trivial trivial [(f, 6)] (by simp only [go_sem, Nat.reduceAdd, Nat.reduceSub, Nat.reduceMul, Nat.reduceLT, Nat.reduceLeDiff, Int.reduceToNat, Nat.reduceEqDiff, Nat.reduceBEq, ↓reduceIte, reduceCtorEq] <;> rfl) (by simp only [go_sem, Nat.reduceAdd, Nat.reduceSub, Nat.reduceMul, Nat.reduceLT, Nat.reduceLeDiff, Int.reduceToNat, Nat.reduceEqDiff, Nat.reduceBEq, ↓reduceIte, reduceCtorEq, Ev.rest, keyIn] <;> rfl) h2 (.inl rfl) (fun A eA => ?_)
            simp (disch := first | omega | (simp only [avs_len, List.length_cons, List.length_append, List.length_nil, List.length_take, List.length_drop, List.length_map]; omega) | (simp only [cells, scal1, allSz, List.length_cons, List.length_nil, List.length_append, List.length_map, List.all_cons, List.all_nil, avs_len, beq_self_eq_true, Bool.and_self, and_self, or_true, true_or, reduceCtorEq, *]; done) | fail) only [c_version_Get, wl_version_Get_0, s_version_Get_0, c_version_Get_l0, wb_version_Get_0, c_version_Get_k0, go_sem, Nat.reduceAdd, Nat.reduceSub, Nat.reduceMul, Nat.reduceLT, Nat.reduceLeDiff, Int.reduceToNat, Nat.reduceEqDiff, Nat.reduceBEq, ↓reduceIte, reduceCtorEq, eA, scal1, List.all_cons, List.all_nil, Bool.and_self]
            refine call2 300 trivial trivial [(f, 6)] (by simp only [go_sem, Nat.reduceAdd, Nat.reduceSub, Nat.reduceMul, Nat.reduceLT, Nat.reduceLeDiff, Int.reduceToNat, Nat.reduceEqDiff, Nat.reduceBEq, ↓reduceIte, reduceCtorEq] <;> rfl) (by simp only [go_sem, Nat.reduceAdd, Nat.reduceSub, Nat.reduceMul, Nat.reduceLT, Nat.reduceLeDiff, Int.reduceToNat, Nat.reduceEqDiff, Nat.reduceBEq, ↓reduceIte, reduceCtorEq, Ev.rest, keyIn] <;> rfl) h3 (.inr ⟨rfl, rfl⟩) (fun A eA => ?_)
            simp (disch := first | omega | (simp only [avs_len, List.length_cons, List.length_append, List.length_nil, List.length_take, List.length_drop, List.length_map]; omega) | (simp only [cells, scal1, allSz, List.length_cons, List.length_nil, List.length_append, List.length_map, List.all_cons, List.all_nil, avs_len, beq_self_eq_true, Bool.and_self, and_self, or_true, true_or, reduceCtorEq, *]; done) | fail) only [c_version_Get, wl_version_Get_0, s_version_Get_0, c_version_Get_l0, wb_version_Get_0, c_version_Get_k0, go_sem, Nat.reduceAdd, Nat.reduceSub, Nat.reduceMul, Nat.reduceLT, Nat.reduceLeDiff, Int.reduceToNat, Nat.reduceEqDiff, Nat.reduceBEq, ↓reduceIte, reduceCtorEq, eA, scal1]
            exact doneH (by simp only [go_sem, Nat.reduceAdd, Nat.reduceSub, Nat.reduceMul, Nat.reduceLT, Nat.reduceLeDiff, Int.reduceToNat, Nat.reduceEqDiff, Nat.reduceBEq, ↓reduceIte, reduceCtorEq]) rfl rfl
          | some ge =>
            simp only [accV, accE]
            simp (disch := first | omega | (simp only [avs_len, List.length_cons, List.length_append, List.length_nil, List.length_take, List.length_drop, List.length_map]; omega) | (simp only [cells, scal1, allSz, List.length_cons, List.length_nil, List.length_append, List.length_map, List.all_cons, List.all_nil, avs_len, beq_self_eq_true, Bool.and_self, and_self, or_true, true_or, reduceCtorEq, *]; done) | fail) only [c_version_Get, wl_version_Get_0, s_version_Get_0, c_version_Get_l0, wb_version_Get_0, c_version_Get_k0, go_sem, Nat.reduceAdd, Nat.reduceSub, Nat.reduceMul, Nat.reduceLT, Nat.reduceLeDiff, Int.reduceToNat, Nat.reduceEqDiff, Nat.reduceBEq, ↓reduceIte, reduceCtorEq, eA, scal1]
            refine call2 300 trivial trivial [(f, 6)] (by simp only [go_sem, Nat.reduceAdd, Nat.reduceSub, Nat.reduceMul, Nat.reduceLT, Nat.reduceLeDiff, Int.reduceToNat, Nat.reduceEqDiff, Nat.reduceBEq, ↓reduceIte, reduceCtorEq] <;> rfl) (by simp only [go_sem, Nat.reduceAdd, Nat.reduceSub, Nat.reduceMul, Nat.reduceLT, Nat.reduceLeDiff, Int.reduceToNat, Nat.reduceEqDiff, Nat.reduceBEq, ↓reduceIte, reduceCtorEq, Ev.rest, keyIn] <;> rfl) h1 (.inr ⟨rfl, by simp only [heapFree, hFr, Bool.and_self]⟩) (fun A eA => ?_)
            simp (disch := first | omega | (simp only [avs_len, List.length_cons, List.length_append, List.length_nil, List.length_take, List.length_drop, List.length_map]; omega) | (simp only [cells, scal1, allSz, List.length_cons, List.length_nil, List.length_append, List.length_map, List.all_cons, List.all_nil, avs_len, beq_self_eq_true, Bool.and_self, and_self, or_true, true_or, reduceCtorEq, *]; done) | fail) only [c_version_Get, wl_version_Get_0, s_version_Get_0, c_version_Get_l0, wb_version_Get_0, c_version_Get_k0, go_sem, Nat.reduceAdd, Nat.reduceSub, Nat.reduceMul, Nat.reduceLT, Nat.reduceLeDiff, Int.reduceToNat, Nat.reduceEqDiff, Nat.reduceBEq, ↓reduceIte, reduceCtorEq, eA, scal1, i0]
            refine call2 300 trivial trivial [(f, 6)] (by simp only [go_sem, Nat.reduceAdd, Nat.reduceSub, Nat.reduceMul, Nat.reduceLT, Nat.reduceLeDiff, Int.reduceToNat, Nat.reduceEqDiff, Nat.reduceBEq, ↓reduceIte, reduceCtorEq] <;> rfl) (by simp only [go_sem, Nat.reduceAdd, Nat.reduceSub, Nat.reduceMul, Nat.reduceLT, Nat.reduceLeDiff, Int.reduceToNat, Nat.reduceEqDiff, Nat.reduceBEq, ↓reduceIte, reduceCtorEq, Ev.rest, keyIn] <;> rfl) h2 (.inr ⟨rfl, by simp only [heapFree, hFr, Bool.and_self]⟩) (fun A eA => ?_)
            simp (disch := first | omega | (simp only [avs_len, List.length_cons, List.length_append, List.length_nil, List.length_take, List.length_drop, List.length_map]; omega) | (simp only [cells, scal1, allSz, List.length_cons, List.length_nil, List.length_append, List.length_map, List.all_cons, List.all_nil, avs_len, beq_self_eq_true, Bool.and_self, and_self, or_true, true_or, reduceCtorEq, *]; done) | fail) only [c_version_Get, wl_version_Get_0, s_version_Get_0, c_version_Get_l0, wb_version_Get_0, c_version_Get_k0, go_sem, Nat.reduceAdd, Nat.reduceSub, Nat.reduceMul, Nat.reduceLT, Nat.reduceLeDiff, Int.reduceToNat, Nat.reduceEqDiff, Nat.reduceBEq, ↓reduceIte, reduceCtorEq, eA, scal1, List.all_cons, List.all_nil, Bool.and_self]
            refine call2 300 trivial trivial [(f, 6)] (by simp only [go_sem, Nat.reduceAdd, Nat.reduceSub, Nat.reduceMul, Nat.reduceLT, Nat.reduceLeDiff, Int.reduceToNat, Nat.reduceEqDiff, Nat.reduceBEq, ↓reduceIte, reduceCtorEq] <;> rfl) (by simp only [go_sem, Nat.reduceAdd, Nat.reduceSub, Nat.reduceMul, Nat.reduceLT, Nat.reduceLeDiff, Int.reduceToNat, Nat.reduceEqDiff, Nat.reduceBEq, ↓reduceIte, reduceCtorEq, Ev.rest, keyIn] <;> rfl) h3 (.inr ⟨rfl, rfl⟩) (fun A eA => ?_)
            simp (disch := first | omega | (simp only [avs_len, List.length_cons, List.length_append, List.length_nil, List.length_take, List.length_drop, List.length_map]; omega) | (simp only [cells, scal1, allSz, List.length_cons, List.length_nil, List.length_append, List.length_map, List.all_cons, List.all_nil, avs_len, beq_self_eq_true, Bool.and_self, and_self, or_true, true_or, reduceCtorEq, *]; done) | fail) only [c_version_Get, wl_version_Get_0, s_version_Get_0, c_version_Get_l0, wb_version_Get_0, c_version_Get_k0, go_sem, Nat.reduceAdd, Nat.reduceSub, Nat.reduceMul, Nat.reduceLT, Nat.reduceLeDiff, Int.reduceToNat, Nat.reduceEqDiff, Nat.reduceBEq, ↓reduceIte, reduceCtorEq, eA, scal1]
            exact doneH (by simp only [go_sem, Nat.reduceAdd, Nat.reduceSub, Nat.reduceMul, Nat.reduceLT, Nat.reduceLeDiff, Int.reduceToNat, Nat.reduceEqDiff, Nat.reduceBEq, ↓reduceIte, reduceCtorEq]) rfl rfl
      · have ho : oneOk s = true := by
          cases ho : oneOk s
          · exact absurd (.inl ho) hbad
          · rfl
        have hm2 : ¬ (most : Int) ≤ (acc.length : Nat) := by have := fun h => hbad (.inr h); omega
        have e0 : getVs (n + 1) most acc s = getVs n most (acc ++ [oneV s]) (oneS s) := by simp only [getVs]; rw [if_neg h0, if_neg hbad]
        rw [e0]
        have hl3 := oneS_len s (oneOk_some ho)
        obtain ⟨e', nx', ks, hn, hih⟩ := ih (acc ++ [oneV s]) (oneS s) (some (nx2 29)) (bump (bump nx2 6) 29) (oneS_ok hs) (by omega) (by omega) (by simp; omega) (by simp)
        refine ⟨e', nx', ks, hn, ?_⟩
        rw [ho] at h2
        simp only [if_true] at h2
        have hap : vcat acc ++ vcs (oneV s) = vcat (acc ++ [oneV s]) := by rw [← vcat_app]; simp [vcat]
        have hlen := vcat_len acc
        refine round (its := [.blk 0 wb_version_Get_0]) (k0 := [.c c_version_Get_k0]) 300 trivial trivial (fun A eA => ?_)
        cases e with
        | none =>
          have hacc := he rfl
          subst hacc
          have hm3 : ¬ (most : Int) ≤ 0 := by simpa using hm2
          have hap0 : vcs (oneV s) = vcat [oneV s] := by simp [vcat]
          simp only [accV, accE] at hih ⊢
          simp (disch := first | omega | (simp only [avs_len, List.length_cons, List.length_append, List.length_nil, List.length_take, List.length_drop, List.length_map]; omega) | (simp only [cells, scal1, allSz, List.length_cons, List.length_nil, List.length_append, List.length_map, List.all_cons, List.all_nil, avs_len, beq_self_eq_true, Bool.and_self, and_self, or_true, true_or, reduceCtorEq, *]; done) | fail) only [c_version_Get, wl_version_Get_0, s_version_Get_0, c_version_Get_l0, wb_version_Get_0, c_version_Get_k0, go_sem, Nat.reduceAdd, Nat.reduceSub, Nat.reduceMul, Nat.reduceLT, Nat.reduceLeDiff, Int.reduceToNat, Nat.reduceEqDiff, Nat.reduceBEq, ↓reduceIte, reduceCtorEq, eA, scal1]
          refine call2 300 trivial trivial [(f, 6)] (by simp only [go_sem, Nat.reduceAdd, Nat.reduceSub, Nat.reduceMul, Nat.reduceLT, Nat.reduceLeDiff, Int.reduceToNat, Nat.reduceEqDiff, Nat.reduceBEq, ↓reduceIte, reduceCtorEq] <;> rfl) (by simp only [go_sem, Nat.reduceAdd, Nat.reduceSub, Nat.reduceMul, Nat.reduceLT, Nat.reduceLeDiff, Int.reduceToNat, Nat.reduceEqDiff, Nat.reduceBEq, ↓reduceIte, reduceCtorEq, Ev.rest, keyIn] <;> rfl) h1 (.inl rfl) (fun A eA => ?_)
          simp (disch := first | omega | (simp only [avs_len, List.length_cons, List.length_append, List.length_nil, List.length_take, List.length_drop, List.length_map]; omega) | (simp only [cells, scal1, allSz, List.length_cons, List.length_nil, List.length_append, List.length_map, List.all_cons, List.all_nil, avs_len, beq_self_eq_true, Bool.and_self, and_self, or_true, true_or, reduceCtorEq, *]; done) | fail) only [c_version_Get, wl_version_Get_0, s_version_Get_0, c_version_Get_l0, wb_version_Get_0, c_version_Get_k0, go_sem, Nat.reduceAdd, Nat.reduceSub, Nat.reduceMul, Nat.reduceLT, Nat.reduceLeDiff, Int.reduceToNat, Nat.reduceEqDiff, Nat.reduceBEq, ↓reduceIte, reduceCtorEq, eA, scal1, i0]
          refine call2 300 trivial trivial [(f, 6)] (by simp only [go_sem, Nat.reduceAdd, Nat.reduceSub, Nat.reduceMul, Nat.reduceLT, Nat.reduceLeDiff, Int.reduceToNat, Nat.reduceEqDiff, Nat.reduceBEq, ↓reduceIte, reduceCtorEq] <;> rfl) (by simp only [go_sem, Nat.reduceAdd, Nat.reduceSub, Nat.reduceMul, Nat.reduceLT, Nat.reduceLeDiff, Int.reduceToNat, Nat.reduceEqDiff, Nat.reduceBEq, ↓reduceIte, reduceCtorEq, Ev.rest, keyIn] <;> rfl) h2 (.inl rfl) (fun A eA => ?_)
          simp (disch := first | omega | (simp only [avs_len, List.length_cons, List.length_append, List.length_nil, List.length_take, List.length_drop, List.length_map]; omega) | (simp only [cells, scal1, allSz, List.length_cons, List.length_nil, List.length_append, List.length_map, List.all_cons, List.all_nil, avs_len, beq_self_eq_true, Bool.and_self, and_self, or_true, true_or, reduceCtorEq, *]; done) | fail) only [c_version_Get, wl_version_Get_0, s_version_Get_0, c_version_Get_l0, wb_version_Get_0, c_version_Get_k0, go_sem, Nat.reduceAdd, Nat.reduceSub, Nat.reduceMul, Nat.reduceLT, Nat.reduceLeDiff, Int.reduceToNat, Nat.reduceEqDiff, Nat.reduceBEq, ↓reduceIte, reduceCtorEq, eA, scal1, List.all_cons, List.all_nil, Bool.and_self, ↓appK, allSz, beq_self_eq_true, catCells, hm3]
          exact hih
        | some ge =>
          simp only [accV, accE] at hih ⊢
          simp (disch := first | omega | (simp only [avs_len, List.length_cons, List.length_append, List.length_nil, List.length_take, List.length_drop, List.length_map]; omega) | (simp only [cells, scal1, allSz, List.length_cons, List.length_nil, List.length_append, List.length_map, List.all_cons, List.all_nil, avs_len, beq_self_eq_true, Bool.and_self, and_self, or_true, true_or, reduceCtorEq, *]; done) | fail) only [c_version_Get, wl_version_Get_0, s_version_Get_0, c_version_Get_l0, wb_version_Get_0, c_version_Get_k0, go_sem, Nat.reduceAdd, Nat.reduceSub, Nat.reduceMul, Nat.reduceLT, Nat.reduceLeDiff, Int.reduceToNat, Nat.reduceEqDiff, Nat.reduceBEq, ↓reduceIte, reduceCtorEq, eA, scal1]
          refine call2 300 trivial trivial [(f, 6)] (by simp only [go_sem, Nat.reduceAdd, Nat.reduceSub, Nat.reduceMul, Nat.reduceLT, Nat.reduceLeDiff, Int.reduceToNat, Nat.reduceEqDiff, Nat.reduceBEq, ↓reduceIte, reduceCtorEq] <;> rfl) (by simp only [go_sem, Nat.reduceAdd, Nat.reduceSub, Nat.reduceMul, Nat.reduceLT, Nat.reduceLeDiff, Int.reduceToNat, Nat.reduceEqDiff, Nat.reduceBEq, ↓reduceIte, reduceCtorEq, Ev.rest, keyIn] <;> rfl) h1 (.inr ⟨rfl, by simp only [heapFree, hFr, Bool.and_self]⟩) (fun A eA => ?_)
          simp (disch := first | omega | (simp only [avs_len, List.length_cons, List.length_append, List.length_nil, List.length_take, List.length_drop, List.length_map]; omega) | (simp only [cells, scal1, allSz, List.length_cons, List.length_nil, List.length_append, List.length_map, List.all_cons, List.all_nil, avs_len, beq_self_eq_true, Bool.and_self, and_self, or_true, true_or, reduceCtorEq, *]; done) | fail) only [c_version_Get, wl_version_Get_0, s_version_Get_0, c_version_Get_l0, wb_version_Get_0, c_version_Get_k0, go_sem, Nat.reduceAdd, Nat.reduceSub, Nat.reduceMul, Nat.reduceLT, Nat.reduceLeDiff, Int.reduceToNat, Nat.reduceEqDiff, Nat.reduceBEq, ↓reduceIte, reduceCtorEq, eA, scal1, i0]
          refine call2 300 trivial trivial [(f, 6)] (by simp only [go_sem, Nat.reduceAdd, Nat.reduceSub, Nat.reduceMul, Nat.reduceLT, Nat.reduceLeDiff, Int.reduceToNat, Nat.reduceEqDiff, Nat.reduceBEq, ↓reduceIte, reduceCtorEq] <;> rfl) (by simp only [go_sem, Nat.reduceAdd, Nat.reduceSub, Nat.reduceMul, Nat.reduceLT, Nat.reduceLeDiff, Int.reduceToNat, Nat.reduceEqDiff, Nat.reduceBEq, ↓reduceIte, reduceCtorEq, Ev.rest, keyIn] <;> rfl) h2 (.inr ⟨rfl, by simp only [heapFree, hFr, Bool.and_self]⟩) (fun A eA => ?_)
          simp (disch := first | omega | (simp only [avs_len, List.length_cons, List.length_append, List.length_nil, List.length_take, List.length_drop, List.length_map]; omega) | (simp only [cells, scal1, allSz, List.length_cons, List.length_nil, List.length_append, List.length_map, List.all_cons, List.all_nil, avs_len, beq_self_eq_true, Bool.and_self, and_self, or_true, true_or, reduceCtorEq, *]; done) | fail) only [c_version_Get, wl_version_Get_0, s_version_Get_0, c_version_Get_l0, wb_version_Get_0, c_version_Get_k0, go_sem, Nat.reduceAdd, Nat.reduceSub, Nat.reduceMul, Nat.reduceLT, Nat.reduceLeDiff, Int.reduceToNat, Nat.reduceEqDiff, Nat.reduceBEq, ↓reduceIte, reduceCtorEq, eA, scal1, List.all_cons, List.all_nil, Bool.and_self, ↓appK, allSz, beq_self_eq_true, catCells, hm2, hlen, hap]
          simp only [List.length_append, List.length_cons, List.length_nil, Nat.zero_add] at hih
          exact hih
theorem verGet_h (most : Nat) (hm : most < 1000) (f g : Nat) (hf : f < 9) {s : InS} (hs : OkIn s) (hl : lenIn s < 1000000) (nx : Ctr) : ∃ (e' : Option Nat) (nx' : Ctr), (e' = none → (getVs (lenIn s + 1) most [] s).1 = []) ∧
    HCalls Try.prog F_version_Get [.ptr f 6 g 0, .int .i64 (most : Nat)] [(f, 6, g, some (inE s))] nx (accV 12 29 7 e' (getVs (lenIn s + 1) most [] s).1.length) ((f, 6, g, some (inE (getVs (lenIn s + 1) most [] s).2)) :: accE 12 29 e' (vcat (getVs (lenIn s + 1) most [] s).1)) nx' := by
  obtain ⟨e', nx', ks, hn, h⟩ := get_loop most hm f g hf (lenIn s + 1) [] s none nx hs (by omega) hl (by simp) (fun _ => rfl)
  refine ⟨e', nx', hn, hcalls_version_Get 12 ks (walk0 300 trivial (fun A eA => ?_))⟩
  simp (disch := first | omega | (simp only [avs_len, List.length_cons, List.length_append, List.length_nil, List.length_take, List.length_drop, List.length_map]; omega) | (simp only [cells, scal1, allSz, List.length_cons, List.length_nil, List.length_append, List.length_map, List.all_cons, List.all_nil, avs_len, beq_self_eq_true, Bool.and_self, and_self, or_true, true_or, reduceCtorEq, *]; done) | fail) only [c_version_Get, wl_version_Get_0, s_version_Get_0, c_version_Get_l0, wb_version_Get_0, c_version_Get_k0, go_sem, Nat.reduceAdd, Nat.reduceSub, Nat.reduceMul, Nat.reduceLT, Nat.reduceLeDiff, Int.reduceToNat, Nat.reduceEqDiff, Nat.reduceBEq, ↓reduceIte, reduceCtorEq, eA, scal1]
  exact h
/-- What Get gives has at most so many, each right; and then all was taken. -/
theorem getVs_spec : ∀ (n most : Nat) (acc : List Ver) (s : InS), lenIn s < n → (acc.length ≤ most) → (∀ v ∈ acc, VRt v) → s ≠ none →
    ((getVs n most acc s).1.length ≤ most ∧ (∀ v ∈ (getVs n most acc s).1, VRt v) ∧ ((getVs n most acc s).1 ≠ [] → (getVs n most acc s).2 ≠ none))
  | 0, most, acc, s, h, _, _, _ => by omega
  | n + 1, most, acc, s, h, ha, hv, hs => by
    simp only [getVs]
    split
    · exact ⟨ha, hv, fun _ => hs⟩
    · split
      · exact ⟨Nat.zero_le _, by simp, fun h => absurd rfl h⟩
      · rename_i h0 hbad
        have ho : oneOk s = true := by
          cases ho : oneOk s
          · exact absurd (.inl ho) hbad
          · rfl
        have hl3 := oneS_len s (oneOk_some ho)
        refine getVs_spec n most (acc ++ [oneV s]) (oneS s) (by omega) (by have := fun h => hbad (.inr h); simp; omega) (fun v hv' => ?_) (oneOk_some ho)
        rcases List.mem_append.1 hv' with h | h
        · exact hv v h
        · rw [List.mem_singleton] at h; subst h
          unfold oneOk at ho
          rw [Bool.and_eq_true] at ho
          exact vrtb_true.1 ho.2
end Go.Proofs.Ytmokhopjnjecbab
/- Versions put, and taken as they were. -/
-- short
-- fuel 300
namespace Go.Proofs.Ytmokhopjnjecbab
open Go.Ev
set_option linter.unusedVariables false
set_option linter.unusedSimpArgs false
set_option maxRecDepth 100000
set_option maxHeartbeats 3200000
open Classical in
/-- A tree's bytes. -/
noncomputable def putT (t : ET) : List Nat := if h : ∃ b : E, t = b.t then putE h.choose else []
theorem putT_t (b : E) : putT b.t = putE b := by
  have h : ∃ c : E, b.t = c.t := ⟨b, rfl⟩
  unfold putT
  rw [dif_pos h, ← E.inj h.choose_spec]
/-- A version's bytes, and those of some. -/
noncomputable def putVer (v : Ver) : List Nat := numB v.client.toNat ++ numB v.token.toNat ++ (numB v.key.size ++ sbs v.key) ++ (numB v.value.size ++ sbs v.value) ++ numB (if v.gone = true then 1 else 0) ++ putT v.event
noncomputable def putVers : List Ver → List Nat
  | [] => []
  | v :: l => putVer v ++ putVers l
theorem putVer_len {v : Ver} (h : VRt v) : (putVer v).length ≤ 2000 := by
  obtain ⟨h1, h2, h3, h4, h5, h6, h7, h8, ⟨b, hb, b1, b2, b3, b4⟩, h9⟩ := h
  have := putE_len b b4
  have l1 := numB_len 9 v.client.toNat (by omega)
  have l2 := numB_len 9 v.token.toNat (by omega)
  have l3 := numB_len 9 v.key.size (by omega)
  have l4 := numB_len 9 v.value.size (by omega)
  have l5 := numB_len 9 (if v.gone = true then 1 else 0) (by split <;> omega)
  have l6 := sbs_len v.key
  have l7 := sbs_len v.value
  simp only [putVer, List.length_append, hb, putT_t]; omega
theorem sbs_256 (s : ByteArray) : ∀ b ∈ sbs s, b < 256 := by
  intro b hb
  simp only [sbs, List.mem_map] at hb
  obtain ⟨c, _, rfl⟩ := hb
  exact c.toNat_lt
theorem putVer_256 {v : Ver} (h : VRt v) : ∀ x ∈ putVer v, x < 256 := by
  obtain ⟨h1, h2, h3, h4, h5, h6, h7, h8, ⟨b, hb, b1, b2, b3, b4⟩, h9⟩ := h
  intro x hx
  simp only [putVer, List.mem_append, hb, putT_t] at hx
  rcases hx with ((((hx | hx) | (hx | hx)) | (hx | hx)) | hx) | hx
  · exact numB_256 9 _ (by omega) x hx
  · exact numB_256 9 _ (by omega) x hx
  · exact numB_256 9 _ (by omega) x hx
  · exact sbs_256 _ x hx
  · exact numB_256 9 _ (by omega) x hx
  · exact sbs_256 _ x hx
  · exact numB_256 9 _ (by split <;> omega) x hx
  · exact putE_256 b b4 x hx
theorem putVers_len : ∀ {l : List Ver}, (∀ v ∈ l, VRt v) → (putVers l).length ≤ 2000 * l.length
  | [], _ => by simp [putVers]
  | v :: l, h => by
    have h1 := putVer_len (h v List.mem_cons_self)
    have h2 := putVers_len (l := l) (fun w hw => h w (List.mem_cons_of_mem _ hw))
    simp only [putVers, List.length_append, List.length_cons]; omega
theorem putVers_256 : ∀ {l : List Ver}, (∀ v ∈ l, VRt v) → ∀ x ∈ putVers l, x < 256
  | [], _, x, hx => by simp [putVers] at hx
  | v :: l, h, x, hx => by
    simp only [putVers, List.mem_append] at hx
    rcases hx with hx | hx
    · exact putVer_256 (h v List.mem_cons_self) x hx
    · exact putVers_256 (l := l) (fun w hw => h w (List.mem_cons_of_mem _ hw)) x hx
theorem putVers_app : ∀ a b : List Ver, putVers (a ++ b) = putVers a ++ putVers b
  | [], b => rfl
  | v :: a, b => by simp only [List.cons_append, putVers, putVers_app a b, List.append_assoc]
/-- One that was put is taken as it was. -/
theorem one_put {v : Ver} (h : VRt v) (r : List Nat) : oneS (some (putVer v ++ r)) = some r ∧ oneV (some (putVer v ++ r)) = v ∧ oneOk (some (putVer v ++ r)) = true := by
  obtain ⟨h1, h2, h3, h4, h5, h6, h7, h8, ⟨b, hb, b1, b2, b3, b4⟩, h9⟩ := id h
  obtain ⟨client, token, key, value, gone, event⟩ := v
  simp only at h1 h2 h3 h4 h5 h6 h7 h8 h9 hb
  have hev : event = b.t := hb
  subst hev
  have a1 : o1 (some (putVer ⟨client, token, key, value, gone, b.t⟩ ++ r)) = (client.toNat, some (numB token.toNat ++ ((numB key.size ++ sbs key) ++ ((numB value.size ++ sbs value) ++ (numB (if gone = true then 1 else 0) ++ (putE b ++ r)))))) := by
    simp only [putVer, putT_t, List.append_assoc]; exact inCount_numB _ _ _ (by omega) (by omega)
  have a2 := inNum_numB token.toNat ((numB key.size ++ sbs key) ++ ((numB value.size ++ sbs value) ++ (numB (if gone = true then 1 else 0) ++ (putE b ++ r)))) (by omega)
  have a3 := inText_text (sbs key) ((numB value.size ++ sbs value) ++ (numB (if gone = true then 1 else 0) ++ (putE b ++ r))) (by rw [sbs_len]; omega)
  rw [sbs_len] at a3
  have a4 := inText_text (sbs value) (numB (if gone = true then 1 else 0) ++ (putE b ++ r)) (by rw [sbs_len]; omega)
  rw [sbs_len] at a4
  have a5 := inBool_numB gone (putE b ++ r)
  have a6 := getE_putE b 8 r b4 (by omega)
  have g2 : o2 (some (putVer ⟨client, token, key, value, gone, b.t⟩ ++ r)) = (token.toNat, some ((numB key.size ++ sbs key) ++ ((numB value.size ++ sbs value) ++ (numB (if gone = true then 1 else 0) ++ (putE b ++ r))))) := by unfold o2; rw [a1]; exact a2
  have g3 : o3 (some (putVer ⟨client, token, key, value, gone, b.t⟩ ++ r)) = (sbs key, some ((numB value.size ++ sbs value) ++ (numB (if gone = true then 1 else 0) ++ (putE b ++ r)))) := by unfold o3; rw [g2]; exact a3
  have g4 : o4 (some (putVer ⟨client, token, key, value, gone, b.t⟩ ++ r)) = (sbs value, some (numB (if gone = true then 1 else 0) ++ (putE b ++ r))) := by unfold o4; rw [g3]; exact a4
  have g5 : o5 (some (putVer ⟨client, token, key, value, gone, b.t⟩ ++ r)) = (gone, some (putE b ++ r)) := by unfold o5; rw [g4]; exact a5
  have hrt : XRt b.t := ⟨b, rfl, b1, b2, b3, b4⟩
  have g6 : gotE (some (putE b ++ r)) = (b.t, true) := by unfold gotE; rw [a6, if_neg (by simp [hrt])]
  have hV : oneV (some (putVer ⟨client, token, key, value, gone, b.t⟩ ++ r)) = ⟨client, token, key, value, gone, b.t⟩ := by
    unfold oneV
    rw [a1, g2, g3, g4, g5]
    simp only [g6, bstr_sbs]
    congr 1 <;> omega
  refine ⟨?_, hV, ?_⟩
  · unfold oneS; rw [g5]; simp only [a6]
  · unfold oneOk; rw [hV, g5]; simp only [g6]; rw [vrtb_true.2 h]; rfl
theorem putVer_pos (v : Ver) : 0 < (putVer v).length := by
  have : 0 < (numB v.client.toNat).length := by
    by_cases h : v.client.toNat < 128
    · rw [numB_lt h]; simp
    · rw [numB_ge h]; simp
  simp only [putVer, List.length_append]; omega
theorem get_put : ∀ (l : List Ver) (n most : Nat) (acc : List Ver), (∀ v ∈ l, VRt v) → (putVers l).length < n → acc.length ≤ most →
    getVs n most acc (some (putVers l)) = if acc.length + l.length ≤ most then (acc ++ l, some []) else ([], none)
  | [], n, most, acc, h, hn, ha => by
    cases n with
    | zero => omega
    | succ n => simp only [getVs, putVers, lenIn, Option.getD_some, List.length_nil, if_true, List.append_nil, Nat.add_zero, if_pos ha]
  | v :: l, n, most, acc, h, hn, ha => by
    cases n with
    | zero => omega
    | succ n =>
      have hv := h v List.mem_cons_self
      obtain ⟨p1, p2, p3⟩ := one_put hv (putVers l)
      have hp := putVer_pos v
      simp only [putVers, List.length_append] at hn
      have h0 : ¬ lenIn (some (putVers (v :: l))) = 0 := by simp only [lenIn, putVers, Option.getD_some, List.length_append]; omega
      simp only [getVs]
      rw [if_neg h0]
      simp only [putVers, p1, p2, p3]
      by_cases hm : most ≤ acc.length
      · rw [if_pos (.inr hm), if_neg (by simp only [List.length_cons]; omega)]
      · rw [if_neg (by simp; omega)]
        rw [get_put l n most (acc ++ [v]) (fun w hw => h w (List.mem_cons_of_mem _ hw)) (by omega) (by simp; omega)]
        simp only [List.length_append, List.length_cons, List.length_nil, List.append_assoc, List.cons_append, List.nil_append]
        by_cases hq : acc.length + (l.length + 1) ≤ most
        · rw [if_pos (by omega), if_pos hq]
        · rw [if_neg (by omega), if_neg hq]
end Go.Proofs.Ytmokhopjnjecbab
/- The walk through what puts versions. -/
-- short
-- fuel 300
namespace Go.Proofs.Ytmokhopjnjecbab
open Go.Ev
set_option linter.unusedVariables false
set_option linter.unusedSimpArgs false
set_option maxRecDepth 100000
set_option maxHeartbeats 3200000
/-- Before the Out a row, or behind it. -/
theorem psel (f d g : Nat) (g5 : Nat) (X B : Option (List AV)) (e : Option (Nat × Nat)) (bs : List Nat) (he : ObOk d e bs) (hd : 5 < d) (hf : f = 0) : Ev.sel (obK f d e) ((3, 5, g5, X) :: (f, d, g, B) :: obH e bs) = (f, d, g, B) :: obH e bs := by
  subst hf
  have h1 : ¬ (5 = d) := by omega
  cases e with
  | none => simp [obK, obH, Ev.sel, find, h1]
  | some p =>
    have h2 : d < p.1 := he.1
    have h3 : ¬ 5 = p.1 := by omega
    simp [obK, obH, Ev.sel, find, h1, h3]
theorem prest (f d g : Nat) (g5 : Nat) (X B : Option (List AV)) (e : Option (Nat × Nat)) (bs : List Nat) (he : ObOk d e bs) (hd : 5 < d) (hf : f = 0) : rest (obK f d e) ((3, 5, g5, X) :: (f, d, g, B) :: obH e bs) = [(3, 5, g5, X)] := by
  subst hf
  have h1 : ¬ (d = 5) := by omega
  cases e with
  | none => simp [obK, obH, rest, keyIn, h1]
  | some p =>
    have h2 : d < p.1 := he.1
    have h3 : ¬ p.1 = 5 := by omega
    simp [obK, obH, rest, keyIn, h1, h3]
theorem psel2 (f d g : Nat) (g5 : Nat) (X B : Option (List AV)) (p : Nat × Nat) (bs : List Nat) (he : d < p.1) : Ev.sel (obK f d (some p)) ((f, d, g, B) :: (obH (some p) bs ++ [(3, 5, g5, X)])) = (f, d, g, B) :: obH (some p) bs := by
  have h3 : ¬ d = p.1 := by omega
  simp [obK, obH, Ev.sel, find, h3]
theorem prest2 (f d g : Nat) (g5 : Nat) (X B : Option (List AV)) (p : Nat × Nat) (bs : List Nat) (he : d < p.1) (hd : 5 < d) : rest (obK f d (some p)) ((f, d, g, B) :: (obH (some p) bs ++ [(3, 5, g5, X)])) = [(3, 5, g5, X)] := by
  have h1 : ¬ (d = 5) := by omega
  have h3 : ¬ p.1 = 5 := by omega
  simp [obK, obH, rest, keyIn, h1, h3]
theorem pfree (f d g key g' : Nat) (bs : List Nat) (g5 : Nat) (X : Option (List AV)) (h : d < key) (hd : 5 < d) : heapFree [(3, 5, g5, X)] (outS f d g (some (key, g')) bs) = true := by
  have h5 : ¬ 5 = key := by omega
  exact out_free _ _ _ _ _ _ _ (by simp [find, h5])
theorem verput_loop (l : List Ver) (g : Nat) (hll : l.length ≤ 1000) : ∀ (post pre : List Ver), l = pre ++ post → (∀ v ∈ post, VRt v) → ∀ (e : Option (Nat × Nat)) (bs : List Nat) (nx : Ctr), ObOk 11 e bs → bs.length + (putVers post).length < 1000000000 →
    ∃ (e' : Option (Nat × Nat)) (nx' : Ctr), ObOk 11 e' (bs ++ putVers post) ∧ (post ≠ [] → e' ≠ none) ∧ (post = [] → e' = e) ∧
      RunsX Try.prog 3 (GivesH (obK 0 11 e') [] (.tup []) (outS 0 11 g e' (bs ++ putVers post)) nx') (i_version_Put_0 ++ []) (s_version_Put_0 (.ptr 0 11 g 0) (.fz 7 (l.map vv) none) (.int .i64 (l.length : Nat)) (.int .i64 (pre.length : Nat))) (outS 0 11 g e bs) nx := by
  intro post
  induction post with
  | nil =>
    intro pre hL hv e bs nx he hl
    rw [List.append_nil] at hL
    subst hL
    refine ⟨e, nx, by rw [putVers, List.append_nil]; exact he, fun h => absurd rfl h, fun _ => rfl, ?_⟩
    rw [putVers, List.append_nil]
    refine round (its := [.blk 0 wb_version_Put_0]) (k0 := []) 300 trivial trivial (fun A eA => ?_)
    simp (disch := first | omega | (simp only [avs_len, List.length_cons, List.length_append, List.length_nil, List.length_take, List.length_drop, List.length_map]; omega) | (simp only [cells, scal1, allSz, List.length_cons, List.length_nil, List.length_append, List.length_map, List.all_cons, List.all_nil, avs_len, beq_self_eq_true, Bool.and_self, and_self, or_true, true_or, reduceCtorEq, *]; done) | fail) only [c_version_Put, wl_version_Put_0, s_version_Put_0, c_version_Put_l0, wb_version_Put_0, go_sem, Nat.reduceAdd, Nat.reduceSub, Nat.reduceMul, Nat.reduceLT, Nat.reduceLeDiff, Int.reduceToNat, Nat.reduceEqDiff, Nat.reduceBEq, ↓reduceIte, reduceCtorEq, eA, scal1]
    exact fallH (obK_sel 0 11 g _ e bs he) rfl rfl
  | cons v post ih =>
    intro pre hL hv e bs nx he hl
    have hlt : pre.length < l.length := by rw [hL]; simp
    have hvr := hv v List.mem_cons_self
    obtain ⟨h1, h2, h3, h4, h5, h6, h7, h8, ⟨b, hb, b1, b2, b3, b4⟩, h9⟩ := id hvr
    have g0 : (l.map vv)[((pre.length : Nat) : Int).toNat]? = some (vv v) := by
      rw [Int.toNat_natCast, hL, List.getElem?_map, List.getElem?_append_right (Nat.le_refl _), Nat.sub_self]; rfl
    have w1 : IntKind.i64.wrap ((pre.length : Int) + 1) = ((pre.length + 1 : Nat) : Int) := by rw [wrap64 (by omega) (by omega)]; omega
    simp only [putVers, List.length_append] at hl
    have hpv : putVer v = numB v.client.toNat ++ numB v.token.toNat ++ (numB v.key.size ++ sbs v.key) ++ (numB v.value.size ++ sbs v.value) ++ numB (if v.gone = true then 1 else 0) ++ putE b := by unfold putVer; rw [hb, putT_t]
    rw [hpv] at hl
    simp only [List.length_append] at hl
    have hcl : ((v.client.toNat : Nat) : Int) = v.client := by omega
    have htk : ((v.token.toNat : Nat) : Int) = v.token := by omega
    obtain ⟨k1, g1, nx1, hk1, c1⟩ := num_puts v.client.toNat (by omega) 0 11 g (by omega) e bs (bump nx 5) he (by omega)
    obtain ⟨k2, g2, nx2, hk2, c2⟩ := num_puts v.token.toNat (by omega) 0 11 g (by omega) (some (k1, g1)) (bs ++ numB v.client.toNat) nx1 hk1 (by simp only [List.length_append]; omega)
    obtain ⟨k3, g3, nx3, hk3, c3⟩ := text_puts v.key (by omega) 0 11 g (by omega) (some (k2, g2)) (bs ++ numB v.client.toNat ++ numB v.token.toNat) nx2 hk2 (by simp only [List.length_append]; omega)
    obtain ⟨k4, g4, nx4, hk4, c4⟩ := text_puts v.value (by omega) 0 11 g (by omega) (some (k3, g3)) (bs ++ numB v.client.toNat ++ numB v.token.toNat ++ (numB v.key.size ++ sbs v.key)) nx3 hk3 (by simp only [List.length_append]; omega)
    obtain ⟨k5, g5, nx5, hk5, c5⟩ := bool_puts v.gone 0 11 g (by omega) (some (k4, g4)) (bs ++ numB v.client.toNat ++ numB v.token.toNat ++ (numB v.key.size ++ sbs v.key) ++ (numB v.value.size ++ sbs v.value)) nx4 hk4 (by simp only [List.length_append]; omega)
    obtain ⟨k6, g6, nx6, hk6, c6⟩ := evPut_puts b b4 b1 b2 0 11 g (by omega) (some (k5, g5)) (bs ++ numB v.client.toNat ++ numB v.token.toNat ++ (numB v.key.size ++ sbs v.key) ++ (numB v.value.size ++ sbs v.value) ++ numB (if v.gone = true then 1 else 0)) nx5 hk5 (by simp only [List.length_append]; omega)
    rw [hcl] at c1
    rw [htk] at c2
    rw [← hb] at c6
    obtain ⟨e', nx', he', hn1, hn2, hih⟩ := ih (pre ++ [v]) (by rw [hL]; simp) (fun w hw => hv w (List.mem_cons_of_mem _ hw)) (some (k6, g6)) (bs ++ putVer v) nx6 hk6 (by rw [hpv]; simp only [List.length_append]; omega)
    have hbs : bs ++ putVers (v :: post) = (bs ++ putVer v) ++ putVers post := by simp only [putVers, List.append_assoc]
    refine ⟨e', nx', by rw [hbs]; exact he', fun _ => ?_, (fun h => by cases h), ?_⟩
    · cases post with
      | nil => rw [hn2 rfl]; simp
      | cons w post => exact hn1 (by simp)
    have hEq : bs ++ putVer v = (bs ++ numB v.client.toNat ++ numB v.token.toNat ++ (numB v.key.size ++ sbs v.key) ++ (numB v.value.size ++ sbs v.value) ++ numB (if v.gone = true then 1 else 0)) ++ putE b := by rw [hpv]; simp only [List.append_assoc]
    rw [hbs]
    rw [hEq] at hih ⊢
    rw [show (pre ++ [v]).length = pre.length + 1 by simp] at hih
    have q1 : ¬ 5 = k1 := by omega
    have q2 : ¬ 5 = k2 := by omega
    have q3 : ¬ 5 = k3 := by omega
    have q4 : ¬ 5 = k4 := by omega
    have q5 : ¬ 5 = k5 := by omega
    have q6 : ¬ 5 = k6 := by omega
    have p1 : ¬ k1 = 5 := by omega
    have p2 : ¬ k2 = 5 := by omega
    have p3 : ¬ k3 = 5 := by omega
    have p4 : ¬ k4 = 5 := by omega
    have p5 : ¬ k5 = 5 := by omega
    have p6 : ¬ k6 = 5 := by omega
    refine round (its := [.blk 0 wb_version_Put_0]) (k0 := []) 300 trivial trivial (fun A eA => ?_)
    simp (disch := first | omega | (simp only [avs_len, List.length_cons, List.length_append, List.length_nil, List.length_take, List.length_drop, List.length_map]; omega) | (simp only [cells, scal1, allSz, List.length_cons, List.length_nil, List.length_append, List.length_map, List.all_cons, List.all_nil, avs_len, beq_self_eq_true, Bool.and_self, and_self, or_true, true_or, reduceCtorEq, *]; done) | fail) only [c_version_Put, wl_version_Put_0, s_version_Put_0, c_version_Put_l0, wb_version_Put_0, go_sem, Nat.reduceAdd, Nat.reduceSub, Nat.reduceMul, Nat.reduceLT, Nat.reduceLeDiff, Int.reduceToNat, Nat.reduceEqDiff, Nat.reduceBEq, ↓reduceIte, reduceCtorEq, eA, scal1, List.all_cons, List.all_nil, Bool.and_self, ↓optI_of g0]
    refine call2 300 trivial trivial (obK 0 11 e) (psel 0 11 g _ _ _ e bs he (by omega) rfl) (prest 0 11 g _ _ _ e bs he (by omega) rfl) c1 (.inr ⟨rfl, pfree _ _ _ _ _ _ _ _ hk1.1 (by omega)⟩) (fun A eA => ?_)
    simp (disch := first | omega | (simp only [avs_len, List.length_cons, List.length_append, List.length_nil, List.length_take, List.length_drop, List.length_map]; omega) | (simp only [cells, scal1, allSz, List.length_cons, List.length_nil, List.length_append, List.length_map, List.all_cons, List.all_nil, avs_len, beq_self_eq_true, Bool.and_self, and_self, or_true, true_or, reduceCtorEq, *]; done) | fail) only [c_version_Put, wl_version_Put_0, s_version_Put_0, c_version_Put_l0, wb_version_Put_0, go_sem, Nat.reduceAdd, Nat.reduceSub, Nat.reduceMul, Nat.reduceLT, Nat.reduceLeDiff, Int.reduceToNat, Nat.reduceEqDiff, Nat.reduceBEq, ↓reduceIte, reduceCtorEq, eA, scal1, outS, obH, p1]
    refine call2 300 trivial trivial (obK 0 11 (some (k1, g1))) (psel2 0 11 g _ _ _ (k1, g1) _ hk1.1) (prest2 0 11 g _ _ _ (k1, g1) _ hk1.1 (by omega)) c2 (.inr ⟨rfl, pfree _ _ _ _ _ _ _ _ hk2.1 (by omega)⟩) (fun A eA => ?_)
    simp (disch := first | omega | (simp only [avs_len, List.length_cons, List.length_append, List.length_nil, List.length_take, List.length_drop, List.length_map]; omega) | (simp only [cells, scal1, allSz, List.length_cons, List.length_nil, List.length_append, List.length_map, List.all_cons, List.all_nil, avs_len, beq_self_eq_true, Bool.and_self, and_self, or_true, true_or, reduceCtorEq, *]; done) | fail) only [c_version_Put, wl_version_Put_0, s_version_Put_0, c_version_Put_l0, wb_version_Put_0, go_sem, Nat.reduceAdd, Nat.reduceSub, Nat.reduceMul, Nat.reduceLT, Nat.reduceLeDiff, Int.reduceToNat, Nat.reduceEqDiff, Nat.reduceBEq, ↓reduceIte, reduceCtorEq, eA, scal1, outS, obH, p2]
    refine call2 300 trivial trivial (obK 0 11 (some (k2, g2))) (psel2 0 11 g _ _ _ (k2, g2) _ hk2.1) (prest2 0 11 g _ _ _ (k2, g2) _ hk2.1 (by omega)) c3 (.inr ⟨rfl, pfree _ _ _ _ _ _ _ _ hk3.1 (by omega)⟩) (fun A eA => ?_)
    simp (disch := first | omega | (simp only [avs_len, List.length_cons, List.length_append, List.length_nil, List.length_take, List.length_drop, List.length_map]; omega) | (simp only [cells, scal1, allSz, List.length_cons, List.length_nil, List.length_append, List.length_map, List.all_cons, List.all_nil, avs_len, beq_self_eq_true, Bool.and_self, and_self, or_true, true_or, reduceCtorEq, *]; done) | fail) only [c_version_Put, wl_version_Put_0, s_version_Put_0, c_version_Put_l0, wb_version_Put_0, go_sem, Nat.reduceAdd, Nat.reduceSub, Nat.reduceMul, Nat.reduceLT, Nat.reduceLeDiff, Int.reduceToNat, Nat.reduceEqDiff, Nat.reduceBEq, ↓reduceIte, reduceCtorEq, eA, scal1, outS, obH, p3]
    refine call2 300 trivial trivial (obK 0 11 (some (k3, g3))) (psel2 0 11 g _ _ _ (k3, g3) _ hk3.1) (prest2 0 11 g _ _ _ (k3, g3) _ hk3.1 (by omega)) c4 (.inr ⟨rfl, pfree _ _ _ _ _ _ _ _ hk4.1 (by omega)⟩) (fun A eA => ?_)
    simp (disch := first | omega | (simp only [avs_len, List.length_cons, List.length_append, List.length_nil, List.length_take, List.length_drop, List.length_map]; omega) | (simp only [cells, scal1, allSz, List.length_cons, List.length_nil, List.length_append, List.length_map, List.all_cons, List.all_nil, avs_len, beq_self_eq_true, Bool.and_self, and_self, or_true, true_or, reduceCtorEq, *]; done) | fail) only [c_version_Put, wl_version_Put_0, s_version_Put_0, c_version_Put_l0, wb_version_Put_0, go_sem, Nat.reduceAdd, Nat.reduceSub, Nat.reduceMul, Nat.reduceLT, Nat.reduceLeDiff, Int.reduceToNat, Nat.reduceEqDiff, Nat.reduceBEq, ↓reduceIte, reduceCtorEq, eA, scal1, outS, obH, p4]
    refine call2 300 trivial trivial (obK 0 11 (some (k4, g4))) (psel2 0 11 g _ _ _ (k4, g4) _ hk4.1) (prest2 0 11 g _ _ _ (k4, g4) _ hk4.1 (by omega)) c5 (.inr ⟨rfl, pfree _ _ _ _ _ _ _ _ hk5.1 (by omega)⟩) (fun A eA => ?_)
    simp (disch := first | omega | (simp only [avs_len, List.length_cons, List.length_append, List.length_nil, List.length_take, List.length_drop, List.length_map]; omega) | (simp only [cells, scal1, allSz, List.length_cons, List.length_nil, List.length_append, List.length_map, List.all_cons, List.all_nil, avs_len, beq_self_eq_true, Bool.and_self, and_self, or_true, true_or, reduceCtorEq, *]; done) | fail) only [c_version_Put, wl_version_Put_0, s_version_Put_0, c_version_Put_l0, wb_version_Put_0, go_sem, Nat.reduceAdd, Nat.reduceSub, Nat.reduceMul, Nat.reduceLT, Nat.reduceLeDiff, Int.reduceToNat, Nat.reduceEqDiff, Nat.reduceBEq, ↓reduceIte, reduceCtorEq, eA, scal1, outS, obH, p5]
    refine call2 300 trivial trivial (obK 0 11 (some (k5, g5))) (psel2 0 11 g _ _ _ (k5, g5) _ hk5.1) (prest2 0 11 g _ _ _ (k5, g5) _ hk5.1 (by omega)) c6 (.inr ⟨rfl, pfree _ _ _ _ _ _ _ _ hk6.1 (by omega)⟩) (fun A eA => ?_)
    simp (disch := first | omega | (simp only [avs_len, List.length_cons, List.length_append, List.length_nil, List.length_take, List.length_drop, List.length_map]; omega) | (simp only [cells, scal1, allSz, List.length_cons, List.length_nil, List.length_append, List.length_map, List.all_cons, List.all_nil, avs_len, beq_self_eq_true, Bool.and_self, and_self, or_true, true_or, reduceCtorEq, *]; done) | fail) only [c_version_Put, wl_version_Put_0, s_version_Put_0, c_version_Put_l0, wb_version_Put_0, go_sem, Nat.reduceAdd, Nat.reduceSub, Nat.reduceMul, Nat.reduceLT, Nat.reduceLeDiff, Int.reduceToNat, Nat.reduceEqDiff, Nat.reduceBEq, ↓reduceIte, reduceCtorEq, eA, scal1, outS, obH, p6, w1]
    exact hih
end Go.Proofs.Ytmokhopjnjecbab
/- The law VersionBytes: its loops; lists alike. -/
-- short
-- fuel 300
namespace Go.Ev
theorem HCalls.arg1 {P : Program} {F : Nat} {x y : AV} {post : List AV} {Hin Hout : Heap} {nx nx' : Ctr} {r : AV} (hw : Wk1 x y) (h : HCalls P F (y :: post) Hin nx r Hout nx') : HCalls P F (x :: post) Hin nx r Hout nx' :=
  ⟨h.ok, fun X w bm vals hr ha => h.calls X w bm vals hr (Reps.arg hw [] vals ha)⟩
end Go.Ev
namespace Go.Proofs.Ytmokhopjnjecbab
open Go.Ev
set_option linter.unusedVariables false
set_option linter.unusedSimpArgs false
set_option maxRecDepth 100000
set_option maxHeartbeats 3200000
theorem frz_vcat {α : Type} (n : Nat) (H : Heap) : ∀ (l : List Ver) (ok : List AV → List (Nat × Nat) → α) (bd : α), mapK (frzK (n + 1) H) (vcat l) ok bd = ok (vcat l) []
  | [], ok, bd => rfl
  | v :: l, ok, bd => by
    simp only [vcat, List.cons_append, List.nil_append, mapK, frzK_int, frzK_str, frzK_bool, frzK_fz]
    rw [frz_vcat n H l]
theorem chunk_vcat (l : List Ver) : chunk 7 l.length (vcat l) = l.map vv := by
  have : ∀ l : List Ver, chunkN 7 l.length (vcat l) = l.map vv := by
    intro l
    induction l with
    | nil => rfl
    | cons v l ih => simp only [List.length_cons, vcat, chunkN, List.cons_append, List.nil_append, List.take_succ_cons, List.take_zero, List.drop_succ_cons, List.drop_zero, ih, List.map_cons]
  simp only [chunk]
  rw [if_neg (by omega)]
  exact this l
theorem verPut_h {l : List Ver} (hl : l.length ≤ 40) (hv : ∀ v ∈ l, VRt v) (g : Nat) (nx : Ctr) : ∃ (e' : Option (Nat × Nat)) (nx' : Ctr), ObOk 11 e' (putVers l) ∧ (l ≠ [] → e' ≠ none) ∧ (l = [] → e' = none) ∧
    HCalls Try.prog F_version_Put [.ptr 0 11 g 0, .fz 7 (l.map vv) none] (outS 0 11 g none []) nx (.tup []) (outS 0 11 g e' (putVers l)) nx' := by
  have hlen := putVers_len hv
  obtain ⟨e', nx', h1, h2, h3, h⟩ := verput_loop l g (by omega) l [] rfl hv none [] nx rfl (by simp; omega)
  rw [List.nil_append] at h1 h
  refine ⟨e', nx', h1, h2, h3, hcalls_version_Put 3 (obK 0 11 e') (walk0 300 trivial (fun A eA => ?_))⟩
  simp (disch := first | omega | (simp only [avs_len, List.length_cons, List.length_append, List.length_nil, List.length_take, List.length_drop, List.length_map]; omega) | (simp only [cells, scal1, allSz, List.length_cons, List.length_nil, List.length_append, List.length_map, List.all_cons, List.all_nil, avs_len, beq_self_eq_true, Bool.and_self, and_self, or_true, true_or, reduceCtorEq, *]; done) | fail) only [c_version_Put, wl_version_Put_0, s_version_Put_0, c_version_Put_l0, wb_version_Put_0, go_sem, Nat.reduceAdd, Nat.reduceSub, Nat.reduceMul, Nat.reduceLT, Nat.reduceLeDiff, Int.reduceToNat, Nat.reduceEqDiff, Nat.reduceBEq, ↓reduceIte, reduceCtorEq, eA, scal1, List.length_map]
  exact h
theorem vsame_self {v : Ver} (h : VRt v) : PCalls Try.prog F_ref04_VSame [vv v, vv v] (.bool true) := by
  have := refVSame_calls v v (by have := xrt_size h.2.2.2.2.2.2.2.2.1; omega)
  rw [xteq_true.2 rfl, show vhead v v = true from cdec_t ⟨rfl, rfl, rfl, rfl, rfl⟩] at this
  exact this
theorem vsameall_loop (l : List Ver) (hl : l.length ≤ 1000) (hv : ∀ v ∈ l, VRt v) : ∀ (post pre : List Ver), l = pre ++ post → ∀ nx : Ctr,
    RunsX Try.prog 0 (Gives [.t 4] (.bool true)) (i_ref04_VSameAll_0 ++ [.c c_ref04_VSameAll_k0]) (s_ref04_VSameAll_0 (.fz 7 (l.map vv) none) (.fz 7 (l.map vv) none) (.int .i64 (l.length : Nat)) (.int .i64 (pre.length : Nat))) [] nx := by
  intro post
  induction post with
  | nil =>
    intro pre h1 nx
    rw [List.append_nil] at h1
    subst h1
    refine round (its := [.blk 0 wb_ref04_VSameAll_0]) (k0 := [.c c_ref04_VSameAll_k0]) 300 trivial trivial (fun A eA => ?_)
    simp (disch := first | omega | (simp only [avs_len, List.length_cons, List.length_append, List.length_nil, List.length_take, List.length_drop, List.length_map]; omega) | (simp only [cells, scal1, allSz, List.length_cons, List.length_nil, List.length_append, List.length_map, List.all_cons, List.all_nil, avs_len, beq_self_eq_true, Bool.and_self, and_self, or_true, true_or, reduceCtorEq, *]; done) | fail) only [c_ref04_VSameAll, wl_ref04_VSameAll_0, s_ref04_VSameAll_0, c_ref04_VSameAll_l0, wb_ref04_VSameAll_0, c_ref04_VSameAll_k0, go_sem, Nat.reduceAdd, Nat.reduceSub, Nat.reduceMul, Nat.reduceLT, Nat.reduceLeDiff, Int.reduceToNat, Nat.reduceEqDiff, Nat.reduceBEq, ↓reduceIte, reduceCtorEq, eA, scal1]
    refine walk0 (its := [.c c_ref04_VSameAll_k0]) 300 trivial (fun A eA => ?_)
    simp (disch := first | omega | (simp only [avs_len, List.length_cons, List.length_append, List.length_nil, List.length_take, List.length_drop, List.length_map]; omega) | (simp only [cells, scal1, allSz, List.length_cons, List.length_nil, List.length_append, List.length_map, List.all_cons, List.all_nil, avs_len, beq_self_eq_true, Bool.and_self, and_self, or_true, true_or, reduceCtorEq, *]; done) | fail) only [c_ref04_VSameAll, wl_ref04_VSameAll_0, s_ref04_VSameAll_0, c_ref04_VSameAll_l0, wb_ref04_VSameAll_0, c_ref04_VSameAll_k0, go_sem, Nat.reduceAdd, Nat.reduceSub, Nat.reduceMul, Nat.reduceLT, Nat.reduceLeDiff, Int.reduceToNat, Nat.reduceEqDiff, Nat.reduceBEq, ↓reduceIte, reduceCtorEq, eA, scal1]
    exact doneG rfl
  | cons p post ih =>
    intro pre h1 nx
    have hlt : pre.length < l.length := by rw [h1]; simp
    have hpm : p ∈ l := by rw [h1]; simp
    have hih := ih (pre ++ [p]) (by rw [h1]; simp) nx
    rw [show (pre ++ [p]).length = pre.length + 1 by simp] at hih
    have g0 : (l.map vv)[((pre.length : Nat) : Int).toNat]? = some (vv p) := by
      rw [Int.toNat_natCast, h1, List.getElem?_map, List.getElem?_append_right (Nat.le_refl _), Nat.sub_self]; rfl
    have w1 : IntKind.i64.wrap ((pre.length : Int) + 1) = ((pre.length + 1 : Nat) : Int) := by rw [wrap64 (by omega) (by omega)]; omega
    refine round (its := [.blk 0 wb_ref04_VSameAll_0]) (k0 := [.c c_ref04_VSameAll_k0]) 300 trivial trivial (fun A eA => ?_)
    simp (disch := first | omega | (simp only [avs_len, List.length_cons, List.length_append, List.length_nil, List.length_take, List.length_drop, List.length_map]; omega) | (simp only [cells, scal1, allSz, List.length_cons, List.length_nil, List.length_append, List.length_map, List.all_cons, List.all_nil, avs_len, beq_self_eq_true, Bool.and_self, and_self, or_true, true_or, reduceCtorEq, *]; done) | fail) only [c_ref04_VSameAll, wl_ref04_VSameAll_0, s_ref04_VSameAll_0, c_ref04_VSameAll_l0, wb_ref04_VSameAll_0, c_ref04_VSameAll_k0, go_sem, Nat.reduceAdd, Nat.reduceSub, Nat.reduceMul, Nat.reduceLT, Nat.reduceLeDiff, Int.reduceToNat, Nat.reduceEqDiff, Nat.reduceBEq, ↓reduceIte, reduceCtorEq, eA, scal1, ↓optI_of g0, w1]
    refine call0 300 trivial trivial (vsame_self (hv p hpm)) (.inl rfl) (fun A eA => ?_)
    simp (disch := first | omega | (simp only [avs_len, List.length_cons, List.length_append, List.length_nil, List.length_take, List.length_drop, List.length_map]; omega) | (simp only [cells, scal1, allSz, List.length_cons, List.length_nil, List.length_append, List.length_map, List.all_cons, List.all_nil, avs_len, beq_self_eq_true, Bool.and_self, and_self, or_true, true_or, reduceCtorEq, *]; done) | fail) only [c_ref04_VSameAll, wl_ref04_VSameAll_0, s_ref04_VSameAll_0, c_ref04_VSameAll_l0, wb_ref04_VSameAll_0, c_ref04_VSameAll_k0, go_sem, Nat.reduceAdd, Nat.reduceSub, Nat.reduceMul, Nat.reduceLT, Nat.reduceLeDiff, Int.reduceToNat, Nat.reduceEqDiff, Nat.reduceBEq, ↓reduceIte, reduceCtorEq, eA, scal1, ↓optI_of g0, w1]
    exact hih
theorem vsameall_calls {l : List Ver} (hl : l.length ≤ 1000) (hv : ∀ v ∈ l, VRt v) : PCalls Try.prog F_ref04_VSameAll [.fz 7 (l.map vv) none, .fz 7 (l.map vv) none] (.bool true) := by
  refine calls_ref04_VSameAll (walk0 300 trivial (fun A eA => ?_))
  simp (disch := first | omega | (simp only [avs_len, List.length_cons, List.length_append, List.length_nil, List.length_take, List.length_drop, List.length_map]; omega) | (simp only [cells, scal1, allSz, List.length_cons, List.length_nil, List.length_append, List.length_map, List.all_cons, List.all_nil, avs_len, beq_self_eq_true, Bool.and_self, and_self, or_true, true_or, reduceCtorEq, *]; done) | fail) only [c_ref04_VSameAll, wl_ref04_VSameAll_0, s_ref04_VSameAll_0, c_ref04_VSameAll_l0, wb_ref04_VSameAll_0, c_ref04_VSameAll_k0, go_sem, Nat.reduceAdd, Nat.reduceSub, Nat.reduceMul, Nat.reduceLT, Nat.reduceLeDiff, Int.reduceToNat, Nat.reduceEqDiff, Nat.reduceBEq, ↓reduceIte, reduceCtorEq, eA, scal1, List.length_map]
  exact vsameall_loop l hl hv l [] rfl _
theorem refV_yes {v : Ver} (h : VRt v) : PCalls Try.prog F_ref04_VRight [vv v] (.bool true) := by
  have := refVRight_calls v (by have := xrt_size h.2.2.2.2.2.2.2.2.1; omega)
  rwa [vrtb_true.2 h] at this
/-- What was taken is right. -/
theorem yloop (T0 : AV) (most : Nat) (hm : most < 256) (s : InS) (hs : s ≠ none) (y : List Ver) (hy : y.length ≤ most) (hv : ∀ v ∈ y, VRt v) (k : List It) (hk : flat k) (hend : ∀ nx, RunsX Try.prog 0 (Gives [.t 6] (.bool true)) k (e_law07_VersionBytes_0 T0 (.int .u8 (most : Nat))) [(1, 6, 0, some (inE s))] nx) : ∀ (post pre : List Ver), y = pre ++ post → ∀ nx : Ctr,
    RunsX Try.prog 0 (Gives [.t 6] (.bool true)) (i_law07_VersionBytes_0 ++ k) (s_law07_VersionBytes_0 T0 (.int .u8 (most : Nat)) (.ptr 1 6 0 0) (.fz 7 (y.map vv) none) (.int .i64 (y.length : Nat)) (.int .i64 (pre.length : Nat))) [(1, 6, 0, some (inE s))] nx := by
  intro post
  induction post with
  | nil =>
    intro pre h1 nx
    rw [List.append_nil] at h1
    subst h1
    refine round (its := [.blk 0 wb_law07_VersionBytes_0]) 300 hk trivial (fun A eA => ?_)
    simp (disch := first | omega | (simp only [avs_len, List.length_cons, List.length_append, List.length_nil, List.length_take, List.length_drop, List.length_map]; omega) | (simp only [cells, scal1, allSz, List.length_cons, List.length_nil, List.length_append, List.length_map, List.all_cons, List.all_nil, avs_len, beq_self_eq_true, Bool.and_self, and_self, or_true, true_or, reduceCtorEq, *]; done) | fail) only [c_law07_VersionBytes, wl_law07_VersionBytes_0, s_law07_VersionBytes_0, c_law07_VersionBytes_l0, wb_law07_VersionBytes_0, wl_law07_VersionBytes_2, s_law07_VersionBytes_2, c_law07_VersionBytes_l2, wb_law07_VersionBytes_2, c_law07_VersionBytes_k0, c_law07_VersionBytes_k1, go_sem, Nat.reduceAdd, Nat.reduceSub, Nat.reduceMul, Nat.reduceLT, Nat.reduceLeDiff, Int.reduceToNat, Nat.reduceEqDiff, Nat.reduceBEq, ↓reduceIte, reduceCtorEq, eA, scal1]
    exact hend _
  | cons p post ih =>
    intro pre h1 nx
    have hlt : pre.length < y.length := by rw [h1]; simp
    have hpm : p ∈ y := by rw [h1]; simp
    obtain ⟨nx1, hb⟩ := bad_takes s 1 0 nx (by omega)
    have hn : s.isNone = false := by cases s; exact absurd rfl hs; rfl
    rw [hn] at hb
    have hih := ih (pre ++ [p]) (by rw [h1]; simp) nx1
    rw [show (pre ++ [p]).length = pre.length + 1 by simp] at hih
    have g0 : (y.map vv)[((pre.length : Nat) : Int).toNat]? = some (vv p) := by
      rw [Int.toNat_natCast, h1, List.getElem?_map, List.getElem?_append_right (Nat.le_refl _), Nat.sub_self]; rfl
    have w1 : IntKind.i64.wrap ((pre.length : Int) + 1) = ((pre.length + 1 : Nat) : Int) := by rw [wrap64 (by omega) (by omega)]; omega
    have w2 : IntKind.i64.wrap ((most : Nat) : Int) = ((most : Nat) : Int) := wrap64 (by omega) (by omega)
    refine round (its := [.blk 0 wb_law07_VersionBytes_0]) 300 hk trivial (fun A eA => ?_)
    simp (disch := first | omega | (simp only [avs_len, List.length_cons, List.length_append, List.length_nil, List.length_take, List.length_drop, List.length_map]; omega) | (simp only [cells, scal1, allSz, List.length_cons, List.length_nil, List.length_append, List.length_map, List.all_cons, List.all_nil, avs_len, beq_self_eq_true, Bool.and_self, and_self, or_true, true_or, reduceCtorEq, *]; done) | fail) only [c_law07_VersionBytes, wl_law07_VersionBytes_0, s_law07_VersionBytes_0, c_law07_VersionBytes_l0, wb_law07_VersionBytes_0, wl_law07_VersionBytes_2, s_law07_VersionBytes_2, c_law07_VersionBytes_l2, wb_law07_VersionBytes_2, c_law07_VersionBytes_k0, c_law07_VersionBytes_k1, go_sem, Nat.reduceAdd, Nat.reduceSub, Nat.reduceMul, Nat.reduceLT, Nat.reduceLeDiff, Int.reduceToNat, Nat.reduceEqDiff, Nat.reduceBEq, ↓reduceIte, reduceCtorEq, eA, scal1, ↓optI_of g0, w1, w2, List.length_map]
    refine call0 300 hk trivial (refV_yes (hv p hpm)) (.inl rfl) (fun A eA => ?_)
    simp (disch := first | omega | (simp only [avs_len, List.length_cons, List.length_append, List.length_nil, List.length_take, List.length_drop, List.length_map]; omega) | (simp only [cells, scal1, allSz, List.length_cons, List.length_nil, List.length_append, List.length_map, List.all_cons, List.all_nil, avs_len, beq_self_eq_true, Bool.and_self, and_self, or_true, true_or, reduceCtorEq, *]; done) | fail) only [c_law07_VersionBytes, wl_law07_VersionBytes_0, s_law07_VersionBytes_0, c_law07_VersionBytes_l0, wb_law07_VersionBytes_0, wl_law07_VersionBytes_2, s_law07_VersionBytes_2, c_law07_VersionBytes_l2, wb_law07_VersionBytes_2, c_law07_VersionBytes_k0, c_law07_VersionBytes_k1, go_sem, Nat.reduceAdd, Nat.reduceSub, Nat.reduceMul, Nat.reduceLT, Nat.reduceLeDiff, Int.reduceToNat, Nat.reduceEqDiff, Nat.reduceBEq, ↓reduceIte, reduceCtorEq, eA, scal1, ↓optI_of g0, w1, w2, List.length_map]
    refine call2 300 hk trivial [(1, 6)] rfl rfl hb (.inl rfl) (fun A eA => ?_)
    simp (disch := first | omega | (simp only [avs_len, List.length_cons, List.length_append, List.length_nil, List.length_take, List.length_drop, List.length_map]; omega) | (simp only [cells, scal1, allSz, List.length_cons, List.length_nil, List.length_append, List.length_map, List.all_cons, List.all_nil, avs_len, beq_self_eq_true, Bool.and_self, and_self, or_true, true_or, reduceCtorEq, *]; done) | fail) only [c_law07_VersionBytes, wl_law07_VersionBytes_0, s_law07_VersionBytes_0, c_law07_VersionBytes_l0, wb_law07_VersionBytes_0, wl_law07_VersionBytes_2, s_law07_VersionBytes_2, c_law07_VersionBytes_l2, wb_law07_VersionBytes_2, c_law07_VersionBytes_k0, c_law07_VersionBytes_k1, go_sem, Nat.reduceAdd, Nat.reduceSub, Nat.reduceMul, Nat.reduceLT, Nat.reduceLeDiff, Int.reduceToNat, Nat.reduceEqDiff, Nat.reduceBEq, ↓reduceIte, reduceCtorEq, eA, scal1, ↓optI_of g0, w1, w2, List.length_map]
    exact hih
/-- One that is not right ends it. -/
theorem lloop (most : Nat) (l : List Ver) (hl : l.length ≤ 1000) (hsz : ∀ v ∈ l, v.event.size < 2 ^ 32) (si : InS) (k : List It) (hk : flat k) (hend : (∀ v ∈ l, VRt v) → ∀ nx, RunsX Try.prog 0 (Gives [.t 6] (.bool true)) k (e_law07_VersionBytes_2 (.fz 7 (l.map vv) none) (.int .u8 (most : Nat))) [(1, 6, 0, some (inE si))] nx) : ∀ (post pre : List Ver), l = pre ++ post → (∀ v ∈ pre, VRt v) → ∀ nx : Ctr,
    RunsX Try.prog 0 (Gives [.t 6] (.bool true)) (i_law07_VersionBytes_2 ++ k) (s_law07_VersionBytes_2 (.fz 7 (l.map vv) none) (.int .u8 (most : Nat)) (.int .i64 (l.length : Nat)) (.int .i64 (pre.length : Nat))) [(1, 6, 0, some (inE si))] nx := by
  intro post
  induction post with
  | nil =>
    intro pre h1 hv nx
    rw [List.append_nil] at h1
    subst h1
    refine round (its := [.blk 2 wb_law07_VersionBytes_2]) 300 hk trivial (fun A eA => ?_)
    simp (disch := first | omega | (simp only [avs_len, List.length_cons, List.length_append, List.length_nil, List.length_take, List.length_drop, List.length_map]; omega) | (simp only [cells, scal1, allSz, List.length_cons, List.length_nil, List.length_append, List.length_map, List.all_cons, List.all_nil, avs_len, beq_self_eq_true, Bool.and_self, and_self, or_true, true_or, reduceCtorEq, *]; done) | fail) only [c_law07_VersionBytes, wl_law07_VersionBytes_0, s_law07_VersionBytes_0, c_law07_VersionBytes_l0, wb_law07_VersionBytes_0, wl_law07_VersionBytes_2, s_law07_VersionBytes_2, c_law07_VersionBytes_l2, wb_law07_VersionBytes_2, c_law07_VersionBytes_k0, c_law07_VersionBytes_k1, go_sem, Nat.reduceAdd, Nat.reduceSub, Nat.reduceMul, Nat.reduceLT, Nat.reduceLeDiff, Int.reduceToNat, Nat.reduceEqDiff, Nat.reduceBEq, ↓reduceIte, reduceCtorEq, eA, scal1]
    exact hend hv _
  | cons p post ih =>
    intro pre h1 hv nx
    have hlt : pre.length < l.length := by rw [h1]; simp
    have hpm : p ∈ l := by rw [h1]; simp
    have g0 : (l.map vv)[((pre.length : Nat) : Int).toNat]? = some (vv p) := by
      rw [Int.toNat_natCast, h1, List.getElem?_map, List.getElem?_append_right (Nat.le_refl _), Nat.sub_self]; rfl
    have w1 : IntKind.i64.wrap ((pre.length : Int) + 1) = ((pre.length + 1 : Nat) : Int) := by rw [wrap64 (by omega) (by omega)]; omega
    have cr := refVRight_calls p (hsz p hpm)
    refine round (its := [.blk 2 wb_law07_VersionBytes_2]) 300 hk trivial (fun A eA => ?_)
    by_cases hp : VRt p
    · have hih := ih (pre ++ [p]) (by rw [h1]; simp) (fun v hv' => by
        rcases List.mem_append.1 hv' with h | h
        · exact hv v h
        · rw [List.mem_singleton] at h; subst h; exact hp) nx
      rw [show (pre ++ [p]).length = pre.length + 1 by simp] at hih
      simp (disch := first | omega | (simp only [avs_len, List.length_cons, List.length_append, List.length_nil, List.length_take, List.length_drop, List.length_map]; omega) | (simp only [cells, scal1, allSz, List.length_cons, List.length_nil, List.length_append, List.length_map, List.all_cons, List.all_nil, avs_len, beq_self_eq_true, Bool.and_self, and_self, or_true, true_or, reduceCtorEq, *]; done) | fail) only [c_law07_VersionBytes, wl_law07_VersionBytes_0, s_law07_VersionBytes_0, c_law07_VersionBytes_l0, wb_law07_VersionBytes_0, wl_law07_VersionBytes_2, s_law07_VersionBytes_2, c_law07_VersionBytes_l2, wb_law07_VersionBytes_2, c_law07_VersionBytes_k0, c_law07_VersionBytes_k1, go_sem, Nat.reduceAdd, Nat.reduceSub, Nat.reduceMul, Nat.reduceLT, Nat.reduceLeDiff, Int.reduceToNat, Nat.reduceEqDiff, Nat.reduceBEq, ↓reduceIte, reduceCtorEq, eA, scal1, ↓optI_of g0, w1]
      refine call0 300 hk trivial (refV_yes hp) (.inl rfl) (fun A eA => ?_)
      simp (disch := first | omega | (simp only [avs_len, List.length_cons, List.length_append, List.length_nil, List.length_take, List.length_drop, List.length_map]; omega) | (simp only [cells, scal1, allSz, List.length_cons, List.length_nil, List.length_append, List.length_map, List.all_cons, List.all_nil, avs_len, beq_self_eq_true, Bool.and_self, and_self, or_true, true_or, reduceCtorEq, *]; done) | fail) only [c_law07_VersionBytes, wl_law07_VersionBytes_0, s_law07_VersionBytes_0, c_law07_VersionBytes_l0, wb_law07_VersionBytes_0, wl_law07_VersionBytes_2, s_law07_VersionBytes_2, c_law07_VersionBytes_l2, wb_law07_VersionBytes_2, c_law07_VersionBytes_k0, c_law07_VersionBytes_k1, go_sem, Nat.reduceAdd, Nat.reduceSub, Nat.reduceMul, Nat.reduceLT, Nat.reduceLeDiff, Int.reduceToNat, Nat.reduceEqDiff, Nat.reduceBEq, ↓reduceIte, reduceCtorEq, eA, scal1, ↓optI_of g0, w1]
      exact hih
    · rw [vrtb_no hp] at cr
      simp (disch := first | omega | (simp only [avs_len, List.length_cons, List.length_append, List.length_nil, List.length_take, List.length_drop, List.length_map]; omega) | (simp only [cells, scal1, allSz, List.length_cons, List.length_nil, List.length_append, List.length_map, List.all_cons, List.all_nil, avs_len, beq_self_eq_true, Bool.and_self, and_self, or_true, true_or, reduceCtorEq, *]; done) | fail) only [c_law07_VersionBytes, wl_law07_VersionBytes_0, s_law07_VersionBytes_0, c_law07_VersionBytes_l0, wb_law07_VersionBytes_0, wl_law07_VersionBytes_2, s_law07_VersionBytes_2, c_law07_VersionBytes_l2, wb_law07_VersionBytes_2, c_law07_VersionBytes_k0, c_law07_VersionBytes_k1, go_sem, Nat.reduceAdd, Nat.reduceSub, Nat.reduceMul, Nat.reduceLT, Nat.reduceLeDiff, Int.reduceToNat, Nat.reduceEqDiff, Nat.reduceBEq, ↓reduceIte, reduceCtorEq, eA, scal1, ↓optI_of g0, w1]
      refine call0 300 hk trivial cr (.inl rfl) (fun A eA => ?_)
      simp (disch := first | omega | (simp only [avs_len, List.length_cons, List.length_append, List.length_nil, List.length_take, List.length_drop, List.length_map]; omega) | (simp only [cells, scal1, allSz, List.length_cons, List.length_nil, List.length_append, List.length_map, List.all_cons, List.all_nil, avs_len, beq_self_eq_true, Bool.and_self, and_self, or_true, true_or, reduceCtorEq, *]; done) | fail) only [c_law07_VersionBytes, wl_law07_VersionBytes_0, s_law07_VersionBytes_0, c_law07_VersionBytes_l0, wb_law07_VersionBytes_0, wl_law07_VersionBytes_2, s_law07_VersionBytes_2, c_law07_VersionBytes_l2, wb_law07_VersionBytes_2, c_law07_VersionBytes_k0, c_law07_VersionBytes_k1, go_sem, Nat.reduceAdd, Nat.reduceSub, Nat.reduceMul, Nat.reduceLT, Nat.reduceLeDiff, Int.reduceToNat, Nat.reduceEqDiff, Nat.reduceBEq, ↓reduceIte, reduceCtorEq, eA, scal1, ↓optI_of g0, w1]
      exact doneG rfl
end Go.Proofs.Ytmokhopjnjecbab
/- The law VersionBytes: what was put is taken again. -/
-- short
-- fuel 300
namespace Go.Proofs.Ytmokhopjnjecbab
open Go.Ev
set_option linter.unusedVariables false
set_option linter.unusedSimpArgs false
set_option maxRecDepth 100000
set_option maxHeartbeats 3200000
theorem vtail_none (most : Nat) (hm : most < 256) (si : InS) (nx : Ctr) :
    RunsX Try.prog 0 (Gives [.t 6] (.bool true)) [.c c_law07_VersionBytes_k0] (e_law07_VersionBytes_2 (.fz 7 [] none) (.int .u8 (most : Nat))) [(1, 6, 0, some (inE si))] nx := by
  have hFr := inE_free
  have hnv : ∀ v ∈ ([] : List Ver), VRt v := by simp
  obtain ⟨e', nx1, ho, hne, hnil, hp⟩ := verPut_h (l := []) (by simp) hnv (nx 11) (bump nx 11)
  obtain rfl := hnil rfl
  have w2 : IntKind.i64.wrap ((most : Nat) : Int) = ((most : Nat) : Int) := wrap64 (by omega) (by omega)
  have ce := outEnd_none 0 11 (nx 11) nx1
  have cn2 : HCalls Try.prog F_codec_NewIn [.nils] [] nx1 (.ptr 2 6 (nx1 6) 0) [(2, 6, nx1 6, some [bv [], .bool false])] (bump nx1 6) := HCalls.arg1 (Wk1.nils 1) (newIn_h [] (by simp) 2 nx1)
  have hs2 : OkIn (some []) := by intro r hr; cases hr; exact ⟨by simp, by simp⟩
  obtain ⟨e2, nx3, he2, cg⟩ := verGet_h most (by omega) 2 (nx1 6) (by omega) hs2 (by simp [lenIn]) (bump nx1 6)
  have hgp := get_put [] (lenIn (some []) + 1) most [] hnv (by simp [lenIn, putVers]) (Nat.zero_le _)
  simp only [putVers] at hgp
  rw [hgp] at cg
  simp only [List.length_nil, Nat.add_zero, Nat.zero_le, if_true, List.append_nil] at cg
  obtain ⟨nx4, cd⟩ := done_takes (some []) 2 (nx1 6) nx3 (by omega)
  have cv := vsameall_calls (l := []) (by simp) hnv
  have cv0 : PCalls Try.prog F_ref04_VSameAll [.nils, .fz 7 [] none] (.bool true) := PCalls.arg [] (Wk1.nils 7) cv
  have i0 : ¬ ((most : Nat) : Int) < 0 := by omega
  refine walk0 (its := [.c c_law07_VersionBytes_k0]) 300 trivial (fun A eA => ?_)
  cases e2 with
  | none =>
    simp only [accV, accE, vcat] at cg
    simp (disch := first | omega | (simp only [avs_len, List.length_cons, List.length_append, List.length_nil, List.length_take, List.length_drop, List.length_map]; omega) | (simp only [cells, scal1, allSz, List.length_cons, List.length_nil, List.length_append, List.length_map, List.all_cons, List.all_nil, avs_len, beq_self_eq_true, Bool.and_self, and_self, or_true, true_or, reduceCtorEq, *]; done) | fail) only [c_law07_VersionBytes, wl_law07_VersionBytes_0, s_law07_VersionBytes_0, c_law07_VersionBytes_l0, wb_law07_VersionBytes_0, wl_law07_VersionBytes_2, s_law07_VersionBytes_2, c_law07_VersionBytes_l2, wb_law07_VersionBytes_2, c_law07_VersionBytes_k0, c_law07_VersionBytes_k1, go_sem, Nat.reduceAdd, Nat.reduceSub, Nat.reduceMul, Nat.reduceLT, Nat.reduceLeDiff, Int.reduceToNat, Nat.reduceEqDiff, Nat.reduceBEq, ↓reduceIte, reduceCtorEq, eA, scal1, w2, i0]
    refine call2 300 trivial trivial [(0, 11)] (by simp only [go_sem, Nat.reduceAdd, Nat.reduceSub, Nat.reduceMul, Nat.reduceLT, Nat.reduceLeDiff, Int.reduceToNat, Nat.reduceEqDiff, Nat.reduceBEq, ↓reduceIte, reduceCtorEq] <;> rfl) (by simp only [go_sem, Nat.reduceAdd, Nat.reduceSub, Nat.reduceMul, Nat.reduceLT, Nat.reduceLeDiff, Int.reduceToNat, Nat.reduceEqDiff, Nat.reduceBEq, ↓reduceIte, reduceCtorEq, Ev.rest, keyIn] <;> rfl) hp (.inr ⟨rfl, rfl⟩) (fun A eA => ?_)
    simp (disch := first | omega | (simp only [avs_len, List.length_cons, List.length_append, List.length_nil, List.length_take, List.length_drop, List.length_map]; omega) | (simp only [cells, scal1, allSz, List.length_cons, List.length_nil, List.length_append, List.length_map, List.all_cons, List.all_nil, avs_len, beq_self_eq_true, Bool.and_self, and_self, or_true, true_or, reduceCtorEq, *]; done) | fail) only [c_law07_VersionBytes, wl_law07_VersionBytes_0, s_law07_VersionBytes_0, c_law07_VersionBytes_l0, wb_law07_VersionBytes_0, wl_law07_VersionBytes_2, s_law07_VersionBytes_2, c_law07_VersionBytes_l2, wb_law07_VersionBytes_2, c_law07_VersionBytes_k0, c_law07_VersionBytes_k1, go_sem, Nat.reduceAdd, Nat.reduceSub, Nat.reduceMul, Nat.reduceLT, Nat.reduceLeDiff, Int.reduceToNat, Nat.reduceEqDiff, Nat.reduceBEq, ↓reduceIte, reduceCtorEq, eA, scal1, w2, i0, outS, obH, obV]
    refine call2 300 trivial trivial [(0, 11)] (by simp only [go_sem, Nat.reduceAdd, Nat.reduceSub, Nat.reduceMul, Nat.reduceLT, Nat.reduceLeDiff, Int.reduceToNat, Nat.reduceEqDiff, Nat.reduceBEq, ↓reduceIte, reduceCtorEq] <;> rfl) (by simp only [go_sem, Nat.reduceAdd, Nat.reduceSub, Nat.reduceMul, Nat.reduceLT, Nat.reduceLeDiff, Int.reduceToNat, Nat.reduceEqDiff, Nat.reduceBEq, ↓reduceIte, reduceCtorEq, Ev.rest, keyIn] <;> rfl) ce (.inr ⟨rfl, rfl⟩) (fun A eA => ?_)
    simp (disch := first | omega | (simp only [avs_len, List.length_cons, List.length_append, List.length_nil, List.length_take, List.length_drop, List.length_map]; omega) | (simp only [cells, scal1, allSz, List.length_cons, List.length_nil, List.length_append, List.length_map, List.all_cons, List.all_nil, avs_len, beq_self_eq_true, Bool.and_self, and_self, or_true, true_or, reduceCtorEq, *]; done) | fail) only [c_law07_VersionBytes, wl_law07_VersionBytes_0, s_law07_VersionBytes_0, c_law07_VersionBytes_l0, wb_law07_VersionBytes_0, wl_law07_VersionBytes_2, s_law07_VersionBytes_2, c_law07_VersionBytes_l2, wb_law07_VersionBytes_2, c_law07_VersionBytes_k0, c_law07_VersionBytes_k1, go_sem, Nat.reduceAdd, Nat.reduceSub, Nat.reduceMul, Nat.reduceLT, Nat.reduceLeDiff, Int.reduceToNat, Nat.reduceEqDiff, Nat.reduceBEq, ↓reduceIte, reduceCtorEq, eA, scal1, w2, i0]
    refine call2 300 trivial trivial [] rfl rfl cn2 (.inr ⟨rfl, rfl⟩) (fun A eA => ?_)
    simp (disch := first | omega | (simp only [avs_len, List.length_cons, List.length_append, List.length_nil, List.length_take, List.length_drop, List.length_map]; omega) | (simp only [cells, scal1, allSz, List.length_cons, List.length_nil, List.length_append, List.length_map, List.all_cons, List.all_nil, avs_len, beq_self_eq_true, Bool.and_self, and_self, or_true, true_or, reduceCtorEq, *]; done) | fail) only [c_law07_VersionBytes, wl_law07_VersionBytes_0, s_law07_VersionBytes_0, c_law07_VersionBytes_l0, wb_law07_VersionBytes_0, wl_law07_VersionBytes_2, s_law07_VersionBytes_2, c_law07_VersionBytes_l2, wb_law07_VersionBytes_2, c_law07_VersionBytes_k0, c_law07_VersionBytes_k1, go_sem, Nat.reduceAdd, Nat.reduceSub, Nat.reduceMul, Nat.reduceLT, Nat.reduceLeDiff, Int.reduceToNat, Nat.reduceEqDiff, Nat.reduceBEq, ↓reduceIte, reduceCtorEq, eA, scal1, w2, i0]
    refine call2 300 trivial trivial [(2, 6)] (by simp only [go_sem, Nat.reduceAdd, Nat.reduceSub, Nat.reduceMul, Nat.reduceLT, Nat.reduceLeDiff, Int.reduceToNat, Nat.reduceEqDiff, Nat.reduceBEq, ↓reduceIte, reduceCtorEq] <;> rfl) (by simp only [go_sem, Nat.reduceAdd, Nat.reduceSub, Nat.reduceMul, Nat.reduceLT, Nat.reduceLeDiff, Int.reduceToNat, Nat.reduceEqDiff, Nat.reduceBEq, ↓reduceIte, reduceCtorEq, Ev.rest, keyIn] <;> rfl) cg (.inr ⟨rfl, by simp only [heapFree, hFr, Bool.and_self]⟩) (fun A eA => ?_)
    simp (disch := first | omega | (simp only [avs_len, List.length_cons, List.length_append, List.length_nil, List.length_take, List.length_drop, List.length_map]; omega) | (simp only [cells, scal1, allSz, List.length_cons, List.length_nil, List.length_append, List.length_map, List.all_cons, List.all_nil, avs_len, beq_self_eq_true, Bool.and_self, and_self, or_true, true_or, reduceCtorEq, *]; done) | fail) only [c_law07_VersionBytes, wl_law07_VersionBytes_0, s_law07_VersionBytes_0, c_law07_VersionBytes_l0, wb_law07_VersionBytes_0, wl_law07_VersionBytes_2, s_law07_VersionBytes_2, c_law07_VersionBytes_l2, wb_law07_VersionBytes_2, c_law07_VersionBytes_k0, c_law07_VersionBytes_k1, go_sem, Nat.reduceAdd, Nat.reduceSub, Nat.reduceMul, Nat.reduceLT, Nat.reduceLeDiff, Int.reduceToNat, Nat.reduceEqDiff, Nat.reduceBEq, ↓reduceIte, reduceCtorEq, eA, scal1, w2, i0]
    refine call2 300 trivial trivial [(2, 6)] (by simp only [go_sem, Nat.reduceAdd, Nat.reduceSub, Nat.reduceMul, Nat.reduceLT, Nat.reduceLeDiff, Int.reduceToNat, Nat.reduceEqDiff, Nat.reduceBEq, ↓reduceIte, reduceCtorEq] <;> rfl) (by simp only [go_sem, Nat.reduceAdd, Nat.reduceSub, Nat.reduceMul, Nat.reduceLT, Nat.reduceLeDiff, Int.reduceToNat, Nat.reduceEqDiff, Nat.reduceBEq, ↓reduceIte, reduceCtorEq, Ev.rest, keyIn] <;> rfl) cd (.inr ⟨rfl, by simp only [heapFree, hFr, Bool.and_self]⟩) (fun A eA => ?_)
    simp (disch := first | omega | (simp only [avs_len, List.length_cons, List.length_append, List.length_nil, List.length_take, List.length_drop, List.length_map]; omega) | (simp only [cells, scal1, allSz, List.length_cons, List.length_nil, List.length_append, List.length_map, List.all_cons, List.all_nil, avs_len, beq_self_eq_true, Bool.and_self, and_self, or_true, true_or, reduceCtorEq, *]; done) | fail) only [c_law07_VersionBytes, wl_law07_VersionBytes_0, s_law07_VersionBytes_0, c_law07_VersionBytes_l0, wb_law07_VersionBytes_0, wl_law07_VersionBytes_2, s_law07_VersionBytes_2, c_law07_VersionBytes_l2, wb_law07_VersionBytes_2, c_law07_VersionBytes_k0, c_law07_VersionBytes_k1, go_sem, Nat.reduceAdd, Nat.reduceSub, Nat.reduceMul, Nat.reduceLT, Nat.reduceLeDiff, Int.reduceToNat, Nat.reduceEqDiff, Nat.reduceBEq, ↓reduceIte, reduceCtorEq, eA, scal1, w2, i0]
    refine call0 300 trivial trivial cv0 (.inl rfl) (fun A eA => ?_)
    simp (disch := first | omega | (simp only [avs_len, List.length_cons, List.length_append, List.length_nil, List.length_take, List.length_drop, List.length_map]; omega) | (simp only [cells, scal1, allSz, List.length_cons, List.length_nil, List.length_append, List.length_map, List.all_cons, List.all_nil, avs_len, beq_self_eq_true, Bool.and_self, and_self, or_true, true_or, reduceCtorEq, *]; done) | fail) only [c_law07_VersionBytes, wl_law07_VersionBytes_0, s_law07_VersionBytes_0, c_law07_VersionBytes_l0, wb_law07_VersionBytes_0, wl_law07_VersionBytes_2, s_law07_VersionBytes_2, c_law07_VersionBytes_l2, wb_law07_VersionBytes_2, c_law07_VersionBytes_k0, c_law07_VersionBytes_k1, go_sem, Nat.reduceAdd, Nat.reduceSub, Nat.reduceMul, Nat.reduceLT, Nat.reduceLeDiff, Int.reduceToNat, Nat.reduceEqDiff, Nat.reduceBEq, ↓reduceIte, reduceCtorEq, eA, scal1, w2, i0]
    exact doneG rfl
  | some g2 =>
    simp only [accV, accE, vcat] at cg
    simp (disch := first | omega | (simp only [avs_len, List.length_cons, List.length_append, List.length_nil, List.length_take, List.length_drop, List.length_map]; omega) | (simp only [cells, scal1, allSz, List.length_cons, List.length_nil, List.length_append, List.length_map, List.all_cons, List.all_nil, avs_len, beq_self_eq_true, Bool.and_self, and_self, or_true, true_or, reduceCtorEq, *]; done) | fail) only [c_law07_VersionBytes, wl_law07_VersionBytes_0, s_law07_VersionBytes_0, c_law07_VersionBytes_l0, wb_law07_VersionBytes_0, wl_law07_VersionBytes_2, s_law07_VersionBytes_2, c_law07_VersionBytes_l2, wb_law07_VersionBytes_2, c_law07_VersionBytes_k0, c_law07_VersionBytes_k1, go_sem, Nat.reduceAdd, Nat.reduceSub, Nat.reduceMul, Nat.reduceLT, Nat.reduceLeDiff, Int.reduceToNat, Nat.reduceEqDiff, Nat.reduceBEq, ↓reduceIte, reduceCtorEq, eA, scal1, w2, i0]
    refine call2 300 trivial trivial [(0, 11)] (by simp only [go_sem, Nat.reduceAdd, Nat.reduceSub, Nat.reduceMul, Nat.reduceLT, Nat.reduceLeDiff, Int.reduceToNat, Nat.reduceEqDiff, Nat.reduceBEq, ↓reduceIte, reduceCtorEq] <;> rfl) (by simp only [go_sem, Nat.reduceAdd, Nat.reduceSub, Nat.reduceMul, Nat.reduceLT, Nat.reduceLeDiff, Int.reduceToNat, Nat.reduceEqDiff, Nat.reduceBEq, ↓reduceIte, reduceCtorEq, Ev.rest, keyIn] <;> rfl) hp (.inr ⟨rfl, rfl⟩) (fun A eA => ?_)
    simp (disch := first | omega | (simp only [avs_len, List.length_cons, List.length_append, List.length_nil, List.length_take, List.length_drop, List.length_map]; omega) | (simp only [cells, scal1, allSz, List.length_cons, List.length_nil, List.length_append, List.length_map, List.all_cons, List.all_nil, avs_len, beq_self_eq_true, Bool.and_self, and_self, or_true, true_or, reduceCtorEq, *]; done) | fail) only [c_law07_VersionBytes, wl_law07_VersionBytes_0, s_law07_VersionBytes_0, c_law07_VersionBytes_l0, wb_law07_VersionBytes_0, wl_law07_VersionBytes_2, s_law07_VersionBytes_2, c_law07_VersionBytes_l2, wb_law07_VersionBytes_2, c_law07_VersionBytes_k0, c_law07_VersionBytes_k1, go_sem, Nat.reduceAdd, Nat.reduceSub, Nat.reduceMul, Nat.reduceLT, Nat.reduceLeDiff, Int.reduceToNat, Nat.reduceEqDiff, Nat.reduceBEq, ↓reduceIte, reduceCtorEq, eA, scal1, w2, i0, outS, obH, obV]
    refine call2 300 trivial trivial [(0, 11)] (by simp only [go_sem, Nat.reduceAdd, Nat.reduceSub, Nat.reduceMul, Nat.reduceLT, Nat.reduceLeDiff, Int.reduceToNat, Nat.reduceEqDiff, Nat.reduceBEq, ↓reduceIte, reduceCtorEq] <;> rfl) (by simp only [go_sem, Nat.reduceAdd, Nat.reduceSub, Nat.reduceMul, Nat.reduceLT, Nat.reduceLeDiff, Int.reduceToNat, Nat.reduceEqDiff, Nat.reduceBEq, ↓reduceIte, reduceCtorEq, Ev.rest, keyIn] <;> rfl) ce (.inr ⟨rfl, rfl⟩) (fun A eA => ?_)
    simp (disch := first | omega | (simp only [avs_len, List.length_cons, List.length_append, List.length_nil, List.length_take, List.length_drop, List.length_map]; omega) | (simp only [cells, scal1, allSz, List.length_cons, List.length_nil, List.length_append, List.length_map, List.all_cons, List.all_nil, avs_len, beq_self_eq_true, Bool.and_self, and_self, or_true, true_or, reduceCtorEq, *]; done) | fail) only [c_law07_VersionBytes, wl_law07_VersionBytes_0, s_law07_VersionBytes_0, c_law07_VersionBytes_l0, wb_law07_VersionBytes_0, wl_law07_VersionBytes_2, s_law07_VersionBytes_2, c_law07_VersionBytes_l2, wb_law07_VersionBytes_2, c_law07_VersionBytes_k0, c_law07_VersionBytes_k1, go_sem, Nat.reduceAdd, Nat.reduceSub, Nat.reduceMul, Nat.reduceLT, Nat.reduceLeDiff, Int.reduceToNat, Nat.reduceEqDiff, Nat.reduceBEq, ↓reduceIte, reduceCtorEq, eA, scal1, w2, i0]
    refine call2 300 trivial trivial [] rfl rfl cn2 (.inr ⟨rfl, rfl⟩) (fun A eA => ?_)
    simp (disch := first | omega | (simp only [avs_len, List.length_cons, List.length_append, List.length_nil, List.length_take, List.length_drop, List.length_map]; omega) | (simp only [cells, scal1, allSz, List.length_cons, List.length_nil, List.length_append, List.length_map, List.all_cons, List.all_nil, avs_len, beq_self_eq_true, Bool.and_self, and_self, or_true, true_or, reduceCtorEq, *]; done) | fail) only [c_law07_VersionBytes, wl_law07_VersionBytes_0, s_law07_VersionBytes_0, c_law07_VersionBytes_l0, wb_law07_VersionBytes_0, wl_law07_VersionBytes_2, s_law07_VersionBytes_2, c_law07_VersionBytes_l2, wb_law07_VersionBytes_2, c_law07_VersionBytes_k0, c_law07_VersionBytes_k1, go_sem, Nat.reduceAdd, Nat.reduceSub, Nat.reduceMul, Nat.reduceLT, Nat.reduceLeDiff, Int.reduceToNat, Nat.reduceEqDiff, Nat.reduceBEq, ↓reduceIte, reduceCtorEq, eA, scal1, w2, i0]
    refine call2 300 trivial trivial [(2, 6)] (by simp only [go_sem, Nat.reduceAdd, Nat.reduceSub, Nat.reduceMul, Nat.reduceLT, Nat.reduceLeDiff, Int.reduceToNat, Nat.reduceEqDiff, Nat.reduceBEq, ↓reduceIte, reduceCtorEq] <;> rfl) (by simp only [go_sem, Nat.reduceAdd, Nat.reduceSub, Nat.reduceMul, Nat.reduceLT, Nat.reduceLeDiff, Int.reduceToNat, Nat.reduceEqDiff, Nat.reduceBEq, ↓reduceIte, reduceCtorEq, Ev.rest, keyIn] <;> rfl) cg (.inr ⟨rfl, by simp only [heapFree, hFr, Bool.and_self] <;> rfl⟩) (fun A eA => ?_)
    simp (disch := first | omega | (simp only [avs_len, List.length_cons, List.length_append, List.length_nil, List.length_take, List.length_drop, List.length_map]; omega) | (simp only [cells, scal1, allSz, List.length_cons, List.length_nil, List.length_append, List.length_map, List.all_cons, List.all_nil, avs_len, beq_self_eq_true, Bool.and_self, and_self, or_true, true_or, reduceCtorEq, *]; done) | fail) only [c_law07_VersionBytes, wl_law07_VersionBytes_0, s_law07_VersionBytes_0, c_law07_VersionBytes_l0, wb_law07_VersionBytes_0, wl_law07_VersionBytes_2, s_law07_VersionBytes_2, c_law07_VersionBytes_l2, wb_law07_VersionBytes_2, c_law07_VersionBytes_k0, c_law07_VersionBytes_k1, go_sem, Nat.reduceAdd, Nat.reduceSub, Nat.reduceMul, Nat.reduceLT, Nat.reduceLeDiff, Int.reduceToNat, Nat.reduceEqDiff, Nat.reduceBEq, ↓reduceIte, reduceCtorEq, eA, scal1, w2, i0, chunk, chunkN, List.take_nil, List.drop_nil, List.take_zero]
    refine call2 300 trivial trivial [(2, 6)] (by simp only [go_sem, Nat.reduceAdd, Nat.reduceSub, Nat.reduceMul, Nat.reduceLT, Nat.reduceLeDiff, Int.reduceToNat, Nat.reduceEqDiff, Nat.reduceBEq, ↓reduceIte, reduceCtorEq] <;> rfl) (by simp only [go_sem, Nat.reduceAdd, Nat.reduceSub, Nat.reduceMul, Nat.reduceLT, Nat.reduceLeDiff, Int.reduceToNat, Nat.reduceEqDiff, Nat.reduceBEq, ↓reduceIte, reduceCtorEq, Ev.rest, keyIn] <;> rfl) cd (.inr ⟨rfl, by simp only [heapFree, hFr, Bool.and_self]⟩) (fun A eA => ?_)
    simp (disch := first | omega | (simp only [avs_len, List.length_cons, List.length_append, List.length_nil, List.length_take, List.length_drop, List.length_map]; omega) | (simp only [cells, scal1, allSz, List.length_cons, List.length_nil, List.length_append, List.length_map, List.all_cons, List.all_nil, avs_len, beq_self_eq_true, Bool.and_self, and_self, or_true, true_or, reduceCtorEq, *]; done) | fail) only [c_law07_VersionBytes, wl_law07_VersionBytes_0, s_law07_VersionBytes_0, c_law07_VersionBytes_l0, wb_law07_VersionBytes_0, wl_law07_VersionBytes_2, s_law07_VersionBytes_2, c_law07_VersionBytes_l2, wb_law07_VersionBytes_2, c_law07_VersionBytes_k0, c_law07_VersionBytes_k1, go_sem, Nat.reduceAdd, Nat.reduceSub, Nat.reduceMul, Nat.reduceLT, Nat.reduceLeDiff, Int.reduceToNat, Nat.reduceEqDiff, Nat.reduceBEq, ↓reduceIte, reduceCtorEq, eA, scal1, w2, i0]
    refine call0 300 trivial trivial cv (.inl rfl) (fun A eA => ?_)
    simp (disch := first | omega | (simp only [avs_len, List.length_cons, List.length_append, List.length_nil, List.length_take, List.length_drop, List.length_map]; omega) | (simp only [cells, scal1, allSz, List.length_cons, List.length_nil, List.length_append, List.length_map, List.all_cons, List.all_nil, avs_len, beq_self_eq_true, Bool.and_self, and_self, or_true, true_or, reduceCtorEq, *]; done) | fail) only [c_law07_VersionBytes, wl_law07_VersionBytes_0, s_law07_VersionBytes_0, c_law07_VersionBytes_l0, wb_law07_VersionBytes_0, wl_law07_VersionBytes_2, s_law07_VersionBytes_2, c_law07_VersionBytes_l2, wb_law07_VersionBytes_2, c_law07_VersionBytes_k0, c_law07_VersionBytes_k1, go_sem, Nat.reduceAdd, Nat.reduceSub, Nat.reduceMul, Nat.reduceLT, Nat.reduceLeDiff, Int.reduceToNat, Nat.reduceEqDiff, Nat.reduceBEq, ↓reduceIte, reduceCtorEq, eA, scal1, w2, i0]
    exact doneG rfl
theorem vtail_some (most : Nat) (hm : most < 256) (l : List Ver) (hl : l.length ≤ 40) (hv : ∀ v ∈ l, VRt v) (hl0 : l ≠ []) (si : InS) (nx : Ctr) :
    RunsX Try.prog 0 (Gives [.t 6] (.bool true)) [.c c_law07_VersionBytes_k0] (e_law07_VersionBytes_2 (.fz 7 (l.map vv) none) (.int .u8 (most : Nat))) [(1, 6, 0, some (inE si))] nx := by
  have hFr := inE_free
  have hlen := putVers_len hv
  obtain ⟨e', nx1, ho, hne, hnil, hp⟩ := verPut_h hl hv (nx 11) (bump nx 11)
  obtain ⟨key, g', rfl⟩ : ∃ key g', e' = some (key, g') := by
    cases e' with
    | none => exact absurd rfl (hne hl0)
    | some p => exact ⟨p.1, p.2, rfl⟩
  have hk : 11 < key := ho.1
  have hk6 : ¬ 6 = key := by omega
  have hk6' : ¬ key = 6 := by omega
  have hk7 : ¬ 11 = key := by omega
  have hk7' : ¬ key = 11 := by omega
  have hpn : putVers l ≠ [] := by
    cases l with
    | nil => exact absurd rfl hl0
    | cons v l => intro e; have := putVer_pos v; simp only [putVers, List.append_eq_nil_iff] at e; rw [e.1] at this; exact absurd this (by simp)
  have w2 : IntKind.i64.wrap ((most : Nat) : Int) = ((most : Nat) : Int) := wrap64 (by omega) (by omega)
  have ce := outEnd_some 0 11 (nx 11) key g' (by omega) (by omega) (putVers l) hpn (by omega) nx1
  have cn2 := newIn_h (putVers l) (by omega) 2 (bump nx1 7)
  have hs2 : OkIn (some (putVers l)) := by intro r hr; cases hr; exact ⟨putVers_256 hv, by omega⟩
  have e1 : lenIn (some (putVers l)) = (putVers l).length := rfl
  obtain ⟨e2, nx3, he2, cg⟩ := verGet_h most (by omega) 2 (nx1 6) (by omega) hs2 (by omega) (bump (bump nx1 7) 6)
  have hgp := get_put l (lenIn (some (putVers l)) + 1) most [] hv (by omega) (Nat.zero_le _)
  rw [hgp] at cg he2
  by_cases hle : l.length ≤ most
  · rw [if_pos (by simpa using hle)] at cg he2
    simp only [List.nil_append] at cg he2
    obtain ⟨g2, rfl⟩ : ∃ g2, e2 = some g2 := by
      cases e2 with
      | none => exact absurd (he2 rfl) hl0
      | some p => exact ⟨p, rfl⟩
    obtain ⟨nx4, cd⟩ := done_takes (some []) 2 (nx1 6) nx3 (by omega)
    have cv := vsameall_calls (l := l) (by omega) hv
    have i0 : ¬ ((most : Nat) : Int) < ((l.length : Nat) : Int) := by omega
    have hT : (vcat l).take (l.length * 7) = vcat l := List.take_of_length_le (by rw [vcat_len]; omega)
    have hP : (0 + l.length) * 7 ≤ l.length * 7 := by omega
    have hC : chunkN 7 l.length (vcat l) = l.map vv := by have := chunk_vcat l; simp only [chunk] at this; rwa [if_neg (by omega)] at this
    simp only [accV, accE] at cg
    refine walk0 (its := [.c c_law07_VersionBytes_k0]) 300 trivial (fun A eA => ?_)
    simp (disch := first | omega | (simp only [avs_len, List.length_cons, List.length_append, List.length_nil, List.length_take, List.length_drop, List.length_map]; omega) | (simp only [cells, scal1, allSz, List.length_cons, List.length_nil, List.length_append, List.length_map, List.all_cons, List.all_nil, avs_len, beq_self_eq_true, Bool.and_self, and_self, or_true, true_or, reduceCtorEq, *]; done) | fail) only [c_law07_VersionBytes, wl_law07_VersionBytes_0, s_law07_VersionBytes_0, c_law07_VersionBytes_l0, wb_law07_VersionBytes_0, wl_law07_VersionBytes_2, s_law07_VersionBytes_2, c_law07_VersionBytes_l2, wb_law07_VersionBytes_2, c_law07_VersionBytes_k0, c_law07_VersionBytes_k1, go_sem, Nat.reduceAdd, Nat.reduceSub, Nat.reduceMul, Nat.reduceLT, Nat.reduceLeDiff, Int.reduceToNat, Nat.reduceEqDiff, Nat.reduceBEq, ↓reduceIte, reduceCtorEq, eA, scal1, w2, i0, List.length_map, avs_len, Nat.sub_zero, avs_take_all, ↓frz_ints, chunk, hk6, hk6', hk7, hk7']
    refine call2 300 trivial trivial [(0, 11), (1, key)] (by simp only [go_sem, Nat.reduceAdd, Nat.reduceSub, Nat.reduceMul, Nat.reduceLT, Nat.reduceLeDiff, Int.reduceToNat, Nat.reduceEqDiff, Nat.reduceBEq, ↓reduceIte, reduceCtorEq, hk6, hk6', hk7, hk7', Ev.sel] <;> rfl) (by simp only [go_sem, Nat.reduceAdd, Nat.reduceSub, Nat.reduceMul, Nat.reduceLT, Nat.reduceLeDiff, Int.reduceToNat, Nat.reduceEqDiff, Nat.reduceBEq, ↓reduceIte, reduceCtorEq, Ev.rest, keyIn, hk6, hk6', hk7, hk7'] <;> rfl) hp (.inr ⟨rfl, out_free _ _ _ _ _ _ _ (by simp only [go_sem, Nat.reduceAdd, Nat.reduceSub, Nat.reduceMul, Nat.reduceLT, Nat.reduceLeDiff, Int.reduceToNat, Nat.reduceEqDiff, Nat.reduceBEq, ↓reduceIte, reduceCtorEq, hk6])⟩) (fun A eA => ?_)
    simp (disch := first | omega | (simp only [avs_len, List.length_cons, List.length_append, List.length_nil, List.length_take, List.length_drop, List.length_map]; omega) | (simp only [cells, scal1, allSz, List.length_cons, List.length_nil, List.length_append, List.length_map, List.all_cons, List.all_nil, avs_len, beq_self_eq_true, Bool.and_self, and_self, or_true, true_or, reduceCtorEq, *]; done) | fail) only [c_law07_VersionBytes, wl_law07_VersionBytes_0, s_law07_VersionBytes_0, c_law07_VersionBytes_l0, wb_law07_VersionBytes_0, wl_law07_VersionBytes_2, s_law07_VersionBytes_2, c_law07_VersionBytes_l2, wb_law07_VersionBytes_2, c_law07_VersionBytes_k0, c_law07_VersionBytes_k1, go_sem, Nat.reduceAdd, Nat.reduceSub, Nat.reduceMul, Nat.reduceLT, Nat.reduceLeDiff, Int.reduceToNat, Nat.reduceEqDiff, Nat.reduceBEq, ↓reduceIte, reduceCtorEq, eA, scal1, w2, i0, List.length_map, avs_len, Nat.sub_zero, avs_take_all, ↓frz_ints, chunk, hk6, hk6', hk7, hk7', outS, obH, obV]
    refine call2 300 trivial trivial [(0, 11), (1, key)] (by simp only [go_sem, Nat.reduceAdd, Nat.reduceSub, Nat.reduceMul, Nat.reduceLT, Nat.reduceLeDiff, Int.reduceToNat, Nat.reduceEqDiff, Nat.reduceBEq, ↓reduceIte, reduceCtorEq, hk6, hk6', hk7, hk7', Ev.sel] <;> rfl) (by simp only [go_sem, Nat.reduceAdd, Nat.reduceSub, Nat.reduceMul, Nat.reduceLT, Nat.reduceLeDiff, Int.reduceToNat, Nat.reduceEqDiff, Nat.reduceBEq, ↓reduceIte, reduceCtorEq, Ev.rest, keyIn, hk6, hk6', hk7, hk7'] <;> rfl) ce (.inr ⟨tup_free _ _ _ _ _ _ (by simp only [go_sem, Nat.reduceAdd, Nat.reduceSub, Nat.reduceMul, Nat.reduceLT, Nat.reduceLeDiff, Int.reduceToNat, Nat.reduceEqDiff, Nat.reduceBEq, ↓reduceIte, reduceCtorEq, hk6, hk6'] <;> rfl), out_free2 _ _ _ _ _ _ _ _ _ (by simp only [go_sem, Nat.reduceAdd, Nat.reduceSub, Nat.reduceMul, Nat.reduceLT, Nat.reduceLeDiff, Int.reduceToNat, Nat.reduceEqDiff, Nat.reduceBEq, ↓reduceIte, reduceCtorEq, hk6, hk6'] <;> rfl)⟩) (fun A eA => ?_)
    simp (disch := first | omega | (simp only [avs_len, List.length_cons, List.length_append, List.length_nil, List.length_take, List.length_drop, List.length_map]; omega) | (simp only [cells, scal1, allSz, List.length_cons, List.length_nil, List.length_append, List.length_map, List.all_cons, List.all_nil, avs_len, beq_self_eq_true, Bool.and_self, and_self, or_true, true_or, reduceCtorEq, *]; done) | fail) only [c_law07_VersionBytes, wl_law07_VersionBytes_0, s_law07_VersionBytes_0, c_law07_VersionBytes_l0, wb_law07_VersionBytes_0, wl_law07_VersionBytes_2, s_law07_VersionBytes_2, c_law07_VersionBytes_l2, wb_law07_VersionBytes_2, c_law07_VersionBytes_k0, c_law07_VersionBytes_k1, go_sem, Nat.reduceAdd, Nat.reduceSub, Nat.reduceMul, Nat.reduceLT, Nat.reduceLeDiff, Int.reduceToNat, Nat.reduceEqDiff, Nat.reduceBEq, ↓reduceIte, reduceCtorEq, eA, scal1, w2, i0, List.length_map, avs_len, Nat.sub_zero, avs_take_all, ↓frz_ints, chunk, hk6, hk6', hk7, hk7']
    refine call2 300 trivial trivial [] rfl rfl cn2 (.inr ⟨by simp only [go_sem, Nat.reduceAdd, Nat.reduceSub, Nat.reduceMul, Nat.reduceLT, Nat.reduceLeDiff, Int.reduceToNat, Nat.reduceEqDiff, Nat.reduceBEq, ↓reduceIte, reduceCtorEq, nameFree] <;> rfl, by simp only [go_sem, Nat.reduceAdd, Nat.reduceSub, Nat.reduceMul, Nat.reduceLT, Nat.reduceLeDiff, Int.reduceToNat, Nat.reduceEqDiff, Nat.reduceBEq, ↓reduceIte, reduceCtorEq, heapFree, avs_free, nameFree, List.all_cons, List.all_nil, Bool.and_self] <;> rfl⟩) (fun A eA => ?_)
    simp (disch := first | omega | (simp only [avs_len, List.length_cons, List.length_append, List.length_nil, List.length_take, List.length_drop, List.length_map]; omega) | (simp only [cells, scal1, allSz, List.length_cons, List.length_nil, List.length_append, List.length_map, List.all_cons, List.all_nil, avs_len, beq_self_eq_true, Bool.and_self, and_self, or_true, true_or, reduceCtorEq, *]; done) | fail) only [c_law07_VersionBytes, wl_law07_VersionBytes_0, s_law07_VersionBytes_0, c_law07_VersionBytes_l0, wb_law07_VersionBytes_0, wl_law07_VersionBytes_2, s_law07_VersionBytes_2, c_law07_VersionBytes_l2, wb_law07_VersionBytes_2, c_law07_VersionBytes_k0, c_law07_VersionBytes_k1, go_sem, Nat.reduceAdd, Nat.reduceSub, Nat.reduceMul, Nat.reduceLT, Nat.reduceLeDiff, Int.reduceToNat, Nat.reduceEqDiff, Nat.reduceBEq, ↓reduceIte, reduceCtorEq, eA, scal1, w2, i0, List.length_map, avs_len, Nat.sub_zero, avs_take_all, ↓frz_ints, chunk, hk6, hk6', hk7, hk7']
    refine call2 300 trivial trivial [(2, 6)] (by simp only [go_sem, Nat.reduceAdd, Nat.reduceSub, Nat.reduceMul, Nat.reduceLT, Nat.reduceLeDiff, Int.reduceToNat, Nat.reduceEqDiff, Nat.reduceBEq, ↓reduceIte, reduceCtorEq, hk6, hk6', hk7, hk7'] <;> rfl) (by simp only [go_sem, Nat.reduceAdd, Nat.reduceSub, Nat.reduceMul, Nat.reduceLT, Nat.reduceLeDiff, Int.reduceToNat, Nat.reduceEqDiff, Nat.reduceBEq, ↓reduceIte, reduceCtorEq, Ev.rest, keyIn, hk6, hk6', hk7, hk7'] <;> rfl) cg (.inr ⟨by first | rfl | (simp only [go_sem, Nat.reduceAdd, Nat.reduceSub, Nat.reduceMul, Nat.reduceLT, Nat.reduceLeDiff, Int.reduceToNat, Nat.reduceEqDiff, Nat.reduceBEq, ↓reduceIte, reduceCtorEq, nameFree] <;> rfl), by simp only [heapFree, hFr, vcat_free, List.all_nil, Bool.and_self]⟩) (fun A eA => ?_)
    simp (disch := first | omega | (simp only [avs_len, List.length_cons, List.length_append, List.length_nil, List.length_take, List.length_drop, List.length_map]; omega) | (simp only [cells, scal1, allSz, List.length_cons, List.length_nil, List.length_append, List.length_map, List.all_cons, List.all_nil, avs_len, beq_self_eq_true, Bool.and_self, and_self, or_true, true_or, reduceCtorEq, *]; done) | fail) only [c_law07_VersionBytes, wl_law07_VersionBytes_0, s_law07_VersionBytes_0, c_law07_VersionBytes_l0, wb_law07_VersionBytes_0, wl_law07_VersionBytes_2, s_law07_VersionBytes_2, c_law07_VersionBytes_l2, wb_law07_VersionBytes_2, c_law07_VersionBytes_k0, c_law07_VersionBytes_k1, go_sem, Nat.reduceAdd, Nat.reduceSub, Nat.reduceMul, Nat.reduceLT, Nat.reduceLeDiff, Int.reduceToNat, Nat.reduceEqDiff, Nat.reduceBEq, ↓reduceIte, reduceCtorEq, eA, scal1, w2, i0, List.length_map, avs_len, Nat.sub_zero, avs_take_all, ↓frz_ints, chunk, hk6, hk6', hk7, hk7', vcat_len, Nat.zero_mul, List.drop_zero, hT, hP, ↓frz_vcat, hC]
    refine call2 300 trivial trivial [(2, 6)] (by simp only [go_sem, Nat.reduceAdd, Nat.reduceSub, Nat.reduceMul, Nat.reduceLT, Nat.reduceLeDiff, Int.reduceToNat, Nat.reduceEqDiff, Nat.reduceBEq, ↓reduceIte, reduceCtorEq, hk6, hk6', hk7, hk7'] <;> rfl) (by simp only [go_sem, Nat.reduceAdd, Nat.reduceSub, Nat.reduceMul, Nat.reduceLT, Nat.reduceLeDiff, Int.reduceToNat, Nat.reduceEqDiff, Nat.reduceBEq, ↓reduceIte, reduceCtorEq, Ev.rest, keyIn, hk6, hk6', hk7, hk7'] <;> rfl) cd (.inr ⟨rfl, by simp only [heapFree, hFr, Bool.and_self]⟩) (fun A eA => ?_)
    simp (disch := first | omega | (simp only [avs_len, List.length_cons, List.length_append, List.length_nil, List.length_take, List.length_drop, List.length_map]; omega) | (simp only [cells, scal1, allSz, List.length_cons, List.length_nil, List.length_append, List.length_map, List.all_cons, List.all_nil, avs_len, beq_self_eq_true, Bool.and_self, and_self, or_true, true_or, reduceCtorEq, *]; done) | fail) only [c_law07_VersionBytes, wl_law07_VersionBytes_0, s_law07_VersionBytes_0, c_law07_VersionBytes_l0, wb_law07_VersionBytes_0, wl_law07_VersionBytes_2, s_law07_VersionBytes_2, c_law07_VersionBytes_l2, wb_law07_VersionBytes_2, c_law07_VersionBytes_k0, c_law07_VersionBytes_k1, go_sem, Nat.reduceAdd, Nat.reduceSub, Nat.reduceMul, Nat.reduceLT, Nat.reduceLeDiff, Int.reduceToNat, Nat.reduceEqDiff, Nat.reduceBEq, ↓reduceIte, reduceCtorEq, eA, scal1, w2, i0, List.length_map, avs_len, Nat.sub_zero, avs_take_all, ↓frz_ints, chunk, hk6, hk6', hk7, hk7']
    refine call0 300 trivial trivial cv (.inl rfl) (fun A eA => ?_)
    simp (disch := first | omega | (simp only [avs_len, List.length_cons, List.length_append, List.length_nil, List.length_take, List.length_drop, List.length_map]; omega) | (simp only [cells, scal1, allSz, List.length_cons, List.length_nil, List.length_append, List.length_map, List.all_cons, List.all_nil, avs_len, beq_self_eq_true, Bool.and_self, and_self, or_true, true_or, reduceCtorEq, *]; done) | fail) only [c_law07_VersionBytes, wl_law07_VersionBytes_0, s_law07_VersionBytes_0, c_law07_VersionBytes_l0, wb_law07_VersionBytes_0, wl_law07_VersionBytes_2, s_law07_VersionBytes_2, c_law07_VersionBytes_l2, wb_law07_VersionBytes_2, c_law07_VersionBytes_k0, c_law07_VersionBytes_k1, go_sem, Nat.reduceAdd, Nat.reduceSub, Nat.reduceMul, Nat.reduceLT, Nat.reduceLeDiff, Int.reduceToNat, Nat.reduceEqDiff, Nat.reduceBEq, ↓reduceIte, reduceCtorEq, eA, scal1, w2, i0, List.length_map, avs_len, Nat.sub_zero, avs_take_all, ↓frz_ints, chunk, hk6, hk6', hk7, hk7']
    exact doneG rfl
  · rw [if_neg (by simpa using hle)] at cg he2
    have i0 : ((most : Nat) : Int) < ((l.length : Nat) : Int) := by omega
    obtain ⟨nx4, cb⟩ := bad_takes none 2 (nx1 6) nx3 (by omega)
    cases e2
    all_goals
      simp only [accV, accE, vcat, List.length_nil] at cg
      refine walk0 (its := [.c c_law07_VersionBytes_k0]) 300 trivial (fun A eA => ?_)
      simp (disch := first | omega | (simp only [avs_len, List.length_cons, List.length_append, List.length_nil, List.length_take, List.length_drop, List.length_map]; omega) | (simp only [cells, scal1, allSz, List.length_cons, List.length_nil, List.length_append, List.length_map, List.all_cons, List.all_nil, avs_len, beq_self_eq_true, Bool.and_self, and_self, or_true, true_or, reduceCtorEq, *]; done) | fail) only [c_law07_VersionBytes, wl_law07_VersionBytes_0, s_law07_VersionBytes_0, c_law07_VersionBytes_l0, wb_law07_VersionBytes_0, wl_law07_VersionBytes_2, s_law07_VersionBytes_2, c_law07_VersionBytes_l2, wb_law07_VersionBytes_2, c_law07_VersionBytes_k0, c_law07_VersionBytes_k1, go_sem, Nat.reduceAdd, Nat.reduceSub, Nat.reduceMul, Nat.reduceLT, Nat.reduceLeDiff, Int.reduceToNat, Nat.reduceEqDiff, Nat.reduceBEq, ↓reduceIte, reduceCtorEq, eA, scal1, w2, i0, List.length_map, avs_len, Nat.sub_zero, avs_take_all, ↓frz_ints, chunk, hk6, hk6', hk7, hk7']
      refine call2 300 trivial trivial [(0, 11), (1, key)] (by simp only [go_sem, Nat.reduceAdd, Nat.reduceSub, Nat.reduceMul, Nat.reduceLT, Nat.reduceLeDiff, Int.reduceToNat, Nat.reduceEqDiff, Nat.reduceBEq, ↓reduceIte, reduceCtorEq, hk6, hk6', hk7, hk7', Ev.sel] <;> rfl) (by simp only [go_sem, Nat.reduceAdd, Nat.reduceSub, Nat.reduceMul, Nat.reduceLT, Nat.reduceLeDiff, Int.reduceToNat, Nat.reduceEqDiff, Nat.reduceBEq, ↓reduceIte, reduceCtorEq, Ev.rest, keyIn, hk6, hk6', hk7, hk7'] <;> rfl) hp (.inr ⟨rfl, out_free _ _ _ _ _ _ _ (by simp only [go_sem, Nat.reduceAdd, Nat.reduceSub, Nat.reduceMul, Nat.reduceLT, Nat.reduceLeDiff, Int.reduceToNat, Nat.reduceEqDiff, Nat.reduceBEq, ↓reduceIte, reduceCtorEq, hk6])⟩) (fun A eA => ?_)
      simp (disch := first | omega | (simp only [avs_len, List.length_cons, List.length_append, List.length_nil, List.length_take, List.length_drop, List.length_map]; omega) | (simp only [cells, scal1, allSz, List.length_cons, List.length_nil, List.length_append, List.length_map, List.all_cons, List.all_nil, avs_len, beq_self_eq_true, Bool.and_self, and_self, or_true, true_or, reduceCtorEq, *]; done) | fail) only [c_law07_VersionBytes, wl_law07_VersionBytes_0, s_law07_VersionBytes_0, c_law07_VersionBytes_l0, wb_law07_VersionBytes_0, wl_law07_VersionBytes_2, s_law07_VersionBytes_2, c_law07_VersionBytes_l2, wb_law07_VersionBytes_2, c_law07_VersionBytes_k0, c_law07_VersionBytes_k1, go_sem, Nat.reduceAdd, Nat.reduceSub, Nat.reduceMul, Nat.reduceLT, Nat.reduceLeDiff, Int.reduceToNat, Nat.reduceEqDiff, Nat.reduceBEq, ↓reduceIte, reduceCtorEq, eA, scal1, w2, i0, List.length_map, avs_len, Nat.sub_zero, avs_take_all, ↓frz_ints, chunk, hk6, hk6', hk7, hk7', outS, obH, obV]
      refine call2 300 trivial trivial [(0, 11), (1, key)] (by simp only [go_sem, Nat.reduceAdd, Nat.reduceSub, Nat.reduceMul, Nat.reduceLT, Nat.reduceLeDiff, Int.reduceToNat, Nat.reduceEqDiff, Nat.reduceBEq, ↓reduceIte, reduceCtorEq, hk6, hk6', hk7, hk7', Ev.sel] <;> rfl) (by simp only [go_sem, Nat.reduceAdd, Nat.reduceSub, Nat.reduceMul, Nat.reduceLT, Nat.reduceLeDiff, Int.reduceToNat, Nat.reduceEqDiff, Nat.reduceBEq, ↓reduceIte, reduceCtorEq, Ev.rest, keyIn, hk6, hk6', hk7, hk7'] <;> rfl) ce (.inr ⟨tup_free _ _ _ _ _ _ (by simp only [go_sem, Nat.reduceAdd, Nat.reduceSub, Nat.reduceMul, Nat.reduceLT, Nat.reduceLeDiff, Int.reduceToNat, Nat.reduceEqDiff, Nat.reduceBEq, ↓reduceIte, reduceCtorEq, hk6, hk6'] <;> rfl), out_free2 _ _ _ _ _ _ _ _ _ (by simp only [go_sem, Nat.reduceAdd, Nat.reduceSub, Nat.reduceMul, Nat.reduceLT, Nat.reduceLeDiff, Int.reduceToNat, Nat.reduceEqDiff, Nat.reduceBEq, ↓reduceIte, reduceCtorEq, hk6, hk6'] <;> rfl)⟩) (fun A eA => ?_)
      simp (disch := first | omega | (simp only [avs_len, List.length_cons, List.length_append, List.length_nil, List.length_take, List.length_drop, List.length_map]; omega) | (simp only [cells, scal1, allSz, List.length_cons, List.length_nil, List.length_append, List.length_map, List.all_cons, List.all_nil, avs_len, beq_self_eq_true, Bool.and_self, and_self, or_true, true_or, reduceCtorEq, *]; done) | fail) only [c_law07_VersionBytes, wl_law07_VersionBytes_0, s_law07_VersionBytes_0, c_law07_VersionBytes_l0, wb_law07_VersionBytes_0, wl_law07_VersionBytes_2, s_law07_VersionBytes_2, c_law07_VersionBytes_l2, wb_law07_VersionBytes_2, c_law07_VersionBytes_k0, c_law07_VersionBytes_k1, go_sem, Nat.reduceAdd, Nat.reduceSub, Nat.reduceMul, Nat.reduceLT, Nat.reduceLeDiff, Int.reduceToNat, Nat.reduceEqDiff, Nat.reduceBEq, ↓reduceIte, reduceCtorEq, eA, scal1, w2, i0, List.length_map, avs_len, Nat.sub_zero, avs_take_all, ↓frz_ints, chunk, hk6, hk6', hk7, hk7']
      refine call2 300 trivial trivial [] rfl rfl cn2 (.inr ⟨by simp only [go_sem, Nat.reduceAdd, Nat.reduceSub, Nat.reduceMul, Nat.reduceLT, Nat.reduceLeDiff, Int.reduceToNat, Nat.reduceEqDiff, Nat.reduceBEq, ↓reduceIte, reduceCtorEq, nameFree] <;> rfl, by simp only [go_sem, Nat.reduceAdd, Nat.reduceSub, Nat.reduceMul, Nat.reduceLT, Nat.reduceLeDiff, Int.reduceToNat, Nat.reduceEqDiff, Nat.reduceBEq, ↓reduceIte, reduceCtorEq, heapFree, avs_free, nameFree, List.all_cons, List.all_nil, Bool.and_self] <;> rfl⟩) (fun A eA => ?_)
      simp (disch := first | omega | (simp only [avs_len, List.length_cons, List.length_append, List.length_nil, List.length_take, List.length_drop, List.length_map]; omega) | (simp only [cells, scal1, allSz, List.length_cons, List.length_nil, List.length_append, List.length_map, List.all_cons, List.all_nil, avs_len, beq_self_eq_true, Bool.and_self, and_self, or_true, true_or, reduceCtorEq, *]; done) | fail) only [c_law07_VersionBytes, wl_law07_VersionBytes_0, s_law07_VersionBytes_0, c_law07_VersionBytes_l0, wb_law07_VersionBytes_0, wl_law07_VersionBytes_2, s_law07_VersionBytes_2, c_law07_VersionBytes_l2, wb_law07_VersionBytes_2, c_law07_VersionBytes_k0, c_law07_VersionBytes_k1, go_sem, Nat.reduceAdd, Nat.reduceSub, Nat.reduceMul, Nat.reduceLT, Nat.reduceLeDiff, Int.reduceToNat, Nat.reduceEqDiff, Nat.reduceBEq, ↓reduceIte, reduceCtorEq, eA, scal1, w2, i0, List.length_map, avs_len, Nat.sub_zero, avs_take_all, ↓frz_ints, chunk, hk6, hk6', hk7, hk7']
      refine call2 300 trivial trivial [(2, 6)] (by simp only [go_sem, Nat.reduceAdd, Nat.reduceSub, Nat.reduceMul, Nat.reduceLT, Nat.reduceLeDiff, Int.reduceToNat, Nat.reduceEqDiff, Nat.reduceBEq, ↓reduceIte, reduceCtorEq, hk6, hk6', hk7, hk7'] <;> rfl) (by simp only [go_sem, Nat.reduceAdd, Nat.reduceSub, Nat.reduceMul, Nat.reduceLT, Nat.reduceLeDiff, Int.reduceToNat, Nat.reduceEqDiff, Nat.reduceBEq, ↓reduceIte, reduceCtorEq, Ev.rest, keyIn, hk6, hk6', hk7, hk7'] <;> rfl) cg (.inr ⟨by first | rfl | (simp only [go_sem, Nat.reduceAdd, Nat.reduceSub, Nat.reduceMul, Nat.reduceLT, Nat.reduceLeDiff, Int.reduceToNat, Nat.reduceEqDiff, Nat.reduceBEq, ↓reduceIte, reduceCtorEq, nameFree] <;> rfl), by simp only [heapFree, hFr, vcat_free, List.all_nil, Bool.and_self]⟩) (fun A eA => ?_)
      simp (disch := first | omega | (simp only [avs_len, List.length_cons, List.length_append, List.length_nil, List.length_take, List.length_drop, List.length_map]; omega) | (simp only [cells, scal1, allSz, List.length_cons, List.length_nil, List.length_append, List.length_map, List.all_cons, List.all_nil, avs_len, beq_self_eq_true, Bool.and_self, and_self, or_true, true_or, reduceCtorEq, *]; done) | fail) only [c_law07_VersionBytes, wl_law07_VersionBytes_0, s_law07_VersionBytes_0, c_law07_VersionBytes_l0, wb_law07_VersionBytes_0, wl_law07_VersionBytes_2, s_law07_VersionBytes_2, c_law07_VersionBytes_l2, wb_law07_VersionBytes_2, c_law07_VersionBytes_k0, c_law07_VersionBytes_k1, go_sem, Nat.reduceAdd, Nat.reduceSub, Nat.reduceMul, Nat.reduceLT, Nat.reduceLeDiff, Int.reduceToNat, Nat.reduceEqDiff, Nat.reduceBEq, ↓reduceIte, reduceCtorEq, eA, scal1, w2, i0, List.length_map, avs_len, Nat.sub_zero, avs_take_all, ↓frz_ints, chunk, hk6, hk6', hk7, hk7', chunkN, List.take_nil, List.drop_nil, List.take_zero]
      refine call2 300 trivial trivial [(2, 6)] (by simp only [go_sem, Nat.reduceAdd, Nat.reduceSub, Nat.reduceMul, Nat.reduceLT, Nat.reduceLeDiff, Int.reduceToNat, Nat.reduceEqDiff, Nat.reduceBEq, ↓reduceIte, reduceCtorEq, hk6, hk6', hk7, hk7'] <;> rfl) (by simp only [go_sem, Nat.reduceAdd, Nat.reduceSub, Nat.reduceMul, Nat.reduceLT, Nat.reduceLeDiff, Int.reduceToNat, Nat.reduceEqDiff, Nat.reduceBEq, ↓reduceIte, reduceCtorEq, Ev.rest, keyIn, hk6, hk6', hk7, hk7'] <;> rfl) cb (.inr ⟨rfl, by simp only [heapFree, hFr, Bool.and_self]⟩) (fun A eA => ?_)
      simp (disch := first | omega | (simp only [avs_len, List.length_cons, List.length_append, List.length_nil, List.length_take, List.length_drop, List.length_map]; omega) | (simp only [cells, scal1, allSz, List.length_cons, List.length_nil, List.length_append, List.length_map, List.all_cons, List.all_nil, avs_len, beq_self_eq_true, Bool.and_self, and_self, or_true, true_or, reduceCtorEq, *]; done) | fail) only [c_law07_VersionBytes, wl_law07_VersionBytes_0, s_law07_VersionBytes_0, c_law07_VersionBytes_l0, wb_law07_VersionBytes_0, wl_law07_VersionBytes_2, s_law07_VersionBytes_2, c_law07_VersionBytes_l2, wb_law07_VersionBytes_2, c_law07_VersionBytes_k0, c_law07_VersionBytes_k1, go_sem, Nat.reduceAdd, Nat.reduceSub, Nat.reduceMul, Nat.reduceLT, Nat.reduceLeDiff, Int.reduceToNat, Nat.reduceEqDiff, Nat.reduceBEq, ↓reduceIte, reduceCtorEq, eA, scal1, w2, i0, List.length_map, avs_len, Nat.sub_zero, avs_take_all, ↓frz_ints, chunk, hk6, hk6', hk7, hk7']
      exact doneG rfl
end Go.Proofs.Ytmokhopjnjecbab
