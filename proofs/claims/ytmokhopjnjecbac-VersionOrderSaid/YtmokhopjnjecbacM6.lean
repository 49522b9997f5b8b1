/- The library's sort at elements of 7 cells: the heap sort, the turning round. Printed by a program of mine (sortgen.py). -/
import Derived.Test.YtmokhopjnjecbacM5
import Derived.Sort.AssemblyPlain
-- short
-- om
-- fuel 300
namespace Go.Proofs.Ytmokhopjnjecbac
open Go.Ev Go.Sort
set_option linter.unusedVariables false
set_option linter.unusedSimpArgs false
set_option linter.unusedSectionVars false
set_option maxRecDepth 100000
set_option maxHeartbeats 3200000
theorem vsszD (lt : Ver → Ver → Bool) (hi first : Nat) : ∀ (m root : Nat) (D : Array Ver), hi - root ≤ m → (siftDown lt hi first root D).size = D.size := by
  intro m
  induction m with
  | zero => intro root D hm; rw [siftDown, dif_pos (by omega)]
  | succ m ih =>
    intro root D hm
    rw [siftDown]
    split
    · rfl
    · split
      · split
        · rfl
        · split
          · rw [ih _ _ (by omega), size_swp]
          · rfl
      · split
        · rfl
        · rw [ih _ _ (by omega), size_swp]
theorem vsszB (lt : Ver → Ver → Bool) (hi first : Nat) : ∀ (k : Nat) (D : Array Ver), (heapBuild lt hi first k D).size = D.size
  | 0, D => rfl
  | k + 1, D => by rw [heapBuild, vsszB lt hi first k, vsszD lt hi first _ k D (Nat.le_refl _)]
/-- So many rounds are left. -/
def vsctr : Nat → Int
  | 0 => -1
  | k + 1 => (k : Nat)
theorem vsctr_dec (k : Nat) (h : k ≤ 1000) : IntKind.i64.wrap (((k : Nat) : Int) - 1) = vsctr k := by
  cases k with
  | zero => rfl
  | succ k => rw [nz_sub1 (by omega), zz15, nz_wrap (by omega)]; rfl
section
variable {F : Nat} {c : Ver → Ver → Int} (hc : vsCmp F c) {f d g n : Nat}
include hc
theorem vsbuild (hn : n ≤ 1000) {k : List It} (hk : flat k) {R : List AV → Heap → Ctr → Prop} {φ : Nat} (hi first : Nat) (hf : first + hi ≤ n) (nx : Ctr) : ∀ (m : Nat) (D : Array Ver), m ≤ 1000 → D.size = n →
    RunsX Try.prog φ R k (e_z8z_0 (.sl f d g 7 0 n) (.func F []) (.int .i64 (first : Nat)) (.int .i64 0) (.int .i64 (hi : Nat))) (vsH f d g (heapBuild (vslt c) hi first m D)) nx →
    RunsX Try.prog φ R (i_z8z_0 ++ k) (s_z8z_0 (.sl f d g 7 0 n) (.func F []) (.int .i64 (first : Nat)) (.int .i64 0) (.int .i64 (hi : Nat)) (.int .i64 (vsctr m))) (vsH f d g D) nx
  | 0, D, hm, hD, h => by
    have e : vsctr 0 = -1 := rfl
    refine round (its := [.blk 0 wb_z8z_0]) 300 hk trivial (fun A eA => ?_)
    simp (disch := omega) only [go_sem, eA, scal1, e]
    exact h
  | m + 1, D, hm, hD, h => by
    have e : vsctr (m + 1) = ((m : Nat) : Int) := rfl
    have w := vsctr_dec m (by omega)
    rw [heapBuild] at h
    have ih := vsbuild hn hk hi first hf nx m _ (by omega) (by rw [vsszD _ _ _ _ _ _ (Nat.le_refl _)]; exact hD) h
    refine round (its := [.blk 0 wb_z8z_0]) 300 hk trivial (fun A eA => ?_)
    simp (disch := omega) only [go_sem, eA, scal1, e, w]
    refine call2 300 hk trivial [(f, d)] (by simp only [go_sem] <;> rfl) (by simp only [go_sem] <;> rfl) (vssift_h hc hn m hi first (by omega) hf D hD nx) (.inl rfl) (fun A eA => ?_)
    simp (disch := omega) only [go_sem, eA, scal1, e, w]
    exact ih
theorem vspops (hn : n ≤ 1000) {k : List It} (hk : flat k) {R : List AV → Heap → Ctr → Prop} {φ : Nat} (first : Nat) (nx : Ctr) : ∀ (m : Nat) (D : Array Ver), first + m ≤ n → D.size = n →
    RunsX Try.prog φ R k e_z8z_2 (vsH f d g (heapPop (vslt c) first m D)) nx →
    RunsX Try.prog φ R (i_z8z_2 ++ k) (s_z8z_2 (.sl f d g 7 0 n) (.func F []) (.int .i64 (first : Nat)) (.int .i64 0) (.int .i64 (vsctr m))) (vsH f d g D) nx
  | 0, D, hm, hD, h => by
    have e : vsctr 0 = -1 := rfl
    refine round (its := [.blk 2 wb_z8z_2]) 300 hk trivial (fun A eA => ?_)
    simp (disch := omega) only [go_sem, eA, scal1, e]
    exact h
  | m + 1, D, hm, hD, h => by
    have e : vsctr (m + 1) = ((m : Nat) : Int) := rfl
    have w := vsctr_dec m (by omega)
    rw [heapPop] at h
    have hs : (swp D first (first + m)).size = n := by rw [size_swp]; exact hD
    have ih := vspops hn hk first nx m _ (by omega) (by rw [vsszD _ _ _ _ _ _ (Nat.le_refl _)]; exact hs) h
    have cs := vssift_h (f := f) (d := d) (g := g) hc hn 0 m first (by omega) (by omega) _ hs nx
    refine round (its := [.blk 2 wb_z8z_2]) 300 hk trivial (fun A eA => ?_)
    simp (disch := omega) only [go_sem, eA, scal1, nz_wrap, nz_sub1, nz_sub, nz_add1, nz_add, nz_mul2, zz15, zz16, vsat, vslen, vsset, vsset2, vsswp, ev7_len, ev7_all, ev7_frz, zz14, e, w]
    refine call2 300 hk trivial [(f, d)] (by simp only [go_sem] <;> rfl) (by simp only [go_sem] <;> rfl) cs (.inl rfl) (fun A eA => ?_)
    simp (disch := omega) only [go_sem, eA, scal1, e, w]
    exact ih
theorem vsheap_h (hn : n ≤ 1000) (a b : Nat) (hab : a < b) (hb : b ≤ n) (D : Array Ver) (hD : D.size = n) (nx : Ctr) :
    HCalls Try.prog F_z8z [.sl f d g 7 0 n, .int .i64 (a : Nat), .int .i64 (b : Nat), .func F []] (vsH f d g D) nx (.tup []) (vsH f d g (heapSort (vslt c) D a b)) nx := by
  have w1 : (((b - a - 1 : Nat) : Int)).tdiv 2 = vsctr ((b - a - 1) / 2 + 1) := by
    rw [Int.tdiv_eq_ediv_of_nonneg (by omega)]
    show _ = (((b - a - 1) / 2 : Nat) : Int)
    omega
  have w2 : IntKind.i64.wrap (vsctr ((b - a - 1) / 2 + 1)) = vsctr ((b - a - 1) / 2 + 1) := nz_wrap (by omega)
  have w3 : vsctr (b - a) = ((b - a - 1 : Nat) : Int) := by
    obtain ⟨q, hq⟩ : ∃ q, b - a = q + 1 := ⟨b - a - 1, by omega⟩
    rw [hq]; simp [vsctr]
  refine hcalls_z8z 9 [(f, d)] (walk0 300 trivial (fun A eA => ?_))
  simp (disch := omega) only [go_sem, eA, scal1, nz_wrap, nz_sub1, nz_sub, nz_add1, nz_add, nz_mul2, zz15, zz16, vsat, vslen, vsset, vsset2, vsswp, ev7_len, ev7_all, ev7_frz, zz14, w1, w2]
  refine vsbuild hc hn (k := [.c c_z8z_k0]) trivial (b - a) a (by omega) _ _ D (by omega) hD ?_
  refine walk0 (its := [.c c_z8z_k0]) 300 trivial (fun A eA => ?_)
  simp (disch := omega) only [go_sem, eA, scal1, nz_wrap, nz_sub1, nz_sub, nz_add1, nz_add, nz_mul2, zz15, zz16, vsat, vslen, vsset, vsset2, vsswp, ev7_len, ev7_all, ev7_frz, zz14, w1, w2]
  rw [← w3]
  exact vspops hc hn (k := []) trivial a _ (b - a) _ (by omega) (by rw [vsszB]; exact hD) (vsendH (vssel _ _ _ _) rfl rfl)
end
section
variable {F : Nat} {f d g n : Nat}
theorem vsrev_loop (hn : n ≤ 1000) {k : List It} (hk : flat k) {R : List AV → Heap → Ctr → Prop} {φ : Nat} (nx : Ctr) : ∀ (m i j : Nat) (D : Array Ver), j - i ≤ m → j < n → i ≤ n → D.size = n →
    RunsX Try.prog φ R k e_z5z_0 (vsH f d g (reverseLoop i j D)) nx →
    RunsX Try.prog φ R (i_z5z_0 ++ k) (s_z5z_0 (.sl f d g 7 0 n) (.int .i64 (i : Nat)) (.int .i64 (j : Nat))) (vsH f d g D) nx := by
  intro m
  induction m with
  | zero =>
    intro i j D hm hj hi hD h
    rw [reverseLoop, if_neg (by omega)] at h
    refine round (its := [.blk 0 wb_z5z_0]) 300 hk trivial (fun A eA => ?_)
    simp (disch := omega) only [go_sem, eA, scal1, nz_wrap, nz_sub1, nz_sub, nz_add1, nz_add, nz_mul2, zz15, zz16, vsat, vslen, vsset, vsset2, vsswp, ev7_len, ev7_all, ev7_frz, zz14]
    exact h
  | succ m ih =>
    intro i j D hm hj hi hD h
    by_cases hij : i < j
    · rw [reverseLoop, if_pos hij] at h
      have ih := ih (i + 1) (j - 1) (swp D i j) (by omega) (by omega) (by omega) (by rw [size_swp]; exact hD) h
      refine round (its := [.blk 0 wb_z5z_0]) 300 hk trivial (fun A eA => ?_)
      simp (disch := omega) only [go_sem, eA, scal1, nz_wrap, nz_sub1, nz_sub, nz_add1, nz_add, nz_mul2, zz15, zz16, vsat, vslen, vsset, vsset2, vsswp, ev7_len, ev7_all, ev7_frz, zz14]
      exact ih
    · rw [reverseLoop, if_neg hij] at h
      refine round (its := [.blk 0 wb_z5z_0]) 300 hk trivial (fun A eA => ?_)
      simp (disch := omega) only [go_sem, eA, scal1, nz_wrap, nz_sub1, nz_sub, nz_add1, nz_add, nz_mul2, zz15, zz16, vsat, vslen, vsset, vsset2, vsswp, ev7_len, ev7_all, ev7_frz, zz14]
      exact h
theorem vsrev_h (hn : n ≤ 1000) (a b : Nat) (hab : a < b) (hb : b ≤ n) (D : Array Ver) (hD : D.size = n) (nx : Ctr) :
    HCalls Try.prog F_z5z [.sl f d g 7 0 n, .int .i64 (a : Nat), .int .i64 (b : Nat), .func F []] (vsH f d g D) nx (.tup []) (vsH f d g (reverseRange D a b)) nx := by
  refine hcalls_z5z 9 [(f, d)] (walk0 300 trivial (fun A eA => ?_))
  simp (disch := omega) only [go_sem, eA, scal1, nz_wrap, nz_sub1, nz_sub, nz_add1, nz_add, nz_mul2, zz15, zz16, vsat, vslen, vsset, vsset2, vsswp, ev7_len, ev7_all, ev7_frz, zz14]
  exact vsrev_loop hn (k := []) trivial _ _ a (b - 1) D (Nat.le_refl _) (by omega) (by omega) hD (vsendH (vssel _ _ _ _) rfl rfl)
end
end Go.Proofs.Ytmokhopjnjecbac
/- The library's sort at elements of 7 cells: the choice of the pivot; patterns are broken. Printed by a program of mine (sortgen.py). -/
-- short
-- om
-- fuel 300
namespace Go.Proofs.Ytmokhopjnjecbac
open Go.Ev Go.Sort
set_option linter.unusedVariables false
set_option linter.unusedSimpArgs false
set_option linter.unusedSectionVars false
set_option maxRecDepth 100000
set_option maxHeartbeats 3200000
/-- The row behind a count of one's own. -/
abbrev vsH2 (gs s f d g : Nat) (D : Array Ver) : Heap := [(8, 11, gs, some [.int .i64 (s : Nat)]), (f, d, g, some (rowC ev7 D))]
theorem vsnz4 (x : Nat) : ((x : Nat) : Int).tdiv 4 = ((x / 4 : Nat) : Int) := by rw [Int.tdiv_eq_ediv_of_nonneg (by omega)]; omega
theorem vsnzm1 (x : Nat) : ((x : Nat) : Int) * 1 = ((x * 1 : Nat) : Int) := by omega
theorem vsnzm2 (x : Nat) : ((x : Nat) : Int) * 2 = ((x * 2 : Nat) : Int) := by omega
theorem vsnzm3 (x : Nat) : ((x : Nat) : Int) * 3 = ((x * 3 : Nat) : Int) := by omega
theorem vso2lt (lt : Ver → Ver → Bool) (D : Array Ver) {n a b : Nat} (s : Nat) (ha : a < n) (hb : b < n) : (order2 lt D a b s).1 < n ∧ (order2 lt D a b s).2.1 < n ∧ (order2 lt D a b s).2.2 ≤ s + 1 := by
  unfold order2; split <;> simp <;> omega
section
variable {F : Nat} {c : Ver → Ver → Int} (hc : vsCmp F c) {f d g n : Nat}
include hc
theorem vsorder2_h (hd : 11 < d) (hn : n ≤ 1000) (a b s gs : Nat) (ha : a < n) (hb : b < n) (hs : s ≤ 100) (D : Array Ver) (hD : D.size = n) (nx : Ctr) :
    HCalls Try.prog F_z12z [.sl f d g 7 0 n, .int .i64 (a : Nat), .int .i64 (b : Nat), .ptr 8 11 gs 0, .func F []] (vsH2 gs s f d g D) nx
      (.tup [.int .i64 ((order2 (vslt c) D a b s).1 : Nat), .int .i64 ((order2 (vslt c) D a b s).2.1 : Nat)]) (vsH2 gs (order2 (vslt c) D a b s).2.2 f d g D) nx := by
  have hc1 := hc.calls D[b]! D[a]!
  cases hl : vslt c D[b]! D[a]! with
  | true =>
    have hl' := vsltT hl
    have e : order2 (vslt c) D a b s = (b, a, s + 1) := by unfold order2; rw [hl]; rfl
    rw [e]
    refine hcalls_z12z 9 [(8, 11), (f, d)] (walk0 300 trivial (fun A eA => ?_))
    simp (disch := omega) only [go_sem, eA, scal1, nz_wrap, nz_sub1, nz_sub, nz_add1, nz_add, nz_mul2, zz15, zz16, vsat, vslen, vsset, vsset2, vsswp, ev7_len, ev7_all, ev7_frz, zz14]
    refine call0 300 trivial trivial hc1 (.inl rfl) (fun A eA => ?_)
    simp (disch := omega) only [go_sem, eA, scal1, nz_wrap, nz_sub1, nz_sub, nz_add1, nz_add, nz_mul2, zz15, zz16, vsat, vslen, vsset, vsset2, vsswp, ev7_len, ev7_all, ev7_frz, zz14, List.all_cons, List.all_nil]
    exact doneH (by simp (disch := omega) only [go_sem]) rfl rfl
  | false =>
    have hl' := vsltF hl
    have e : order2 (vslt c) D a b s = (a, b, s) := by unfold order2; rw [hl]; rfl
    rw [e]
    refine hcalls_z12z 9 [(8, 11), (f, d)] (walk0 300 trivial (fun A eA => ?_))
    simp (disch := omega) only [go_sem, eA, scal1, nz_wrap, nz_sub1, nz_sub, nz_add1, nz_add, nz_mul2, zz15, zz16, vsat, vslen, vsset, vsset2, vsswp, ev7_len, ev7_all, ev7_frz, zz14]
    refine call0 300 trivial trivial hc1 (.inl rfl) (fun A eA => ?_)
    simp (disch := omega) only [go_sem, eA, scal1, nz_wrap, nz_sub1, nz_sub, nz_add1, nz_add, nz_mul2, zz15, zz16, vsat, vslen, vsset, vsset2, vsswp, ev7_len, ev7_all, ev7_frz, zz14]
    exact doneH (by simp (disch := omega) only [go_sem]) rfl rfl
theorem vsmedian_h (hd : 11 < d) (hn : n ≤ 1000) (a b q s gs : Nat) (ha : a < n) (hb : b < n) (hq : q < n) (hs : s ≤ 50) (D : Array Ver) (hD : D.size = n) (nx : Ctr) :
    HCalls Try.prog F_z11z [.sl f d g 7 0 n, .int .i64 (a : Nat), .int .i64 (b : Nat), .int .i64 (q : Nat), .ptr 8 11 gs 0, .func F []] (vsH2 gs s f d g D) nx
      (.int .i64 ((median (vslt c) D a b q s).1 : Nat)) (vsH2 gs (median (vslt c) D a b q s).2 f d g D) nx := by
  obtain ⟨a1, a2, a3⟩ := vso2lt (vslt c) D s ha hb
  have c1 := vsorder2_h (f := f) (g := g) hc hd hn a b s gs ha hb (by omega) D hD nx
  unfold median
  generalize order2 (vslt c) D a b s = r1 at *
  obtain ⟨b1, b2, b3⟩ := vso2lt (vslt c) D r1.2.2 a2 hq
  have c2 := vsorder2_h (f := f) (g := g) hc hd hn r1.2.1 q r1.2.2 gs a2 hq (by omega) D hD nx
  simp only
  generalize order2 (vslt c) D r1.2.1 q r1.2.2 = r2 at *
  have c3 := vsorder2_h (f := f) (g := g) hc hd hn r1.1 r2.1 r2.2.2 gs a1 b1 (by omega) D hD nx
  generalize order2 (vslt c) D r1.1 r2.1 r2.2.2 = r3 at *
  refine hcalls_z11z 7 [(8, 11), (f, d)] (walk0 300 trivial (fun A eA => ?_))
  simp (disch := omega) only [go_sem, eA, scal1, nz_wrap, nz_sub1, nz_sub, nz_add1, nz_add, nz_mul2, zz15, zz16, vsat, vslen, vsset, vsset2, vsswp, ev7_len, ev7_all, ev7_frz, zz14]
  refine call2 300 trivial trivial [(8, 11), (f, d)] (by simp (disch := omega) only [go_sem] <;> rfl) (by simp (disch := omega) only [go_sem] <;> rfl) c1 (.inl rfl) (fun A eA => ?_)
  simp (disch := omega) only [go_sem, eA, scal1, nz_wrap, nz_sub1, nz_sub, nz_add1, nz_add, nz_mul2, zz15, zz16, vsat, vslen, vsset, vsset2, vsswp, ev7_len, ev7_all, ev7_frz, zz14]
  refine call2 300 trivial trivial [(8, 11), (f, d)] (by simp (disch := omega) only [go_sem] <;> rfl) (by simp (disch := omega) only [go_sem] <;> rfl) c2 (.inl rfl) (fun A eA => ?_)
  simp (disch := omega) only [go_sem, eA, scal1, nz_wrap, nz_sub1, nz_sub, nz_add1, nz_add, nz_mul2, zz15, zz16, vsat, vslen, vsset, vsset2, vsswp, ev7_len, ev7_all, ev7_frz, zz14]
  refine call2 300 trivial trivial [(8, 11), (f, d)] (by simp (disch := omega) only [go_sem] <;> rfl) (by simp (disch := omega) only [go_sem] <;> rfl) c3 (.inl rfl) (fun A eA => ?_)
  simp (disch := omega) only [go_sem, eA, scal1, nz_wrap, nz_sub1, nz_sub, nz_add1, nz_add, nz_mul2, zz15, zz16, vsat, vslen, vsset, vsset2, vsswp, ev7_len, ev7_all, ev7_frz, zz14]
  exact doneH (by simp (disch := omega) only [go_sem]) rfl rfl
def vshc : Hint → Int
  | .unknown => 0
  | .increasing => 1
  | .decreasing => 2
theorem vschoose_h (hd : 11 < d) (hn : n < 50) (a b : Nat) (hab : a + 12 < b) (hb : b ≤ n) (D : Array Ver) (hD : D.size = n) (nx : Ctr) :
    HCalls Try.prog F_z6z [.sl f d g 7 0 n, .int .i64 (a : Nat), .int .i64 (b : Nat), .func F []] (vsH f d g D) nx
      (.tup [.int .i64 ((choosePivot (vslt c) D a b).1 : Nat), .int .i64 (vshc (choosePivot (vslt c) D a b).2)]) (vsH f d g D) (bump nx 11) := by
  have hq4 : (b - a) / 4 ≤ 12 ∧ (b - a) / 4 * 4 ≤ b - a := by omega
  have cm := vsmedian_h (f := f) (g := g) hc hd (by omega) (a + (b - a) / 4 * 1) (a + (b - a) / 4 * 2) (a + (b - a) / 4 * 3) 0 (nx 11) (by omega) (by omega) (by omega) (by omega) D hD (bump nx 11)
  have e : choosePivot (vslt c) D a b = ((median (vslt c) D (a + (b - a) / 4 * 1) (a + (b - a) / 4 * 2) (a + (b - a) / 4 * 3) 0).1, if (median (vslt c) D (a + (b - a) / 4 * 1) (a + (b - a) / 4 * 2) (a + (b - a) / 4 * 3) 0).2 = 0 then .increasing else if (median (vslt c) D (a + (b - a) / 4 * 1) (a + (b - a) / 4 * 2) (a + (b - a) / 4 * 3) 0).2 = 12 then .decreasing else .unknown) := by
    unfold choosePivot
    simp only
    rw [if_pos (by omega), if_neg (by omega)]
  rw [e]
  clear e
  simp only [Nat.mul_one] at cm ⊢
  generalize median (vslt c) D (a + (b - a) / 4) (a + (b - a) / 4 * 2) (a + (b - a) / 4 * 3) 0 = r at *
  refine hcalls_z6z 8 [(f, d)] (walk0 300 trivial (fun A eA => ?_))
  simp (disch := omega) only [go_sem, eA, scal1, nz_wrap, nz_sub1, nz_sub, nz_add1, nz_add, nz_mul2, zz15, zz16, vsat, vslen, vsset, vsset2, vsswp, ev7_len, ev7_all, ev7_frz, zz14, vsnz4, vsnzm1, vsnzm2, vsnzm3]
  refine call2 300 trivial trivial [(8, 11), (f, d)] (by simp (disch := omega) only [go_sem] <;> rfl) (by simp (disch := omega) only [go_sem] <;> rfl) cm (.inl rfl) (fun A eA => ?_)
  by_cases h0 : r.2 = 0
  · rw [if_pos h0]
    simp (disch := omega) only [go_sem, eA, scal1, nz_wrap, nz_sub1, nz_sub, nz_add1, nz_add, nz_mul2, zz15, zz16, vsat, vslen, vsset, vsset2, vsswp, ev7_len, ev7_all, ev7_frz, zz14]
    exact doneH (by simp (disch := omega) only [go_sem]) rfl rfl
  · rw [if_neg h0]
    by_cases h12 : r.2 = 12
    · rw [if_pos h12]
      simp (disch := omega) only [go_sem, eA, scal1, nz_wrap, nz_sub1, nz_sub, nz_add1, nz_add, nz_mul2, zz15, zz16, vsat, vslen, vsset, vsset2, vsswp, ev7_len, ev7_all, ev7_frz, zz14]
      exact doneH (by simp (disch := omega) only [go_sem]) rfl rfl
    · rw [if_neg h12]
      simp (disch := omega) only [go_sem, eA, scal1, nz_wrap, nz_sub1, nz_sub, nz_add1, nz_add, nz_mul2, zz15, zz16, vsat, vslen, vsset, vsset2, vsswp, ev7_len, ev7_all, ev7_frz, zz14]
      exact doneH (by simp (disch := omega) only [go_sem]) rfl rfl
end
end Go.Proofs.Ytmokhopjnjecbac
/- The library's sort at elements of 7 cells: patterns are broken. Printed by a program of mine (sortgen.py). -/
-- short
-- om
-- fuel 300
namespace Go.Proofs.Ytmokhopjnjecbac
open Go.Ev Go.Sort
set_option linter.unusedVariables false
set_option linter.unusedSimpArgs false
set_option linter.unusedSectionVars false
set_option maxRecDepth 100000
set_option maxHeartbeats 3200000
theorem vsishl (r : UInt64) (q : Nat) (hq : q < 64) : ishl .u64 (r.toNat : Int) (q : Int) = ((r <<< (UInt64.ofNat q)).toNat : Int) := by
  have h1 : min (Int.toNat (q : Int)) IntKind.u64.bits = q := by rw [zz16]; exact Nat.min_eq_left (by show q ≤ 64; omega)
  have h2 : (UInt64.ofNat q).toNat % 64 = q := by rw [UInt64.toNat_ofNat']; omega
  rw [UInt64.toNat_shiftLeft, h2, Nat.shiftLeft_eq]
  simp only [ishl, h1]
  have e : (r.toNat : Int) * 2 ^ q = ((r.toNat * 2 ^ q : Nat) : Int) := by simp
  rw [e]
  simp only [IntKind.wrap, show IntKind.u64.signed = false from rfl, Bool.false_and, Bool.false_eq_true, if_false]
  have e2 : ((2 : Int) ^ IntKind.u64.bits) = ((2 ^ 64 : Nat) : Int) := by decide
  rw [e2, ← Int.natCast_emod]
theorem vsishr (r : UInt64) (q : Nat) (hq : q < 64) : ishr .u64 (r.toNat : Int) (q : Int) = ((r >>> (UInt64.ofNat q)).toNat : Int) := by
  have h2 : (UInt64.ofNat q).toNat % 64 = q := by rw [UInt64.toNat_ofNat']; omega
  rw [UInt64.toNat_shiftRight, h2, Nat.shiftRight_eq_div_pow]
  exact ishr_nat .u64 .u64 r.toNat q (by show q ≤ 64; omega)
theorem vsixor (r s : UInt64) : ibits .xor .u64 (r.toNat : Int) (s.toNat : Int) = ((r ^^^ s).toNat : Int) := by
  rw [UInt64.toNat_xor]
  exact ibits_xor .u64 rfl _ _ r.toNat_lt s.toNat_lt
theorem vsnext_h (r : UInt64) (f d g : Nat) (nx : Ctr) : HCalls Try.prog F_slices_xorshift_Next [.ptr f d g 0] [(f, d, g, some [.int .u64 (r.toNat : Nat)])] nx (.int .u64 ((xorNext r).toNat : Nat)) [(f, d, g, some [.int .u64 ((xorNext r).toNat : Nat)])] nx := by
  have s1 := vsishl r 13 (by decide)
  have x1 := vsixor r (r <<< 13)
  have s2 := vsishr (r ^^^ (r <<< 13)) 7 (by decide)
  have x2 := vsixor (r ^^^ (r <<< 13)) ((r ^^^ (r <<< 13)) >>> 7)
  have s3 := vsishl ((r ^^^ (r <<< 13)) ^^^ ((r ^^^ (r <<< 13)) >>> 7)) 17 (by decide)
  have x3 := vsixor ((r ^^^ (r <<< 13)) ^^^ ((r ^^^ (r <<< 13)) >>> 7)) (((r ^^^ (r <<< 13)) ^^^ ((r ^^^ (r <<< 13)) >>> 7)) <<< 17)
  have e : xorNext r = ((r ^^^ (r <<< 13)) ^^^ ((r ^^^ (r <<< 13)) >>> 7)) ^^^ (((r ^^^ (r <<< 13)) ^^^ ((r ^^^ (r <<< 13)) >>> 7)) <<< 17) := rfl
  rw [e]
  simp only [show UInt64.ofNat 13 = 13 from rfl, show UInt64.ofNat 7 = 7 from rfl, show UInt64.ofNat 17 = 17 from rfl] at s1 s2 s3
  simp only [show (((13 : Nat)) : Int) = 13 from rfl, show (((7 : Nat)) : Int) = 7 from rfl, show (((17 : Nat)) : Int) = 17 from rfl] at s1 s2 s3
  generalize r <<< 13 = a1 at *
  generalize r ^^^ a1 = a2 at *
  generalize a2 >>> 7 = a3 at *
  generalize a2 ^^^ a3 = a4 at *
  generalize a4 <<< 17 = a5 at *
  refine hcalls_slices_xorshift_Next 6 [(f, d)] (walk0 300 trivial (fun A eA => ?_))
  simp (disch := omega) only [c_slices_xorshift_Next, go_sem, eA, scal1, s1, x1, s2, x2, s3, x3, List.all_cons, List.all_nil]
  exact doneH (by simp (disch := omega) only [go_sem]) rfl rfl
theorem vslen64 : ∀ x : Nat, x < 50 → PCalls Try.prog F_math_bits_Len64 [.int .u64 (x : Nat)] (.int .i64 (bitsLen x : Nat))
  | 0, _ => evalF_calls (T := tabOf tab_CdSort) (n := 300) tok_CdSort (by kernel_rfl)
  | 1, _ => evalF_calls (T := tabOf tab_CdSort) (n := 300) tok_CdSort (by kernel_rfl)
  | 2, _ => evalF_calls (T := tabOf tab_CdSort) (n := 300) tok_CdSort (by kernel_rfl)
  | 3, _ => evalF_calls (T := tabOf tab_CdSort) (n := 300) tok_CdSort (by kernel_rfl)
  | 4, _ => evalF_calls (T := tabOf tab_CdSort) (n := 300) tok_CdSort (by kernel_rfl)
  | 5, _ => evalF_calls (T := tabOf tab_CdSort) (n := 300) tok_CdSort (by kernel_rfl)
  | 6, _ => evalF_calls (T := tabOf tab_CdSort) (n := 300) tok_CdSort (by kernel_rfl)
  | 7, _ => evalF_calls (T := tabOf tab_CdSort) (n := 300) tok_CdSort (by kernel_rfl)
  | 8, _ => evalF_calls (T := tabOf tab_CdSort) (n := 300) tok_CdSort (by kernel_rfl)
  | 9, _ => evalF_calls (T := tabOf tab_CdSort) (n := 300) tok_CdSort (by kernel_rfl)
  | 10, _ => evalF_calls (T := tabOf tab_CdSort) (n := 300) tok_CdSort (by kernel_rfl)
  | 11, _ => evalF_calls (T := tabOf tab_CdSort) (n := 300) tok_CdSort (by kernel_rfl)
  | 12, _ => evalF_calls (T := tabOf tab_CdSort) (n := 300) tok_CdSort (by kernel_rfl)
  | 13, _ => evalF_calls (T := tabOf tab_CdSort) (n := 300) tok_CdSort (by kernel_rfl)
  | 14, _ => evalF_calls (T := tabOf tab_CdSort) (n := 300) tok_CdSort (by kernel_rfl)
  | 15, _ => evalF_calls (T := tabOf tab_CdSort) (n := 300) tok_CdSort (by kernel_rfl)
  | 16, _ => evalF_calls (T := tabOf tab_CdSort) (n := 300) tok_CdSort (by kernel_rfl)
  | 17, _ => evalF_calls (T := tabOf tab_CdSort) (n := 300) tok_CdSort (by kernel_rfl)
  | 18, _ => evalF_calls (T := tabOf tab_CdSort) (n := 300) tok_CdSort (by kernel_rfl)
  | 19, _ => evalF_calls (T := tabOf tab_CdSort) (n := 300) tok_CdSort (by kernel_rfl)
  | 20, _ => evalF_calls (T := tabOf tab_CdSort) (n := 300) tok_CdSort (by kernel_rfl)
  | 21, _ => evalF_calls (T := tabOf tab_CdSort) (n := 300) tok_CdSort (by kernel_rfl)
  | 22, _ => evalF_calls (T := tabOf tab_CdSort) (n := 300) tok_CdSort (by kernel_rfl)
  | 23, _ => evalF_calls (T := tabOf tab_CdSort) (n := 300) tok_CdSort (by kernel_rfl)
  | 24, _ => evalF_calls (T := tabOf tab_CdSort) (n := 300) tok_CdSort (by kernel_rfl)
  | 25, _ => evalF_calls (T := tabOf tab_CdSort) (n := 300) tok_CdSort (by kernel_rfl)
  | 26, _ => evalF_calls (T := tabOf tab_CdSort) (n := 300) tok_CdSort (by kernel_rfl)
  | 27, _ => evalF_calls (T := tabOf tab_CdSort) (n := 300) tok_CdSort (by kernel_rfl)
  | 28, _ => evalF_calls (T := tabOf tab_CdSort) (n := 300) tok_CdSort (by kernel_rfl)
  | 29, _ => evalF_calls (T := tabOf tab_CdSort) (n := 300) tok_CdSort (by kernel_rfl)
  | 30, _ => evalF_calls (T := tabOf tab_CdSort) (n := 300) tok_CdSort (by kernel_rfl)
  | 31, _ => evalF_calls (T := tabOf tab_CdSort) (n := 300) tok_CdSort (by kernel_rfl)
  | 32, _ => evalF_calls (T := tabOf tab_CdSort) (n := 300) tok_CdSort (by kernel_rfl)
  | 33, _ => evalF_calls (T := tabOf tab_CdSort) (n := 300) tok_CdSort (by kernel_rfl)
  | 34, _ => evalF_calls (T := tabOf tab_CdSort) (n := 300) tok_CdSort (by kernel_rfl)
  | 35, _ => evalF_calls (T := tabOf tab_CdSort) (n := 300) tok_CdSort (by kernel_rfl)
  | 36, _ => evalF_calls (T := tabOf tab_CdSort) (n := 300) tok_CdSort (by kernel_rfl)
  | 37, _ => evalF_calls (T := tabOf tab_CdSort) (n := 300) tok_CdSort (by kernel_rfl)
  | 38, _ => evalF_calls (T := tabOf tab_CdSort) (n := 300) tok_CdSort (by kernel_rfl)
  | 39, _ => evalF_calls (T := tabOf tab_CdSort) (n := 300) tok_CdSort (by kernel_rfl)
  | 40, _ => evalF_calls (T := tabOf tab_CdSort) (n := 300) tok_CdSort (by kernel_rfl)
  | 41, _ => evalF_calls (T := tabOf tab_CdSort) (n := 300) tok_CdSort (by kernel_rfl)
  | 42, _ => evalF_calls (T := tabOf tab_CdSort) (n := 300) tok_CdSort (by kernel_rfl)
  | 43, _ => evalF_calls (T := tabOf tab_CdSort) (n := 300) tok_CdSort (by kernel_rfl)
  | 44, _ => evalF_calls (T := tabOf tab_CdSort) (n := 300) tok_CdSort (by kernel_rfl)
  | 45, _ => evalF_calls (T := tabOf tab_CdSort) (n := 300) tok_CdSort (by kernel_rfl)
  | 46, _ => evalF_calls (T := tabOf tab_CdSort) (n := 300) tok_CdSort (by kernel_rfl)
  | 47, _ => evalF_calls (T := tabOf tab_CdSort) (n := 300) tok_CdSort (by kernel_rfl)
  | 48, _ => evalF_calls (T := tabOf tab_CdSort) (n := 300) tok_CdSort (by kernel_rfl)
  | 49, _ => evalF_calls (T := tabOf tab_CdSort) (n := 300) tok_CdSort (by kernel_rfl)
  | _ + 50, h => absurd h (by omega)
theorem vsblen (x : Nat) (hx : x < 50) : PCalls Try.prog F_math_bits_Len [.int .u64 (x : Nat)] (.int .i64 (bitsLen x : Nat)) := by
  have c1 := vslen64 x hx
  refine calls_math_bits_Len (walk0 300 trivial (fun A eA => ?_))
  simp (disch := omega) only [c_math_bits_Len, go_sem, eA, scal1]
  refine call0 300 trivial trivial c1 (.inl rfl) (fun A eA => ?_)
  simp (disch := omega) only [c_math_bits_Len, go_sem, eA, scal1]
  exact doneG rfl
theorem vspow : ∀ x : Nat, x < 50 → 1 ≤ x → bitsLen x ≤ 6 ∧ 1 <<< bitsLen x ≤ 2 * x := by decide +kernel
theorem vsnpow (x : Nat) (hx : x < 50) (h1 : 1 ≤ x) : PCalls Try.prog F_z17z [.int .i64 (x : Nat)] (.int .u64 ((1 <<< bitsLen x : Nat) : Nat)) := by
  have c1 := vsblen x hx
  have w1 : IntKind.u64.wrap (x : Int) = (x : Int) := wrap_nat .u64 rfl x (by show x < 2 ^ 64; omega)
  obtain ⟨h2, h3⟩ := vspow x hx h1
  have s1 : ishl .u64 1 ((bitsLen x : Nat) : Int) = ((1 <<< bitsLen x : Nat) : Int) := by
    have := vsishl 1 (bitsLen x) (by omega)
    rw [show (((1 : UInt64).toNat : Nat) : Int) = 1 from rfl] at this
    rw [this, UInt64.toNat_shiftLeft]
    have e : (UInt64.ofNat (bitsLen x)).toNat % 64 = bitsLen x := by rw [UInt64.toNat_ofNat']; omega
    rw [e, show (1 : UInt64).toNat = 1 from rfl, Nat.mod_eq_of_lt (by omega)]
  refine calls_z17z (walk0 300 trivial (fun A eA => ?_))
  simp (disch := omega) only [c_z17z, go_sem, eA, scal1, w1]
  refine call0 300 trivial trivial c1 (.inl rfl) (fun A eA => ?_)
  simp (disch := omega) only [c_z17z, go_sem, eA, scal1, s1]
  exact doneG rfl
end Go.Proofs.Ytmokhopjnjecbac
/- The library's sort at elements of 7 cells: the scans. Printed by programs of mine (mk6.py, sortgen.py). -/
-- short
-- om
-- fuel 300
namespace Go.Proofs.Ytmokhopjnjecbac
open Go.Ev Go.Sort
set_option linter.unusedVariables false
set_option linter.unusedSimpArgs false
set_option linter.unusedSectionVars false
set_option maxRecDepth 100000
set_option maxHeartbeats 3200000
section
variable {F : Nat} {c : Ver → Ver → Int} (hc : vsCmp F c) {f d g n : Nat} {k : List It} (hk : flat k) {R : List AV → Heap → Ctr → Prop} {φ : Nat}
include hc hk
theorem vsup_partition_0 (hn : n ≤ 1000) (a j : Nat) (ha : a < n) (hj : j < n) (D : Array Ver) (hD : D.size = n) (nx : Ctr) : ∀ (m i : Nat), j + 1 - i ≤ m → i ≤ n →
    RunsX Try.prog φ R k (e_z7z_0 (.sl f d g 7 0 n) (.int .i64 (a : Nat)) (.func F []) (.int .i64 (scanUp (fun x => vslt c x D[a]!) D j i : Nat)) (.int .i64 (j : Nat))) (vsH f d g D) nx →
    RunsX Try.prog φ R (i_z7z_0 ++ k) (s_z7z_0 (.sl f d g 7 0 n) (.int .i64 (a : Nat)) (.func F []) (.int .i64 (i : Nat)) (.int .i64 (j : Nat))) (vsH f d g D) nx := by
  intro m
  induction m with
  | zero =>
    intro i hm hi h
    rw [scanUp, if_neg (by simp; intro h; omega)] at h
    refine round (its := [.blk 0 wb_z7z_0]) 300 hk trivial (fun A eA => ?_)
    simp (disch := omega) only [go_sem, eA, scal1, nz_wrap, nz_sub1, nz_sub, nz_add1, nz_add, nz_mul2, zz15, zz16, vsat, vslen, vsset, vsset2, vsswp, ev7_len, ev7_all, ev7_frz, zz14]
    exact h
  | succ m ih =>
    intro i hm hi h
    by_cases hij : i ≤ j
    · have hc1 := hc.calls D[i]! D[a]!
      cases hl : vslt c D[i]! D[a]! with
      | true =>
        have hl' := vsltT hl
        rw [scanUp, if_pos (by simp [hl, hij])] at h
        have ih := ih (i + 1) (by omega) (by omega) h
        refine round (its := [.blk 0 wb_z7z_0]) 300 hk trivial (fun A eA => ?_)
        simp (disch := omega) only [go_sem, eA, scal1, nz_wrap, nz_sub1, nz_sub, nz_add1, nz_add, nz_mul2, zz15, zz16, vsat, vslen, vsset, vsset2, vsswp, ev7_len, ev7_all, ev7_frz, zz14]
        refine call0 300 hk trivial hc1 (.inl rfl) (fun A eA => ?_)
        simp (disch := omega) only [go_sem, eA, scal1, nz_wrap, nz_sub1, nz_sub, nz_add1, nz_add, nz_mul2, zz15, zz16, vsat, vslen, vsset, vsset2, vsswp, ev7_len, ev7_all, ev7_frz, zz14]
        exact ih
      | false =>
        have hl' := vsltF hl
        rw [scanUp, if_neg (by simp [hl])] at h
        refine round (its := [.blk 0 wb_z7z_0]) 300 hk trivial (fun A eA => ?_)
        simp (disch := omega) only [go_sem, eA, scal1, nz_wrap, nz_sub1, nz_sub, nz_add1, nz_add, nz_mul2, zz15, zz16, vsat, vslen, vsset, vsset2, vsswp, ev7_len, ev7_all, ev7_frz, zz14]
        refine call0 300 hk trivial hc1 (.inl rfl) (fun A eA => ?_)
        simp (disch := omega) only [go_sem, eA, scal1, nz_wrap, nz_sub1, nz_sub, nz_add1, nz_add, nz_mul2, zz15, zz16, vsat, vslen, vsset, vsset2, vsswp, ev7_len, ev7_all, ev7_frz, zz14]
        exact h
    · rw [scanUp, if_neg (by simp; intro h; omega)] at h
      refine round (its := [.blk 0 wb_z7z_0]) 300 hk trivial (fun A eA => ?_)
      simp (disch := omega) only [go_sem, eA, scal1, nz_wrap, nz_sub1, nz_sub, nz_add1, nz_add, nz_mul2, zz15, zz16, vsat, vslen, vsset, vsset2, vsswp, ev7_len, ev7_all, ev7_frz, zz14]
      exact h
theorem vsup_partition_6 (hn : n ≤ 1000) (a j : Nat) (ha : a < n) (hj : j < n) (D : Array Ver) (hD : D.size = n) (nx : Ctr) : ∀ (m i : Nat), j + 1 - i ≤ m → i ≤ n →
    RunsX Try.prog φ R k (e_z7z_6 (.sl f d g 7 0 n) (.int .i64 (a : Nat)) (.func F []) (.int .i64 (scanUp (fun x => vslt c x D[a]!) D j i : Nat)) (.int .i64 (j : Nat))) (vsH f d g D) nx →
    RunsX Try.prog φ R (i_z7z_6 ++ k) (s_z7z_6 (.sl f d g 7 0 n) (.int .i64 (a : Nat)) (.func F []) (.int .i64 (i : Nat)) (.int .i64 (j : Nat))) (vsH f d g D) nx := by
  intro m
  induction m with
  | zero =>
    intro i hm hi h
    rw [scanUp, if_neg (by simp; intro h; omega)] at h
    refine round (its := [.blk 6 wb_z7z_6]) 300 hk trivial (fun A eA => ?_)
    simp (disch := omega) only [go_sem, eA, scal1, nz_wrap, nz_sub1, nz_sub, nz_add1, nz_add, nz_mul2, zz15, zz16, vsat, vslen, vsset, vsset2, vsswp, ev7_len, ev7_all, ev7_frz, zz14]
    exact h
  | succ m ih =>
    intro i hm hi h
    by_cases hij : i ≤ j
    · have hc1 := hc.calls D[i]! D[a]!
      cases hl : vslt c D[i]! D[a]! with
      | true =>
        have hl' := vsltT hl
        rw [scanUp, if_pos (by simp [hl, hij])] at h
        have ih := ih (i + 1) (by omega) (by omega) h
        refine round (its := [.blk 6 wb_z7z_6]) 300 hk trivial (fun A eA => ?_)
        simp (disch := omega) only [go_sem, eA, scal1, nz_wrap, nz_sub1, nz_sub, nz_add1, nz_add, nz_mul2, zz15, zz16, vsat, vslen, vsset, vsset2, vsswp, ev7_len, ev7_all, ev7_frz, zz14]
        refine call0 300 hk trivial hc1 (.inl rfl) (fun A eA => ?_)
        simp (disch := omega) only [go_sem, eA, scal1, nz_wrap, nz_sub1, nz_sub, nz_add1, nz_add, nz_mul2, zz15, zz16, vsat, vslen, vsset, vsset2, vsswp, ev7_len, ev7_all, ev7_frz, zz14]
        exact ih
      | false =>
        have hl' := vsltF hl
        rw [scanUp, if_neg (by simp [hl])] at h
        refine round (its := [.blk 6 wb_z7z_6]) 300 hk trivial (fun A eA => ?_)
        simp (disch := omega) only [go_sem, eA, scal1, nz_wrap, nz_sub1, nz_sub, nz_add1, nz_add, nz_mul2, zz15, zz16, vsat, vslen, vsset, vsset2, vsswp, ev7_len, ev7_all, ev7_frz, zz14]
        refine call0 300 hk trivial hc1 (.inl rfl) (fun A eA => ?_)
        simp (disch := omega) only [go_sem, eA, scal1, nz_wrap, nz_sub1, nz_sub, nz_add1, nz_add, nz_mul2, zz15, zz16, vsat, vslen, vsset, vsset2, vsswp, ev7_len, ev7_all, ev7_frz, zz14]
        exact h
    · rw [scanUp, if_neg (by simp; intro h; omega)] at h
      refine round (its := [.blk 6 wb_z7z_6]) 300 hk trivial (fun A eA => ?_)
      simp (disch := omega) only [go_sem, eA, scal1, nz_wrap, nz_sub1, nz_sub, nz_add1, nz_add, nz_mul2, zz15, zz16, vsat, vslen, vsset, vsset2, vsswp, ev7_len, ev7_all, ev7_frz, zz14]
      exact h
theorem vsdown_partition_2 (hn : n ≤ 1000) (a i : Nat) (ha : a < n) (hi : 1 ≤ i) (D : Array Ver) (hD : D.size = n) (nx : Ctr) : ∀ (j : Nat), j < n →
    RunsX Try.prog φ R k (e_z7z_2 (.sl f d g 7 0 n) (.int .i64 (a : Nat)) (.func F []) (.int .i64 (i : Nat)) (.int .i64 (scanDown (fun x => !vslt c x D[a]!) D i j : Nat))) (vsH f d g D) nx →
    RunsX Try.prog φ R (i_z7z_2 ++ k) (s_z7z_2 (.sl f d g 7 0 n) (.int .i64 (a : Nat)) (.func F []) (.int .i64 (i : Nat)) (.int .i64 (j : Nat))) (vsH f d g D) nx := by
  intro j
  induction j with
  | zero =>
    intro hj h
    rw [scanDown] at h
    refine round (its := [.blk 2 wb_z7z_2]) 300 hk trivial (fun A eA => ?_)
    simp (disch := omega) only [go_sem, eA, scal1, nz_wrap, nz_sub1, nz_sub, nz_add1, nz_add, nz_mul2, zz15, zz16, vsat, vslen, vsset, vsset2, vsswp, ev7_len, ev7_all, ev7_frz, zz14]
    exact h
  | succ j ih =>
    intro hj h
    by_cases hij : i ≤ j + 1
    · have hc1 := hc.calls D[j + 1]! D[a]!
      cases hl : vslt c D[j + 1]! D[a]! with
      | false =>
        have hl' := vsltF hl
        rw [scanDown, if_pos (by simp [hl, hij])] at h
        have ih := ih (by omega) h
        refine round (its := [.blk 2 wb_z7z_2]) 300 hk trivial (fun A eA => ?_)
        simp (disch := omega) only [go_sem, eA, scal1, nz_wrap, nz_sub1, nz_sub, nz_add1, nz_add, nz_mul2, zz15, zz16, vsat, vslen, vsset, vsset2, vsswp, ev7_len, ev7_all, ev7_frz, zz14]
        refine call0 300 hk trivial hc1 (.inl rfl) (fun A eA => ?_)
        simp (disch := omega) only [go_sem, eA, scal1, nz_wrap, nz_sub1, nz_sub, nz_add1, nz_add, nz_mul2, zz15, zz16, vsat, vslen, vsset, vsset2, vsswp, ev7_len, ev7_all, ev7_frz, zz14]
        exact ih
      | true =>
        have hl' := vsltT hl
        rw [scanDown, if_neg (by simp [hl])] at h
        refine round (its := [.blk 2 wb_z7z_2]) 300 hk trivial (fun A eA => ?_)
        simp (disch := omega) only [go_sem, eA, scal1, nz_wrap, nz_sub1, nz_sub, nz_add1, nz_add, nz_mul2, zz15, zz16, vsat, vslen, vsset, vsset2, vsswp, ev7_len, ev7_all, ev7_frz, zz14]
        refine call0 300 hk trivial hc1 (.inl rfl) (fun A eA => ?_)
        simp (disch := omega) only [go_sem, eA, scal1, nz_wrap, nz_sub1, nz_sub, nz_add1, nz_add, nz_mul2, zz15, zz16, vsat, vslen, vsset, vsset2, vsswp, ev7_len, ev7_all, ev7_frz, zz14]
        exact h
    · rw [scanDown, if_neg (by simp; intro h; omega)] at h
      refine round (its := [.blk 2 wb_z7z_2]) 300 hk trivial (fun A eA => ?_)
      simp (disch := omega) only [go_sem, eA, scal1, nz_wrap, nz_sub1, nz_sub, nz_add1, nz_add, nz_mul2, zz15, zz16, vsat, vslen, vsset, vsset2, vsswp, ev7_len, ev7_all, ev7_frz, zz14]
      exact h
theorem vsdown_partition_8 (hn : n ≤ 1000) (a i : Nat) (ha : a < n) (hi : 1 ≤ i) (D : Array Ver) (hD : D.size = n) (nx : Ctr) : ∀ (j : Nat), j < n →
    RunsX Try.prog φ R k (e_z7z_8 (.sl f d g 7 0 n) (.int .i64 (a : Nat)) (.func F []) (.int .i64 (i : Nat)) (.int .i64 (scanDown (fun x => !vslt c x D[a]!) D i j : Nat))) (vsH f d g D) nx →
    RunsX Try.prog φ R (i_z7z_8 ++ k) (s_z7z_8 (.sl f d g 7 0 n) (.int .i64 (a : Nat)) (.func F []) (.int .i64 (i : Nat)) (.int .i64 (j : Nat))) (vsH f d g D) nx := by
  intro j
  induction j with
  | zero =>
    intro hj h
    rw [scanDown] at h
    refine round (its := [.blk 8 wb_z7z_8]) 300 hk trivial (fun A eA => ?_)
    simp (disch := omega) only [go_sem, eA, scal1, nz_wrap, nz_sub1, nz_sub, nz_add1, nz_add, nz_mul2, zz15, zz16, vsat, vslen, vsset, vsset2, vsswp, ev7_len, ev7_all, ev7_frz, zz14]
    exact h
  | succ j ih =>
    intro hj h
    by_cases hij : i ≤ j + 1
    · have hc1 := hc.calls D[j + 1]! D[a]!
      cases hl : vslt c D[j + 1]! D[a]! with
      | false =>
        have hl' := vsltF hl
        rw [scanDown, if_pos (by simp [hl, hij])] at h
        have ih := ih (by omega) h
        refine round (its := [.blk 8 wb_z7z_8]) 300 hk trivial (fun A eA => ?_)
        simp (disch := omega) only [go_sem, eA, scal1, nz_wrap, nz_sub1, nz_sub, nz_add1, nz_add, nz_mul2, zz15, zz16, vsat, vslen, vsset, vsset2, vsswp, ev7_len, ev7_all, ev7_frz, zz14]
        refine call0 300 hk trivial hc1 (.inl rfl) (fun A eA => ?_)
        simp (disch := omega) only [go_sem, eA, scal1, nz_wrap, nz_sub1, nz_sub, nz_add1, nz_add, nz_mul2, zz15, zz16, vsat, vslen, vsset, vsset2, vsswp, ev7_len, ev7_all, ev7_frz, zz14]
        exact ih
      | true =>
        have hl' := vsltT hl
        rw [scanDown, if_neg (by simp [hl])] at h
        refine round (its := [.blk 8 wb_z7z_8]) 300 hk trivial (fun A eA => ?_)
        simp (disch := omega) only [go_sem, eA, scal1, nz_wrap, nz_sub1, nz_sub, nz_add1, nz_add, nz_mul2, zz15, zz16, vsat, vslen, vsset, vsset2, vsswp, ev7_len, ev7_all, ev7_frz, zz14]
        refine call0 300 hk trivial hc1 (.inl rfl) (fun A eA => ?_)
        simp (disch := omega) only [go_sem, eA, scal1, nz_wrap, nz_sub1, nz_sub, nz_add1, nz_add, nz_mul2, zz15, zz16, vsat, vslen, vsset, vsset2, vsswp, ev7_len, ev7_all, ev7_frz, zz14]
        exact h
    · rw [scanDown, if_neg (by simp; intro h; omega)] at h
      refine round (its := [.blk 8 wb_z7z_8]) 300 hk trivial (fun A eA => ?_)
      simp (disch := omega) only [go_sem, eA, scal1, nz_wrap, nz_sub1, nz_sub, nz_add1, nz_add, nz_mul2, zz15, zz16, vsat, vslen, vsset, vsset2, vsswp, ev7_len, ev7_all, ev7_frz, zz14]
      exact h
theorem vsup_partitionEqual_2 (hn : n ≤ 1000) (a j : Nat) (ha : a < n) (hj : j < n) (D : Array Ver) (hD : D.size = n) (nx : Ctr) : ∀ (m i : Nat), j + 1 - i ≤ m → i ≤ n →
    RunsX Try.prog φ R k (e_z1z_2 (.sl f d g 7 0 n) (.int .i64 (a : Nat)) (.func F []) (.int .i64 (scanUp (fun x => !vslt c D[a]! x) D j i : Nat)) (.int .i64 (j : Nat))) (vsH f d g D) nx →
    RunsX Try.prog φ R (i_z1z_2 ++ k) (s_z1z_2 (.sl f d g 7 0 n) (.int .i64 (a : Nat)) (.func F []) (.int .i64 (i : Nat)) (.int .i64 (j : Nat))) (vsH f d g D) nx := by
  intro m
  induction m with
  | zero =>
    intro i hm hi h
    rw [scanUp, if_neg (by simp; intro h; omega)] at h
    refine round (its := [.blk 2 wb_z1z_2]) 300 hk trivial (fun A eA => ?_)
    simp (disch := omega) only [go_sem, eA, scal1, nz_wrap, nz_sub1, nz_sub, nz_add1, nz_add, nz_mul2, zz15, zz16, vsat, vslen, vsset, vsset2, vsswp, ev7_len, ev7_all, ev7_frz, zz14]
    exact h
  | succ m ih =>
    intro i hm hi h
    by_cases hij : i ≤ j
    · have hc1 := hc.calls D[a]! D[i]!
      cases hl : vslt c D[a]! D[i]! with
      | false =>
        have hl' := vsltF hl
        rw [scanUp, if_pos (by simp [hl, hij])] at h
        have ih := ih (i + 1) (by omega) (by omega) h
        refine round (its := [.blk 2 wb_z1z_2]) 300 hk trivial (fun A eA => ?_)
        simp (disch := omega) only [go_sem, eA, scal1, nz_wrap, nz_sub1, nz_sub, nz_add1, nz_add, nz_mul2, zz15, zz16, vsat, vslen, vsset, vsset2, vsswp, ev7_len, ev7_all, ev7_frz, zz14]
        refine call0 300 hk trivial hc1 (.inl rfl) (fun A eA => ?_)
        simp (disch := omega) only [go_sem, eA, scal1, nz_wrap, nz_sub1, nz_sub, nz_add1, nz_add, nz_mul2, zz15, zz16, vsat, vslen, vsset, vsset2, vsswp, ev7_len, ev7_all, ev7_frz, zz14]
        exact ih
      | true =>
        have hl' := vsltT hl
        rw [scanUp, if_neg (by simp [hl])] at h
        refine round (its := [.blk 2 wb_z1z_2]) 300 hk trivial (fun A eA => ?_)
        simp (disch := omega) only [go_sem, eA, scal1, nz_wrap, nz_sub1, nz_sub, nz_add1, nz_add, nz_mul2, zz15, zz16, vsat, vslen, vsset, vsset2, vsswp, ev7_len, ev7_all, ev7_frz, zz14]
        refine call0 300 hk trivial hc1 (.inl rfl) (fun A eA => ?_)
        simp (disch := omega) only [go_sem, eA, scal1, nz_wrap, nz_sub1, nz_sub, nz_add1, nz_add, nz_mul2, zz15, zz16, vsat, vslen, vsset, vsset2, vsswp, ev7_len, ev7_all, ev7_frz, zz14]
        exact h
    · rw [scanUp, if_neg (by simp; intro h; omega)] at h
      refine round (its := [.blk 2 wb_z1z_2]) 300 hk trivial (fun A eA => ?_)
      simp (disch := omega) only [go_sem, eA, scal1, nz_wrap, nz_sub1, nz_sub, nz_add1, nz_add, nz_mul2, zz15, zz16, vsat, vslen, vsset, vsset2, vsswp, ev7_len, ev7_all, ev7_frz, zz14]
      exact h
theorem vsdown_partitionEqual_4 (hn : n ≤ 1000) (a i : Nat) (ha : a < n) (hi : 1 ≤ i) (D : Array Ver) (hD : D.size = n) (nx : Ctr) : ∀ (j : Nat), j < n →
    RunsX Try.prog φ R k (e_z1z_4 (.sl f d g 7 0 n) (.int .i64 (a : Nat)) (.func F []) (.int .i64 (i : Nat)) (.int .i64 (scanDown (fun x => vslt c D[a]! x) D i j : Nat))) (vsH f d g D) nx →
    RunsX Try.prog φ R (i_z1z_4 ++ k) (s_z1z_4 (.sl f d g 7 0 n) (.int .i64 (a : Nat)) (.func F []) (.int .i64 (i : Nat)) (.int .i64 (j : Nat))) (vsH f d g D) nx := by
  intro j
  induction j with
  | zero =>
    intro hj h
    rw [scanDown] at h
    refine round (its := [.blk 4 wb_z1z_4]) 300 hk trivial (fun A eA => ?_)
    simp (disch := omega) only [go_sem, eA, scal1, nz_wrap, nz_sub1, nz_sub, nz_add1, nz_add, nz_mul2, zz15, zz16, vsat, vslen, vsset, vsset2, vsswp, ev7_len, ev7_all, ev7_frz, zz14]
    exact h
  | succ j ih =>
    intro hj h
    by_cases hij : i ≤ j + 1
    · have hc1 := hc.calls D[a]! D[j + 1]!
      cases hl : vslt c D[a]! D[j + 1]! with
      | true =>
        have hl' := vsltT hl
        rw [scanDown, if_pos (by simp [hl, hij])] at h
        have ih := ih (by omega) h
        refine round (its := [.blk 4 wb_z1z_4]) 300 hk trivial (fun A eA => ?_)
        simp (disch := omega) only [go_sem, eA, scal1, nz_wrap, nz_sub1, nz_sub, nz_add1, nz_add, nz_mul2, zz15, zz16, vsat, vslen, vsset, vsset2, vsswp, ev7_len, ev7_all, ev7_frz, zz14]
        refine call0 300 hk trivial hc1 (.inl rfl) (fun A eA => ?_)
        simp (disch := omega) only [go_sem, eA, scal1, nz_wrap, nz_sub1, nz_sub, nz_add1, nz_add, nz_mul2, zz15, zz16, vsat, vslen, vsset, vsset2, vsswp, ev7_len, ev7_all, ev7_frz, zz14]
        exact ih
      | false =>
        have hl' := vsltF hl
        rw [scanDown, if_neg (by simp [hl])] at h
        refine round (its := [.blk 4 wb_z1z_4]) 300 hk trivial (fun A eA => ?_)
        simp (disch := omega) only [go_sem, eA, scal1, nz_wrap, nz_sub1, nz_sub, nz_add1, nz_add, nz_mul2, zz15, zz16, vsat, vslen, vsset, vsset2, vsswp, ev7_len, ev7_all, ev7_frz, zz14]
        refine call0 300 hk trivial hc1 (.inl rfl) (fun A eA => ?_)
        simp (disch := omega) only [go_sem, eA, scal1, nz_wrap, nz_sub1, nz_sub, nz_add1, nz_add, nz_mul2, zz15, zz16, vsat, vslen, vsset, vsset2, vsswp, ev7_len, ev7_all, ev7_frz, zz14]
        exact h
    · rw [scanDown, if_neg (by simp; intro h; omega)] at h
      refine round (its := [.blk 4 wb_z1z_4]) 300 hk trivial (fun A eA => ?_)
      simp (disch := omega) only [go_sem, eA, scal1, nz_wrap, nz_sub1, nz_sub, nz_add1, nz_add, nz_mul2, zz15, zz16, vsat, vslen, vsset, vsset2, vsswp, ev7_len, ev7_all, ev7_frz, zz14]
      exact h
theorem vsup_partialIns (hn : n ≤ 1000) (a b : Nat) (hb : b ≤ n) (D : Array Ver) (hD : D.size = n) (q : AV) (nx : Ctr) : ∀ (m i : Nat), b - i ≤ m → 1 ≤ i → i ≤ 1001 →
    RunsX Try.prog φ R k (e_z0z_2 (.sl f d g 7 0 n) (.int .i64 (a : Nat)) (.int .i64 (b : Nat)) (.func F []) (.int .i64 (scanSorted (vslt c) D b i : Nat)) q) (vsH f d g D) nx →
    RunsX Try.prog φ R (i_z0z_2 ++ k) (s_z0z_2 (.sl f d g 7 0 n) (.int .i64 (a : Nat)) (.int .i64 (b : Nat)) (.func F []) (.int .i64 (i : Nat)) q) (vsH f d g D) nx := by
  intro m
  induction m with
  | zero =>
    intro i hm h1 hi h
    rw [scanSorted, if_neg (by simp; intro h; omega)] at h
    refine round (its := [.blk 2 wb_z0z_2]) 300 hk trivial (fun A eA => ?_)
    simp (disch := omega) only [go_sem, eA, scal1, nz_wrap, nz_sub1, nz_sub, nz_add1, nz_add, nz_mul2, zz15, zz16, vsat, vslen, vsset, vsset2, vsswp, ev7_len, ev7_all, ev7_frz, zz14]
    exact h
  | succ m ih =>
    intro i hm h1 hi h
    by_cases hib : i < b
    · have hc1 := hc.calls D[i]! D[i - 1]!
      cases hl : vslt c D[i]! D[i - 1]! with
      | false =>
        have hl' := vsltF hl
        rw [scanSorted, if_pos (by simp [hl, hib])] at h
        have ih := ih (i + 1) (by omega) (by omega) (by omega) h
        refine round (its := [.blk 2 wb_z0z_2]) 300 hk trivial (fun A eA => ?_)
        simp (disch := omega) only [go_sem, eA, scal1, nz_wrap, nz_sub1, nz_sub, nz_add1, nz_add, nz_mul2, zz15, zz16, vsat, vslen, vsset, vsset2, vsswp, ev7_len, ev7_all, ev7_frz, zz14]
        refine call0 300 hk trivial hc1 (.inl rfl) (fun A eA => ?_)
        simp (disch := omega) only [go_sem, eA, scal1, nz_wrap, nz_sub1, nz_sub, nz_add1, nz_add, nz_mul2, zz15, zz16, vsat, vslen, vsset, vsset2, vsswp, ev7_len, ev7_all, ev7_frz, zz14]
        exact ih
      | true =>
        have hl' := vsltT hl
        rw [scanSorted, if_neg (by simp [hl])] at h
        refine round (its := [.blk 2 wb_z0z_2]) 300 hk trivial (fun A eA => ?_)
        simp (disch := omega) only [go_sem, eA, scal1, nz_wrap, nz_sub1, nz_sub, nz_add1, nz_add, nz_mul2, zz15, zz16, vsat, vslen, vsset, vsset2, vsswp, ev7_len, ev7_all, ev7_frz, zz14]
        refine call0 300 hk trivial hc1 (.inl rfl) (fun A eA => ?_)
        simp (disch := omega) only [go_sem, eA, scal1, nz_wrap, nz_sub1, nz_sub, nz_add1, nz_add, nz_mul2, zz15, zz16, vsat, vslen, vsset, vsset2, vsswp, ev7_len, ev7_all, ev7_frz, zz14]
        exact h
    · rw [scanSorted, if_neg (by simp; intro h; omega)] at h
      refine round (its := [.blk 2 wb_z0z_2]) 300 hk trivial (fun A eA => ?_)
      simp (disch := omega) only [go_sem, eA, scal1, nz_wrap, nz_sub1, nz_sub, nz_add1, nz_add, nz_mul2, zz15, zz16, vsat, vslen, vsset, vsset2, vsswp, ev7_len, ev7_all, ev7_frz, zz14]
      exact h
end
end Go.Proofs.Ytmokhopjnjecbac
/- The library's sort at elements of 7 cells: the partitions. Printed by programs of mine (sortgen.py). -/
-- short
-- om
-- fuel 300
namespace Go.Proofs.Ytmokhopjnjecbac
open Go.Ev Go.Sort
set_option linter.unusedVariables false
set_option linter.unusedSimpArgs false
set_option linter.unusedSectionVars false
set_option maxRecDepth 100000
set_option maxHeartbeats 6400000
section
variable {F : Nat} {c : Ver → Ver → Int} (hc : vsCmp F c) {f d g n : Nat}
include hc
theorem vsploop (hn : n ≤ 1000) {k : List It} (hk : flat k) {R : List AV → Heap → Ctr → Prop} {φ : Nat} (a : Nat) (ha : a < n) (nx : Ctr) : ∀ (m i j : Nat) (D : Array Ver), j + 1 - i ≤ m → 1 ≤ i → i ≤ j + 1 → j < n → D.size = n →
    RunsX Try.prog φ R k (e_z7z_4 (.sl f d g 7 0 n) (.int .i64 (a : Nat)) (.int .i64 ((partLoop (vslt c) a i j D).1 : Nat))) (vsH f d g (partLoop (vslt c) a i j D).2) nx →
    RunsX Try.prog φ R (i_z7z_4 ++ k) (s_z7z_4 (.sl f d g 7 0 n) (.int .i64 (a : Nat)) (.func F []) (.int .i64 (i : Nat)) (.int .i64 (j : Nat))) (vsH f d g D) nx := by
  intro m
  induction m with
  | zero =>
    intro i j D hm h1 hij hj hD h
    have hu := scanUp_spec (fun x => vslt c x D[a]!) D j _ i rfl
    have hw := scanDown_spec (fun x => !vslt c x D[a]!) D (scanUp (fun x => vslt c x D[a]!) D j i) j
    rw [partLoop_eq] at h
    refine round (its := [.blk 4 wb_z7z_4]) 300 hk trivial (fun A eA => ?_)
    simp (disch := omega) only [go_sem, eA, scal1, nz_wrap, nz_sub1, nz_sub, nz_add1, nz_add, nz_mul2, zz15, zz16, vsat, vslen, vsset, vsset2, vsswp, ev7_len, ev7_all, ev7_frz, zz14]
    refine vsup_partition_6 hc (k := .c c_z7z_k1 :: .blk 5 wb_z7z_5 :: .lp wl_z7z_4 c_z7z_l4 :: .blk 4 wb_z7z_4 :: k) hk hn a j ha hj D hD _ _ i (Nat.le_refl _) (by omega) ?_
    generalize scanUp (fun x => vslt c x D[a]!) D j i = i2 at *
    refine walk (its := [.c c_z7z_k1, .blk 5 wb_z7z_5, .lp wl_z7z_4 c_z7z_l4, .blk 4 wb_z7z_4]) (k0 := k) 300 hk trivial (fun A eA => ?_)
    simp (disch := omega) only [go_sem, eA, scal1, nz_wrap, nz_sub1, nz_sub, nz_add1, nz_add, nz_mul2, zz15, zz16, vsat, vslen, vsset, vsset2, vsswp, ev7_len, ev7_all, ev7_frz, zz14]
    refine vsdown_partition_8 hc (k := .c c_z7z_k0 :: .blk 5 wb_z7z_5 :: .lp wl_z7z_4 c_z7z_l4 :: .blk 4 wb_z7z_4 :: k) hk hn a i2 ha (by omega) D hD _ j hj ?_
    generalize scanDown (fun x => !vslt c x D[a]!) D i2 j = j2 at *
    rw [if_pos (by omega)] at h
    refine walk (its := [.c c_z7z_k0, .blk 5 wb_z7z_5, .lp wl_z7z_4 c_z7z_l4, .blk 4 wb_z7z_4]) (k0 := k) 300 hk trivial (fun A eA => ?_)
    simp (disch := omega) only [go_sem, eA, scal1, nz_wrap, nz_sub1, nz_sub, nz_add1, nz_add, nz_mul2, zz15, zz16, vsat, vslen, vsset, vsset2, vsswp, ev7_len, ev7_all, ev7_frz, zz14]
    exact h
  | succ m ih =>
    intro i j D hm h1 hij hj hD h
    have hu := scanUp_spec (fun x => vslt c x D[a]!) D j _ i rfl
    have hw := scanDown_spec (fun x => !vslt c x D[a]!) D (scanUp (fun x => vslt c x D[a]!) D j i) j
    rw [partLoop_eq] at h
    refine round (its := [.blk 4 wb_z7z_4]) 300 hk trivial (fun A eA => ?_)
    simp (disch := omega) only [go_sem, eA, scal1, nz_wrap, nz_sub1, nz_sub, nz_add1, nz_add, nz_mul2, zz15, zz16, vsat, vslen, vsset, vsset2, vsswp, ev7_len, ev7_all, ev7_frz, zz14]
    refine vsup_partition_6 hc (k := .c c_z7z_k1 :: .blk 5 wb_z7z_5 :: .lp wl_z7z_4 c_z7z_l4 :: .blk 4 wb_z7z_4 :: k) hk hn a j ha hj D hD _ _ i (Nat.le_refl _) (by omega) ?_
    generalize scanUp (fun x => vslt c x D[a]!) D j i = i2 at *
    refine walk (its := [.c c_z7z_k1, .blk 5 wb_z7z_5, .lp wl_z7z_4 c_z7z_l4, .blk 4 wb_z7z_4]) (k0 := k) 300 hk trivial (fun A eA => ?_)
    simp (disch := omega) only [go_sem, eA, scal1, nz_wrap, nz_sub1, nz_sub, nz_add1, nz_add, nz_mul2, zz15, zz16, vsat, vslen, vsset, vsset2, vsswp, ev7_len, ev7_all, ev7_frz, zz14]
    refine vsdown_partition_8 hc (k := .c c_z7z_k0 :: .blk 5 wb_z7z_5 :: .lp wl_z7z_4 c_z7z_l4 :: .blk 4 wb_z7z_4 :: k) hk hn a i2 ha (by omega) D hD _ j hj ?_
    generalize scanDown (fun x => !vslt c x D[a]!) D i2 j = j2 at *
    by_cases hgt : i2 > j2
    · rw [if_pos hgt] at h
      refine walk (its := [.c c_z7z_k0, .blk 5 wb_z7z_5, .lp wl_z7z_4 c_z7z_l4, .blk 4 wb_z7z_4]) (k0 := k) 300 hk trivial (fun A eA => ?_)
      simp (disch := omega) only [go_sem, eA, scal1, nz_wrap, nz_sub1, nz_sub, nz_add1, nz_add, nz_mul2, zz15, zz16, vsat, vslen, vsset, vsset2, vsswp, ev7_len, ev7_all, ev7_frz, zz14]
      exact h
    · rw [if_neg hgt] at h
      have hne : i2 ≠ j2 := by
        intro e
        have q1 := hu.2.2.2 (by omega)
        have q2 := hw.2.2.2 (by omega) (by omega)
        rw [← e] at q2
        simp only [q1, Bool.not_false] at q2
        cases q2
      have ih := ih (i2 + 1) (j2 - 1) (swp D i2 j2) (by omega) (by omega) (by omega) (by omega) (by rw [size_swp]; exact hD) h
      refine walk (its := [.c c_z7z_k0, .blk 5 wb_z7z_5, .lp wl_z7z_4 c_z7z_l4, .blk 4 wb_z7z_4]) (k0 := k) 300 hk trivial (fun A eA => ?_)
      simp (disch := omega) only [go_sem, eA, scal1, nz_wrap, nz_sub1, nz_sub, nz_add1, nz_add, nz_mul2, zz15, zz16, vsat, vslen, vsset, vsset2, vsswp, ev7_len, ev7_all, ev7_frz, zz14]
      exact ih
theorem vsszP (lt : Ver → Ver → Bool) (a : Nat) : ∀ (m i j : Nat) (D : Array Ver), j + 1 - i ≤ m → 1 ≤ i → i ≤ j + 1 → (partLoop lt a i j D).2.size = D.size ∧ (partLoop lt a i j D).1 ≤ j ∧ i ≤ (partLoop lt a i j D).1 + 1 := by
  intro m
  induction m with
  | zero =>
    intro i j D hm h1 hij
    have hu := scanUp_spec (fun x => lt x D[a]!) D j _ i rfl
    have hw := scanDown_spec (fun x => !lt x D[a]!) D (scanUp (fun x => lt x D[a]!) D j i) j
    rw [partLoop_eq]
    generalize scanUp (fun x => lt x D[a]!) D j i = i2 at *
    generalize scanDown (fun x => !lt x D[a]!) D i2 j = j2 at *
    rw [if_pos (by omega)]
    exact ⟨rfl, by simp only; omega, by simp only; omega⟩
  | succ m ih =>
    intro i j D hm h1 hij
    have hu := scanUp_spec (fun x => lt x D[a]!) D j _ i rfl
    have hw := scanDown_spec (fun x => !lt x D[a]!) D (scanUp (fun x => lt x D[a]!) D j i) j
    rw [partLoop_eq]
    generalize scanUp (fun x => lt x D[a]!) D j i = i2 at *
    generalize scanDown (fun x => !lt x D[a]!) D i2 j = j2 at *
    by_cases hgt : i2 > j2
    · rw [if_pos hgt]
      exact ⟨rfl, by simp only; omega, by simp only; omega⟩
    · rw [if_neg hgt]
      have hne : i2 ≠ j2 := by
        intro e
        have q1 := hu.2.2.2 (by omega)
        have q2 := hw.2.2.2 (by omega) (by omega)
        rw [← e] at q2
        simp only [q1, Bool.not_false] at q2
        cases q2
      obtain ⟨a1, a2, a3⟩ := ih (i2 + 1) (j2 - 1) (swp D i2 j2) (by omega) (by omega) (by omega)
      exact ⟨by rw [a1, size_swp], by omega, by omega⟩
theorem vspart_h (hn : n ≤ 1000) (a b pivot : Nat) (hap : a ≤ pivot) (hpb : pivot < b) (hb : b ≤ n) (D : Array Ver) (hD : D.size = n) (nx : Ctr) :
    HCalls Try.prog F_z7z [.sl f d g 7 0 n, .int .i64 (a : Nat), .int .i64 (b : Nat), .int .i64 (pivot : Nat), .func F []] (vsH f d g D) nx
      (.tup [.int .i64 ((partition (vslt c) D a b pivot).1 : Nat), .bool (partition (vslt c) D a b pivot).2.1]) (vsH f d g (partition (vslt c) D a b pivot).2.2) nx := by
  have hs0 : (swp D a pivot).size = n := by rw [size_swp]; exact hD
  have hu := scanUp_spec (fun x => vslt c x (swp D a pivot)[a]!) (swp D a pivot) (b - 1) _ (a + 1) rfl
  have hw := scanDown_spec (fun x => !vslt c x (swp D a pivot)[a]!) (swp D a pivot) (scanUp (fun x => vslt c x (swp D a pivot)[a]!) (swp D a pivot) (b - 1) (a + 1)) (b - 1)
  simp only [partition]
  refine hcalls_z7z 9 [(f, d)] (walk0 300 trivial (fun A eA => ?_))
  simp (disch := omega) only [go_sem, eA, scal1, nz_wrap, nz_sub1, nz_sub, nz_add1, nz_add, nz_mul2, zz15, zz16, vsat, vslen, vsset, vsset2, vsswp, ev7_len, ev7_all, ev7_frz, zz14]
  generalize swp D a pivot = D1 at *
  refine vsup_partition_0 hc (k := [.c c_z7z_k4]) trivial hn a (b - 1) (by omega) (by omega) D1 hs0 _ _ (a + 1) (Nat.le_refl _) (by omega) ?_
  generalize scanUp (fun x => vslt c x D1[a]!) D1 (b - 1) (a + 1) = i2 at *
  refine walk0 (its := [.c c_z7z_k4]) 300 trivial (fun A eA => ?_)
  simp (disch := omega) only [go_sem, eA, scal1, nz_wrap, nz_sub1, nz_sub, nz_add1, nz_add, nz_mul2, zz15, zz16, vsat, vslen, vsset, vsset2, vsswp, ev7_len, ev7_all, ev7_frz, zz14]
  refine vsdown_partition_2 hc (k := [.c c_z7z_k3]) trivial hn a i2 (by omega) (by omega) D1 hs0 _ (b - 1) (by omega) ?_
  generalize scanDown (fun x => !vslt c x D1[a]!) D1 i2 (b - 1) = j2 at *
  refine walk0 (its := [.c c_z7z_k3]) 300 trivial (fun A eA => ?_)
  by_cases hgt : i2 > j2
  · rw [if_pos hgt]
    simp (disch := omega) only [go_sem, eA, scal1, nz_wrap, nz_sub1, nz_sub, nz_add1, nz_add, nz_mul2, zz15, zz16, vsat, vslen, vsset, vsset2, vsswp, ev7_len, ev7_all, ev7_frz, zz14]
    exact doneH (vssel _ _ _ _) rfl rfl
  · rw [if_neg hgt]
    have hne : i2 ≠ j2 := by
      intro e
      have q1 := hu.2.2.2 (by omega)
      have q2 := hw.2.2.2 (by omega) (by omega)
      rw [← e] at q2
      simp only [q1, Bool.not_false] at q2
      cases q2
    have hs1 : (swp D1 i2 j2).size = n := by rw [size_swp]; exact hs0
    simp (disch := omega) only [go_sem, eA, scal1, nz_wrap, nz_sub1, nz_sub, nz_add1, nz_add, nz_mul2, zz15, zz16, vsat, vslen, vsset, vsset2, vsswp, ev7_len, ev7_all, ev7_frz, zz14]
    obtain ⟨z1, z2, z3⟩ := vsszP hc (vslt c) a _ (i2 + 1) (j2 - 1) (swp D1 i2 j2) (Nat.le_refl _) (by omega) (by omega)
    refine vsploop hc hn (k := [.c c_z7z_k2]) trivial a (by omega) _ _ (i2 + 1) (j2 - 1) (swp D1 i2 j2) (Nat.le_refl _) (by omega) (by omega) (by omega) hs1 ?_
    generalize partLoop (vslt c) a (i2 + 1) (j2 - 1) (swp D1 i2 j2) = r at *
    have hs2 : r.2.size = n := by rw [z1]; exact hs1
    refine walk0 (its := [.c c_z7z_k2]) 300 trivial (fun A eA => ?_)
    simp (disch := omega) only [go_sem, eA, scal1, nz_wrap, nz_sub1, nz_sub, nz_add1, nz_add, nz_mul2, zz15, zz16, vsat, vslen, vsset, vsset2, vsswp, ev7_len, ev7_all, ev7_frz, zz14]
    exact doneH (vssel _ _ _ _) rfl rfl
end
end Go.Proofs.Ytmokhopjnjecbac
/- The library's sort at elements of 7 cells: the equal ones; what is nearly sorted; patterns are broken. Printed by programs of mine (sortgen.py). -/
-- short
-- om
-- fuel 300
namespace Go.Proofs.Ytmokhopjnjecbac
open Go.Ev Go.Sort
set_option linter.unusedVariables false
set_option linter.unusedSimpArgs false
set_option linter.unusedSectionVars false
set_option maxRecDepth 100000
set_option maxHeartbeats 6400000
section
variable {F : Nat} {c : Ver → Ver → Int} (hc : vsCmp F c) {f d g n : Nat}
include hc
theorem vseloop (hn : n ≤ 1000) {k : List It} (hk : flat k) {R : List AV → Heap → Ctr → Prop} {φ : Nat} (a : Nat) (ha : a < n) (nx : Ctr) : ∀ (m i j : Nat) (D : Array Ver), j + 1 - i ≤ m → 1 ≤ i → i ≤ j + 1 → j < n → D.size = n →
    RunsX Try.prog φ R k (e_z1z_0 (.int .i64 ((partEqLoop (vslt c) a i j D).1 : Nat))) (vsH f d g (partEqLoop (vslt c) a i j D).2) nx →
    RunsX Try.prog φ R (i_z1z_0 ++ k) (s_z1z_0 (.sl f d g 7 0 n) (.int .i64 (a : Nat)) (.func F []) (.int .i64 (i : Nat)) (.int .i64 (j : Nat))) (vsH f d g D) nx := by
  intro m
  induction m using Nat.strongRecOn with
  | _ m ih =>
    intro i j D hm h1 hij hj hD h
    have hu := scanUp_spec (fun x => !vslt c D[a]! x) D j _ i rfl
    have hw := scanDown_spec (fun x => vslt c D[a]! x) D (scanUp (fun x => !vslt c D[a]! x) D j i) j
    rw [partEqLoop_eq] at h
    refine round (its := [.blk 0 wb_z1z_0]) 300 hk trivial (fun A eA => ?_)
    simp (disch := omega) only [go_sem, eA, scal1, nz_wrap, nz_sub1, nz_sub, nz_add1, nz_add, nz_mul2, zz15, zz16, vsat, vslen, vsset, vsset2, vsswp, ev7_len, ev7_all, ev7_frz, zz14]
    refine vsup_partitionEqual_2 hc (k := .c c_z1z_k1 :: .blk 1 wb_z1z_1 :: .lp wl_z1z_0 c_z1z_l0 :: .blk 0 wb_z1z_0 :: k) hk hn a j ha hj D hD _ _ i (Nat.le_refl _) (by omega) ?_
    generalize scanUp (fun x => !vslt c D[a]! x) D j i = i2 at *
    refine walk (its := [.c c_z1z_k1, .blk 1 wb_z1z_1, .lp wl_z1z_0 c_z1z_l0, .blk 0 wb_z1z_0]) (k0 := k) 300 hk trivial (fun A eA => ?_)
    simp (disch := omega) only [go_sem, eA, scal1, nz_wrap, nz_sub1, nz_sub, nz_add1, nz_add, nz_mul2, zz15, zz16, vsat, vslen, vsset, vsset2, vsswp, ev7_len, ev7_all, ev7_frz, zz14]
    refine vsdown_partitionEqual_4 hc (k := .c c_z1z_k0 :: .blk 1 wb_z1z_1 :: .lp wl_z1z_0 c_z1z_l0 :: .blk 0 wb_z1z_0 :: k) hk hn a i2 ha (by omega) D hD _ j hj ?_
    generalize scanDown (fun x => vslt c D[a]! x) D i2 j = j2 at *
    by_cases hgt : i2 > j2
    · rw [if_pos hgt] at h
      refine walk (its := [.c c_z1z_k0, .blk 1 wb_z1z_1, .lp wl_z1z_0 c_z1z_l0, .blk 0 wb_z1z_0]) (k0 := k) 300 hk trivial (fun A eA => ?_)
      simp (disch := omega) only [go_sem, eA, scal1, nz_wrap, nz_sub1, nz_sub, nz_add1, nz_add, nz_mul2, zz15, zz16, vsat, vslen, vsset, vsset2, vsswp, ev7_len, ev7_all, ev7_frz, zz14]
      exact h
    · rw [if_neg hgt] at h
      have hne : i2 ≠ j2 := by
        intro e
        have q1 := hu.2.2.2 (by omega)
        have q2 := hw.2.2.2 (by omega) (by omega)
        rw [← e] at q2
        simp only [q2, Bool.not_false] at q1
        cases q1
      have ih := ih (m - 1) (by omega) (i2 + 1) (j2 - 1) (swp D i2 j2) (by omega) (by omega) (by omega) (by omega) (by rw [size_swp]; exact hD) h
      refine walk (its := [.c c_z1z_k0, .blk 1 wb_z1z_1, .lp wl_z1z_0 c_z1z_l0, .blk 0 wb_z1z_0]) (k0 := k) 300 hk trivial (fun A eA => ?_)
      simp (disch := omega) only [go_sem, eA, scal1, nz_wrap, nz_sub1, nz_sub, nz_add1, nz_add, nz_mul2, zz15, zz16, vsat, vslen, vsset, vsset2, vsswp, ev7_len, ev7_all, ev7_frz, zz14]
      exact ih
theorem vsparteq_h (hn : n ≤ 1000) (a b pivot : Nat) (hap : a ≤ pivot) (hpb : pivot < b) (hb : b ≤ n) (D : Array Ver) (hD : D.size = n) (nx : Ctr) :
    HCalls Try.prog F_z1z [.sl f d g 7 0 n, .int .i64 (a : Nat), .int .i64 (b : Nat), .int .i64 (pivot : Nat), .func F []] (vsH f d g D) nx
      (.int .i64 ((partitionEqual (vslt c) D a b pivot).1 : Nat)) (vsH f d g (partitionEqual (vslt c) D a b pivot).2) nx := by
  have hs0 : (swp D a pivot).size = n := by rw [size_swp]; exact hD
  simp only [partitionEqual]
  refine hcalls_z1z 9 [(f, d)] (walk0 300 trivial (fun A eA => ?_))
  simp (disch := omega) only [go_sem, eA, scal1, nz_wrap, nz_sub1, nz_sub, nz_add1, nz_add, nz_mul2, zz15, zz16, vsat, vslen, vsset, vsset2, vsswp, ev7_len, ev7_all, ev7_frz, zz14]
  generalize swp D a pivot = D1 at *
  refine vseloop hc hn (k := [.c c_z1z_k2]) trivial a (by omega) _ _ (a + 1) (b - 1) D1 (Nat.le_refl _) (by omega) (by omega) (by omega) hs0 ?_
  generalize partEqLoop (vslt c) a (a + 1) (b - 1) D1 = r at *
  refine walk0 (its := [.c c_z1z_k2]) 300 trivial (fun A eA => ?_)
  simp (disch := omega) only [go_sem, eA, scal1, nz_wrap, nz_sub1, nz_sub, nz_add1, nz_add, nz_mul2, zz15, zz16, vsat, vslen, vsset, vsset2, vsswp, ev7_len, ev7_all, ev7_frz, zz14]
  exact doneH (vssel _ _ _ _) rfl rfl
theorem vspins_h (hn : n < 50) (a b : Nat) (hab : a < b) (hb : b ≤ n) (D : Array Ver) (hD : D.size = n) (nx : Ctr) :
    HCalls Try.prog F_z0z [.sl f d g 7 0 n, .int .i64 (a : Nat), .int .i64 (b : Nat), .func F []] (vsH f d g D) nx
      (.bool (partialInsertionSort (vslt c) D a b).2) (vsH f d g (partialInsertionSort (vslt c) D a b).1) nx := by
  have e : partialInsertionSort (vslt c) D a b = (D, decide (scanSorted (vslt c) D b (a + 1) = b)) := by
    unfold partialInsertionSort partialIns
    simp only
    by_cases h : scanSorted (vslt c) D b (a + 1) = b
    · rw [if_pos h]; simp [h]
    · rw [if_neg h, if_pos (by omega)]; simp [h]
  rw [e]
  refine hcalls_z0z 9 [(f, d)] (walk0 300 trivial (fun A eA => ?_))
  simp (disch := omega) only [go_sem, eA, scal1, nz_wrap, nz_sub1, nz_sub, nz_add1, nz_add, nz_mul2, zz15, zz16, vsat, vslen, vsset, vsset2, vsswp, ev7_len, ev7_all, ev7_frz, zz14]
  refine round (its := [.blk 0 wb_z0z_0]) (k0 := [.c c_z0z_k3]) 300 trivial trivial (fun A eA => ?_)
  simp (disch := omega) only [go_sem, eA, scal1, nz_wrap, nz_sub1, nz_sub, nz_add1, nz_add, nz_mul2, zz15, zz16, vsat, vslen, vsset, vsset2, vsswp, ev7_len, ev7_all, ev7_frz, zz14]
  refine vsup_partialIns hc (k := [.c c_z0z_k1, .blk 1 wb_z0z_1, .c c_z0z_k2, .lp wl_z0z_0 c_z0z_l0, .blk 0 wb_z0z_0, .c c_z0z_k3]) trivial (by omega) a b hb D hD _ _ _ (a + 1) (Nat.le_refl _) (by omega) (by omega) ?_
  generalize scanSorted (vslt c) D b (a + 1) = i2 at *
  refine walk0 (its := [.c c_z0z_k1, .blk 1 wb_z0z_1, .c c_z0z_k2, .lp wl_z0z_0 c_z0z_l0, .blk 0 wb_z0z_0, .c c_z0z_k3]) 300 trivial (fun A eA => ?_)
  by_cases h : i2 = b
  · rw [decide_eq_true h]
    simp (disch := omega) only [go_sem, eA, scal1, nz_wrap, nz_sub1, nz_sub, nz_add1, nz_add, nz_mul2, zz15, zz16, vsat, vslen, vsset, vsset2, vsswp, ev7_len, ev7_all, ev7_frz, zz14]
    exact doneH (vssel _ _ _ _) rfl rfl
  · rw [decide_eq_false h]
    simp (disch := omega) only [go_sem, eA, scal1, nz_wrap, nz_sub1, nz_sub, nz_add1, nz_add, nz_mul2, zz15, zz16, vsat, vslen, vsset, vsset2, vsswp, ev7_len, ev7_all, ev7_frz, zz14]
    exact doneH (vssel _ _ _ _) rfl rfl
end
section
variable {F f d g n : Nat}
/-- The row behind a number of one's own. -/
abbrev vsH3 (gs : Nat) (r : UInt64) (f d g : Nat) (D : Array Ver) : Heap := [(5, 9, gs, some [.int .u64 (r.toNat : Nat)]), (f, d, g, some (rowC ev7 D))]
theorem vsbrk_step (hd : 11 < d) (hn : n < 50) (a L m : Nat) (hL : 8 ≤ L) (haL : a + L ≤ n) (hm1 : 1 ≤ m) (hm : m ≤ 2 * L) (gs : Nat) {k : List It} (hk : flat k) {R : List AV → Heap → Ctr → Prop} (nx : Ctr) (idx : Nat) (hi : idx ≤ a + L / 4 * 2 + 1) (r : UInt64) (D : Array Ver) (hD : D.size = n)
    (h : RunsX Try.prog 5 R (i_z4z_0 ++ k) (s_z4z_0 (.sl f d g 7 0 n) (.int .i64 (a : Nat)) (.int .i64 (L : Nat)) (.ptr 5 9 gs 0) (.int .u64 (m : Nat)) (.int .i64 ((idx + 1 : Nat) : Nat))) (vsH3 gs (breakStep a L m (r, D) idx).1 f d g (breakStep a L m (r, D) idx).2) nx) :
    RunsX Try.prog 5 R (i_z4z_0 ++ k) (s_z4z_0 (.sl f d g 7 0 n) (.int .i64 (a : Nat)) (.int .i64 (L : Nat)) (.ptr 5 9 gs 0) (.int .u64 (m : Nat)) (.int .i64 (idx : Nat))) (vsH3 gs r f d g D) nx := by
  have cn := vsnext_h r 5 9 gs nx
  have w1 : IntKind.u64.wrap ((m : Int) - 1) = ((m - 1 : Nat) : Int) := by
    rw [nz_sub1 hm1]; exact wrap_nat .u64 rfl _ (by show m - 1 < 2 ^ 64; omega)
  have a1 := ibits_and .u64 rfl (xorNext r).toNat (m - 1) (xorNext r).toNat_lt (by show m - 1 < 2 ^ 64; omega)
  have ho : (xorNext r).toNat &&& (m - 1) ≤ m - 1 := Nat.and_le_right
  have hd2 : d ≠ 9 := by omega
  simp only [breakStep] at h
  generalize xorNext r = r2 at *
  generalize r2.toNat &&& (m - 1) = o at *
  refine round (its := [.blk 0 wb_z4z_0]) 300 hk trivial (fun A eA => ?_)
  simp (disch := omega) only [go_sem, eA, scal1, nz_wrap, nz_sub1, nz_sub, nz_add1, nz_add, nz_mul2, zz15, zz16, vsat, vslen, vsset, vsset2, vsswp, ev7_len, ev7_all, ev7_frz, zz14, vsnz4, vsnzm2]
  refine call2 300 hk trivial [(5, 9)] (by simp (disch := omega) only [go_sem] <;> rfl) (by simp (disch := omega) only [go_sem] <;> rfl) cn (.inr ⟨rfl, rfl⟩) (fun A eA => ?_)
  clear cn w1
  have w1 : IntKind.u64.wrap ((m - 1 : Nat) : Int) = ((m - 1 : Nat) : Int) := wrap_nat .u64 rfl _ (by show m - 1 < 2 ^ 64; omega)
  by_cases hg : o ≥ L
  · rw [if_pos hg] at h
    simp (disch := omega) only [go_sem, eA, scal1, nz_wrap, nz_sub1, nz_sub, nz_add1, nz_add, nz_mul2, zz15, zz16, vsat, vslen, vsset, vsset2, vsswp, ev7_len, ev7_all, ev7_frz, zz14, w1, a1]
    exact h
  · rw [if_neg hg] at h
    simp (disch := omega) only [go_sem, eA, scal1, nz_wrap, nz_sub1, nz_sub, nz_add1, nz_add, nz_mul2, zz15, zz16, vsat, vslen, vsset, vsset2, vsswp, ev7_len, ev7_all, ev7_frz, zz14, w1, a1]
    exact h
theorem vsszK (a L m : Nat) (r : UInt64) (D : Array Ver) (idx : Nat) : (breakStep a L m (r, D) idx).2.size = D.size := by simp only [breakStep]; exact size_swp _ _ _
theorem vsbrk_h (hd : 11 < d) (hn : n < 50) (a b : Nat) (hab : a + 12 < b) (hb : b ≤ n) (D : Array Ver) (hD : D.size = n) (nx : Ctr) :
    HCalls Try.prog F_z4z [.sl f d g 7 0 n, .int .i64 (a : Nat), .int .i64 (b : Nat), .func F []] (vsH f d g D) nx (.tup []) (vsH f d g (breakPatterns D a b)) (bump nx 9) := by
  obtain ⟨L, hL⟩ : ∃ L, L = b - a := ⟨_, rfl⟩
  obtain ⟨p1, p2⟩ := vspow L (by omega) (by omega)
  have cp := vsnpow L (by omega) (by omega)
  have w1 : IntKind.u64.wrap (L : Int) = (L : Int) := wrap_nat .u64 rfl L (by show L < 2 ^ 64; omega)
  have e0 : breakPatterns D a b = (breakStep a L (1 <<< bitsLen L) (breakStep a L (1 <<< bitsLen L) (breakStep a L (1 <<< bitsLen L) (UInt64.ofNat L, D) (a + L / 4 * 2 - 1)) (a + L / 4 * 2 - 1 + 1)) (a + L / 4 * 2 - 1 + 1 + 1)).2 := by
    unfold breakPatterns
    simp only [← hL]
    rw [if_pos (by omega)]
  have hm1 : 1 ≤ 1 <<< bitsLen L := by rw [Nat.shiftLeft_eq]; exact Nat.mul_pos (by omega) (Nat.two_pow_pos _)
  generalize 1 <<< bitsLen L = m at *
  have eL : ((UInt64.ofNat L).toNat : Int) = (L : Int) := by rw [UInt64.toNat_ofNat']; omega
  have hd2 : d ≠ 9 := by omega
  rw [e0]
  have st := fun (R : List AV → Heap → Ctr → Prop) (nx : Ctr) (gs : Nat) h => vsbrk_step (f := f) (g := g) hd hn a L m (by omega) (by omega) hm1 (by omega) gs (k := []) trivial (R := R) nx (a + L / 4 * 2 - 1) (by omega) (UInt64.ofNat L) D hD h
  simp only [vsH3, eL] at st
  refine hcalls_z4z 5 [(f, d)] (walk0 300 trivial (fun A eA => ?_))
  simp (disch := omega) only [go_sem, eA, scal1, nz_wrap, nz_sub1, nz_sub, nz_add1, nz_add, nz_mul2, zz15, zz16, vsat, vslen, vsset, vsset2, vsswp, ev7_len, ev7_all, ev7_frz, zz14, ← hL, w1, vsnz4, vsnzm2, List.all_cons, List.all_nil]
  refine call0 300 trivial trivial cp (.inl rfl) (fun A eA => ?_)
  simp (disch := omega) only [go_sem, eA, scal1, nz_wrap, nz_sub1, nz_sub, nz_add1, nz_add, nz_mul2, zz15, zz16, vsat, vslen, vsset, vsset2, vsswp, ev7_len, ev7_all, ev7_frz, zz14, ← hL, w1, vsnz4, vsnzm2]
  refine st _ _ _ ?_
  refine vsbrk_step hd hn a L m (by omega) (by omega) hm1 (by omega) _ (k := []) trivial _ (a + L / 4 * 2 - 1 + 1) (by omega) _ _ (by rw [vsszK]; exact hD) ?_
  refine vsbrk_step hd hn a L m (by omega) (by omega) hm1 (by omega) _ (k := []) trivial _ (a + L / 4 * 2 - 1 + 1 + 1) (by omega) _ _ (by rw [vsszK, vsszK]; exact hD) ?_
  refine round (its := [.blk 0 wb_z4z_0]) (k0 := []) 300 trivial trivial (fun A eA => ?_)
  simp (disch := omega) only [go_sem, eA, scal1, nz_wrap, nz_sub1, nz_sub, nz_add1, nz_add, nz_mul2, zz15, zz16, vsat, vslen, vsset, vsset2, vsswp, ev7_len, ev7_all, ev7_frz, zz14, ← hL, w1, vsnz4, vsnzm2]
  exact vsendH (by simp (disch := omega) only [go_sem]) rfl rfl
end
end Go.Proofs.Ytmokhopjnjecbac
/- The library's sort at elements of 7 cells: the recursion. Printed by programs of mine (sortgen.py). -/
-- short
-- om
-- fuel 300
namespace Go.Proofs.Ytmokhopjnjecbac
open Go.Ev Go.Sort
set_option linter.unusedVariables false
set_option linter.unusedSimpArgs false
set_option linter.unusedSectionVars false
set_option maxRecDepth 100000
set_option maxHeartbeats 12800000
theorem vsszBr (D : Array Ver) (a b : Nat) : (breakPatterns D a b).size = D.size := by
  unfold breakPatterns
  simp only
  split
  · rw [vsszK, vsszK, vsszK]
  · rfl
theorem vsszR : ∀ (m i j : Nat) (D : Array Ver), j - i ≤ m → (reverseLoop i j D).size = D.size := by
  intro m
  induction m with
  | zero => intro i j D hm; rw [reverseLoop, if_neg (by omega)]
  | succ m ih =>
    intro i j D hm
    rw [reverseLoop]
    split
    · rw [ih _ _ _ (by omega), size_swp]
    · rfl
theorem vsszRv (D : Array Ver) (a b : Nat) : (reverseRange D a b).size = D.size := vsszR _ a (b - 1) D (Nat.le_refl _)
theorem vsszO (lt : Ver → Ver → Bool) (a b : Nat) : ∀ (m i : Nat) (D : Array Ver), b - i ≤ m → (insOuter lt a b i D).size = D.size := by
  intro m
  induction m with
  | zero => intro i D hm; rw [insOuter, if_neg (by omega)]
  | succ m ih =>
    intro i D hm
    rw [insOuter]
    split
    · rw [ih _ _ (by omega), vsszI]
    · rfl
theorem vsszHP (lt : Ver → Ver → Bool) (first : Nat) : ∀ (k : Nat) (D : Array Ver), (heapPop lt first k D).size = D.size
  | 0, D => rfl
  | k + 1, D => by rw [heapPop, vsszHP lt first k, vsszD lt k first _ 0 _ (Nat.le_refl _), size_swp]
theorem vsrangeE (lt : Ver → Ver → Bool) (D : Array Ver) {a b q : Nat} (hap : a ≤ q) (hqb : q < b) (hb : b ≤ D.size) : a < (partitionEqual lt D a b q).1 ∧ (partitionEqual lt D a b q).1 ≤ b ∧ (partitionEqual lt D a b q).2.size = D.size := by
  obtain ⟨h1, h2, h3, _, _⟩ := partEqLoop_spec lt a b _ (a + 1) (b - 1) (swp D a q) (Nat.le_refl _) (by omega) (by omega) (by omega) (by rw [size_swp]; exact hb) (fun t h1 h2 => by omega) (fun t h1 h2 => by omega)
  exact ⟨h1, h2, by have := h3.1; rw [size_swp] at this; exact this⟩
theorem vsrangeP {F : Nat} {c : Ver → Ver → Int} (hc : vsCmp F c) (lt : Ver → Ver → Bool) (D : Array Ver) {a b q : Nat} (hap : a ≤ q) (hqb : q < b) : a ≤ (partition lt D a b q).1 ∧ (partition lt D a b q).1 < b ∧ (partition lt D a b q).2.2.size = D.size := by
  obtain ⟨h1, h2, h3⟩ := vsszP hc lt a _ (a + 1) (b - 1) (swp D a q) (Nat.le_refl _) (by omega) (by omega)
  rw [partition_fst, partition_arr, size_swp]
  exact ⟨by omega, by omega, by rw [h1, size_swp]⟩
theorem vspins_eq (lt : Ver → Ver → Bool) (D : Array Ver) {a b : Nat} (h : b - a < 50) : (partialInsertionSort lt D a b).1 = D := by
  unfold partialInsertionSort partialIns
  simp only
  split
  · rfl
  · first | rfl | rw [if_pos h]
/-- What a round of the sort does behind its choice of a pivot. -/
def vsrest2 (lt : Ver → Ver → Bool) (a b limit : Nat) (wb wp : Bool) (pivot : Nat) (d3 : Array Ver) : Array Ver :=
  if a > 0 && !lt d3[a - 1]! d3[pivot]! then
    match partitionEqual lt d3 a b pivot with
    | (mid, d4) => if _h : a < mid ∧ mid ≤ b then pdq lt d4 mid b limit wb wp else d4
  else
    match partition lt d3 a b pivot with
    | (mid, alreadyPartitioned, d4) =>
      if _h : a ≤ mid ∧ mid < b then
        if mid - a < b - mid then
          pdq lt (pdq lt d4 a mid limit true true) (mid + 1) b limit (decide (mid - a ≥ (b - a) / 8)) alreadyPartitioned
        else
          pdq lt (pdq lt d4 (mid + 1) b limit true true) a mid limit (decide (b - mid ≥ (b - a) / 8)) alreadyPartitioned
      else d4
def vsrest (lt : Ver → Ver → Bool) (a b limit : Nat) (wb wp inc : Bool) (pivot : Nat) (d2 : Array Ver) : Array Ver :=
  let pi := if wb && wp && inc then partialInsertionSort lt d2 a b else (d2, false)
  if pi.2 then pi.1 else vsrest2 lt a b limit wb wp pivot pi.1
theorem vsrest_no (lt : Ver → Ver → Bool) (a b limit : Nat) (wb wp inc : Bool) (q : Nat) (D : Array Ver) (h : (wb && wp && inc) = false) : vsrest lt a b limit wb wp inc q D = vsrest2 lt a b limit wb wp q D := by
  unfold vsrest; rw [h]; rfl
theorem vsrest_t (lt : Ver → Ver → Bool) (a b limit : Nat) (q : Nat) (D : Array Ver) (h : b - a < 50) (hp : (partialInsertionSort lt D a b).2 = true) : vsrest lt a b limit true true true q D = D := by
  unfold vsrest; simp only [Bool.and_self, if_true, hp]; exact vspins_eq lt D h
theorem vsrest_f (lt : Ver → Ver → Bool) (a b limit : Nat) (q : Nat) (D : Array Ver) (h : b - a < 50) (hp : (partialInsertionSort lt D a b).2 = false) : vsrest lt a b limit true true true q D = vsrest2 lt a b limit true true q D := by
  unfold vsrest; simp only [Bool.and_self, if_true, hp, Bool.false_eq_true, if_false]; rw [vspins_eq lt D h]
theorem vsrest_e (lt : Ver → Ver → Bool) (a b limit : Nat) (wb wp : Bool) (q : Nat) (D : Array Ver) (hap : a ≤ q) (hqb : q < b) (hb : b ≤ D.size) (ha : 0 < a) (hl : lt D[a - 1]! D[q]! = false) :
    vsrest2 lt a b limit wb wp q D = pdq lt (partitionEqual lt D a b q).2 (partitionEqual lt D a b q).1 b limit wb wp := by
  obtain ⟨h1, h2, _⟩ := vsrangeE lt D hap hqb hb
  unfold vsrest2
  rw [if_pos (by rw [hl]; simp; omega)]
  generalize partitionEqual lt D a b q = r at *
  simp only
  rw [dif_pos ⟨h1, h2⟩]
theorem vsrest_p {F : Nat} {c : Ver → Ver → Int} (hc : vsCmp F c) (lt : Ver → Ver → Bool) (a b limit : Nat) (wb wp : Bool) (q : Nat) (D : Array Ver) (hap : a ≤ q) (hqb : q < b) (hl : a = 0 ∨ lt D[a - 1]! D[q]! = true) :
    vsrest2 lt a b limit wb wp q D = if (partition lt D a b q).1 - a < b - (partition lt D a b q).1 then
          pdq lt (pdq lt (partition lt D a b q).2.2 a (partition lt D a b q).1 limit true true) ((partition lt D a b q).1 + 1) b limit (decide ((partition lt D a b q).1 - a ≥ (b - a) / 8)) (partition lt D a b q).2.1
        else
          pdq lt (pdq lt (partition lt D a b q).2.2 ((partition lt D a b q).1 + 1) b limit true true) a (partition lt D a b q).1 limit (decide (b - (partition lt D a b q).1 ≥ (b - a) / 8)) (partition lt D a b q).2.1 := by
  obtain ⟨h1, h2, _⟩ := vsrangeP hc lt D hap hqb
  unfold vsrest2
  rw [if_neg (by rcases hl with rfl | hl; simp; rw [hl]; simp)]
  generalize partition lt D a b q = r at *
  simp only
  rw [dif_pos ⟨h1, h2⟩]
theorem vspdq_eq (lt : Ver → Ver → Bool) (D : Array Ver) (a b limit : Nat) (wb wp : Bool) (h12 : ¬ b - a ≤ 12) (hl : limit ≠ 0) :
    pdq lt D a b limit wb wp = vsrest lt a b (if !wb then limit - 1 else limit) wb wp (decide ((if (choosePivot lt (if !wb then breakPatterns D a b else D) a b).2 = .decreasing then Hint.increasing else (choosePivot lt (if !wb then breakPatterns D a b else D) a b).2) = .increasing))
      (if (choosePivot lt (if !wb then breakPatterns D a b else D) a b).2 = .decreasing then (b - 1) - ((choosePivot lt (if !wb then breakPatterns D a b else D) a b).1 - a) else (choosePivot lt (if !wb then breakPatterns D a b else D) a b).1)
      (if (choosePivot lt (if !wb then breakPatterns D a b else D) a b).2 = .decreasing then reverseRange (if !wb then breakPatterns D a b else D) a b else (if !wb then breakPatterns D a b else D)) := by
  rw [pdq]
  rw [if_neg h12, if_neg hl]
  rfl
theorem vsszQ {F : Nat} {c : Ver → Ver → Int} (hc : vsCmp F c) (lt : Ver → Ver → Bool) : ∀ (m a b limit : Nat) (wb wp : Bool) (D : Array Ver), b - a ≤ m → b ≤ D.size → D.size < 50 → (pdq lt D a b limit wb wp).size = D.size := by
  intro m
  induction m using Nat.strongRecOn with
  | _ m ih =>
    intro a b limit wb wp D hm hb hn
    by_cases h12 : b - a ≤ 12
    · rw [pdq, if_pos h12]; exact vsszO lt a b _ _ D (Nat.le_refl _)
    by_cases hl : limit = 0
    · rw [pdq, if_neg h12, if_pos hl]
      unfold heapSort
      rw [vsszHP, vsszB]
    rw [vspdq_eq lt D a b limit wb wp h12 hl]
    have hs1 : (if !wb then breakPatterns D a b else D).size = D.size := by
      split
      · exact vsszBr D a b
      · rfl
    generalize (if !wb then breakPatterns D a b else D) = D1 at *
    obtain ⟨q1, q2⟩ := choosePivot_holds lt D1 a b (by omega)
    have hs2 : (if (choosePivot lt D1 a b).2 = .decreasing then reverseRange D1 a b else D1).size = D.size := by
      split
      · rw [vsszRv]; exact hs1
      · exact hs1
    generalize (if (choosePivot lt D1 a b).2 = .decreasing then reverseRange D1 a b else D1) = D2 at *
    have hq : a ≤ (if (choosePivot lt D1 a b).2 = .decreasing then (b - 1) - ((choosePivot lt D1 a b).1 - a) else (choosePivot lt D1 a b).1) ∧ (if (choosePivot lt D1 a b).2 = .decreasing then (b - 1) - ((choosePivot lt D1 a b).1 - a) else (choosePivot lt D1 a b).1) < b := by
      split <;> omega
    generalize (if (choosePivot lt D1 a b).2 = .decreasing then (b - 1) - ((choosePivot lt D1 a b).1 - a) else (choosePivot lt D1 a b).1) = q at *
    generalize (decide ((if (choosePivot lt D1 a b).2 = .decreasing then Hint.increasing else (choosePivot lt D1 a b).2) = .increasing)) = inc at *
    generalize (if !wb then limit - 1 else limit) = l2 at *
    have key : (vsrest2 lt a b l2 wb wp q D2).size = D.size := by
      by_cases he : 0 < a ∧ lt D2[a - 1]! D2[q]! = false
      · obtain ⟨r1, r2, r3⟩ := vsrangeE lt D2 hq.1 hq.2 (by omega)
        rw [vsrest_e lt a b l2 wb wp q D2 hq.1 hq.2 (by omega) he.1 he.2, ih _ (by omega) _ _ _ _ _ _ (Nat.le_refl _) (by omega) (by omega)]
        omega
      · obtain ⟨r1, r2, r3⟩ := vsrangeP hc lt D2 hq.1 hq.2
        rw [vsrest_p hc lt a b l2 wb wp q D2 hq.1 hq.2 (by
          by_cases h0 : a = 0
          · exact .inl h0
          · refine .inr ?_
            cases hx : lt D2[a - 1]! D2[q]! with
            | true => rfl
            | false => exact absurd ⟨by omega, hx⟩ he)]
        have s1 := ih ((partition lt D2 a b q).1 - a) (by omega) a (partition lt D2 a b q).1 l2 true true (partition lt D2 a b q).2.2 (Nat.le_refl _) (by omega) (by omega)
        have s2 := ih (b - ((partition lt D2 a b q).1 + 1)) (by omega) ((partition lt D2 a b q).1 + 1) b l2 true true (partition lt D2 a b q).2.2 (Nat.le_refl _) (by omega) (by omega)
        split
        · rw [ih _ (by omega) _ _ _ _ _ _ (Nat.le_refl _) (by omega) (by omega)]; omega
        · rw [ih _ (by omega) _ _ _ _ _ _ (Nat.le_refl _) (by omega) (by omega)]; omega
    cases hx : (wb && wp && inc) with
    | false => rw [vsrest_no lt a b l2 wb wp inc q D2 hx]; exact key
    | true =>
      simp only [Bool.and_eq_true] at hx
      obtain ⟨⟨rfl, rfl⟩, rfl⟩ := hx
      cases hp : (partialInsertionSort lt D2 a b).2 with
      | true => rw [vsrest_t lt a b l2 q D2 (by omega) hp]; exact hs2
      | false => rw [vsrest_f lt a b l2 q D2 (by omega) hp]; exact key
end Go.Proofs.Ytmokhopjnjecbac
/- The library's sort at elements of 7 cells: the sort walked. Printed by programs of mine (mk10.py, sortgen.py). -/
-- short
-- om
-- fuel 300
namespace Go.Proofs.Ytmokhopjnjecbac
open Go.Ev Go.Sort
set_option linter.unusedVariables false
set_option linter.unusedSimpArgs false
set_option linter.unusedSectionVars false
set_option maxRecDepth 100000
set_option maxHeartbeats 12800000
theorem vstdiv8 (x : Nat) : ((x : Nat) : Int).tdiv 8 = ((x / 8 : Nat) : Int) := by rw [Int.tdiv_eq_ediv_of_nonneg (by omega)]; omega
section
variable {F : Nat} {c : Ver → Ver → Int} (hc : vsCmp F c) {f d g n : Nat}
include hc
/-- The sort's loop, from there. -/
def vsLoop (F : Nat) (c : Ver → Ver → Int) (f d g n : Nat) (a b limit : Nat) (wb wp : Bool) (D : Array Ver) : Prop := ∀ nx : Ctr,
    RunsX Try.prog 10 (GivesA [(f, d)] [] (.tup []) (vsH f d g (pdq (vslt c) D a b limit wb wp))) (i_z10z_0 ++ []) (s_z10z_0 (.sl f d g 7 0 n) (.int .i64 (a : Nat)) (.int .i64 (b : Nat)) (.int .i64 (limit : Nat)) (.func F []) (.bool wb) (.bool wp)) (vsH f d g D) nx
/-- The sort called, there. -/
def vsCall (F : Nat) (c : Ver → Ver → Int) (f d g n : Nat) (a b limit : Nat) (D : Array Ver) : Prop := ∀ nx : Ctr, ∃ nx', HCalls Try.prog F_z10z [.sl f d g 7 0 n, .int .i64 (a : Nat), .int .i64 (b : Nat), .int .i64 (limit : Nat), .func F []] (vsH f d g D) nx (.tup []) (vsH f d g (pdq (vslt c) D a b limit true true)) nx'
theorem vscall_of {a b limit : Nat} {D : Array Ver} (h : vsLoop F c f d g n a b limit true true D) : vsCall F c f d g n a b limit D := by
  intro nx
  have h1 : RunsX Try.prog 10 (GivesA [(f, d)] [] (.tup []) (vsH f d g (pdq (vslt c) D a b limit true true))) [.c c_z10z] ([.sl f d g 7 0 n, .int .i64 (a : Nat), .int .i64 (b : Nat), .int .i64 (limit : Nat), .func F []] ++ List.replicate (148 - [AV.sl f d g 7 0 n, .int .i64 (a : Nat), .int .i64 (b : Nat), .int .i64 (limit : Nat), .func F []].length) (.tup [])) (vsH f d g D) nx := by
    refine walk0 300 trivial (fun A eA => ?_)
    simp (disch := omega) only [go_sem, eA, scal1]
    exact h _
  have hfl : flat [It.c c_z10z] := trivial
  obtain ⟨nx', h2⟩ := RunsX.any hfl h1
  exact ⟨nx', hcalls_z10z 10 [(f, d)] h2⟩
theorem vsstep_tt (hd : 11 < d) (hn : n < 50) (a b limit : Nat) (D : Array Ver) (hD : D.size = n) (h12 : ¬ b - a ≤ 12) (hab : a ≤ b) (hb : b ≤ n) (hl1 : 1 ≤ limit) (hl : limit ≤ 1000)
    (ihL : ∀ (a' b' l' : Nat) (wb wp : Bool) (D' : Array Ver), b' - a' < b - a → a' ≤ b' → b' ≤ n → D'.size = n → l' ≤ 1000 → vsLoop F c f d g n a' b' l' wb wp D')
    (ihC : ∀ (a' b' l' : Nat) (D' : Array Ver), b' - a' < b - a → a' ≤ b' → b' ≤ n → D'.size = n → l' ≤ 1000 → vsCall F c f d g n a' b' l' D') : vsLoop F c f d g n a b limit true true D := by
  intro nx
  rw [vspdq_eq (vslt c) D a b limit true true h12 (by omega)]
  simp only [Bool.not_true, Bool.false_eq_true, if_false]
  obtain ⟨p1, p2⟩ := choosePivot_holds (vslt c) D a b (by omega)
  have cch := vschoose_h (f := f) (g := g) hc hd hn a b (by omega) hb D hD
  have crv := vsrev_h (F := F) (f := f) (d := d) (g := g) (n := n) (by omega) a b (by omega) hb D hD
  have hsr : (reverseRange D a b).size = n := by rw [vsszRv]; exact hD
  generalize reverseRange D a b = Dr at *
  generalize choosePivot (vslt c) D a b = cp at *
  obtain ⟨p, hint⟩ := cp
  simp only at p1 p2 cch ⊢
  obtain ⟨l2, el2⟩ : ∃ l2, l2 = limit := ⟨_, rfl⟩
  have hl2 : l2 ≤ 1000 := by omega
  subst el2
  obtain ⟨wb0, ewb⟩ : ∃ x : Bool, x = true := ⟨_, rfl⟩
  obtain ⟨wp0, ewp⟩ : ∃ x : Bool, x = true := ⟨_, rfl⟩
  refine round (its := [.blk 0 wb_z10z_0]) (k0 := []) 300 trivial trivial (fun A eA => ?_)
  simp (disch := omega) only [go_sem, eA, scal1, nz_wrap, nz_sub1, nz_sub, nz_add1, nz_add, nz_mul2, zz15, zz16, vsat, vslen, vsset, vsset2, vsswp, ev7_len, ev7_all, ev7_frz, zz14, vstdiv8]
  refine call2 300 trivial trivial [(f, d)] (by simp only [go_sem] <;> rfl) (by simp only [go_sem] <;> rfl) (cch _) (.inl rfl) (fun A eA => ?_)
  cases hint with
  | increasing =>
    have e1 : vshc .increasing = 1 := rfl
    simp only [reduceCtorEq, if_false, if_true, decide_true, e1] at cch ⊢
    obtain ⟨q, hqe⟩ : ∃ q, q = p := ⟨_, rfl⟩
    obtain ⟨D2, hDe⟩ : ∃ D2, D2 = D := ⟨_, rfl⟩
    subst hqe hDe
    have hq1 := p1; have hq2 := p2
    have hs2 : D2.size = n := by assumption
    have hqe : True := trivial
    have cpi := vspins_h (f := f) (d := d) (g := g) hc hn a b (by omega) hb D2 hs2
    cases hpi : (partialInsertionSort (vslt c) D2 a b).2 with
    | true =>
      rw [vsrest_t (vslt c) a b l2 q D2 (by omega) hpi]
      rw [hpi, vspins_eq (vslt c) D2 (by omega)] at cpi
      simp (disch := omega) only [go_sem, eA, scal1, nz_wrap, nz_sub1, nz_sub, nz_add1, nz_add, nz_mul2, zz15, zz16, vsat, vslen, vsset, vsset2, vsswp, ev7_len, ev7_all, ev7_frz, zz14, vstdiv8, e1, hqe]
      refine call2 300 trivial trivial [(f, d)] (by simp only [go_sem] <;> rfl) (by simp only [go_sem] <;> rfl) (cpi _) (.inl rfl) (fun A eA => ?_)
      simp (disch := omega) only [go_sem, eA, scal1, nz_wrap, nz_sub1, nz_sub, nz_add1, nz_add, nz_mul2, zz15, zz16, vsat, vslen, vsset, vsset2, vsswp, ev7_len, ev7_all, ev7_frz, zz14, vstdiv8]
      exact doneA (vssel _ _ _ _) rfl
    | false =>
      rw [vsrest_f (vslt c) a b l2 q D2 (by omega) hpi]
      rw [hpi, vspins_eq (vslt c) D2 (by omega)] at cpi
      simp (disch := omega) only [go_sem, eA, scal1, nz_wrap, nz_sub1, nz_sub, nz_add1, nz_add, nz_mul2, zz15, zz16, vsat, vslen, vsset, vsset2, vsswp, ev7_len, ev7_all, ev7_frz, zz14, vstdiv8, e1, hqe]
      refine call2 300 trivial trivial [(f, d)] (by simp only [go_sem] <;> rfl) (by simp only [go_sem] <;> rfl) (cpi _) (.inl rfl) (fun A eA => ?_)
      by_cases ha0 : a = 0
      · have hle : a = 0 ∨ vslt c D2[a - 1]! D2[q]! = true := .inl ha0
        simp (disch := omega) only [go_sem, eA, scal1, nz_wrap, nz_sub1, nz_sub, nz_add1, nz_add, nz_mul2, zz15, zz16, vsat, vslen, vsset, vsset2, vsswp, ev7_len, ev7_all, ev7_frz, zz14, vstdiv8]
        have rp := vsrangeP hc (vslt c) D2 hq1 hq2
        have cpp := vspart_h (f := f) (d := d) (g := g) hc (by omega) a b q hq1 hq2 hb D2 hs2
        rw [vsrest_p hc (vslt c) a b l2 true true q D2 hq1 hq2 hle]
        have IL := fun D => ihC a (partition (vslt c) D2 a b q).1 l2 D (by omega) (by omega) (by omega)
        have IR := fun D => ihC ((partition (vslt c) D2 a b q).1 + 1) b l2 D (by omega) (by omega) hb
        have JL := fun wb wp D => ihL a (partition (vslt c) D2 a b q).1 l2 wb wp D (by omega) (by omega) (by omega)
        have JR := fun wb wp D => ihL ((partition (vslt c) D2 a b q).1 + 1) b l2 wb wp D (by omega) (by omega) hb
        generalize partition (vslt c) D2 a b q = r at *
        obtain ⟨mid, ap, D4⟩ := r
        simp only at rp cpp IL IR JL JR ⊢
        have hs4 : D4.size = n := by omega
        refine call2 300 trivial trivial [(f, d)] (by simp only [go_sem] <;> rfl) (by simp only [go_sem] <;> rfl) (cpp _) (.inl rfl) (fun A eA => ?_)
        by_cases hlr : mid - a < b - mid
        · rw [if_pos hlr]
          have z := vsszQ hc (vslt c) (mid - a) a mid l2 true true D4 (Nat.le_refl _) (by omega) (by omega)
          have J := JR (decide (mid - a ≥ (b - a) / 8)) ap _ (z.trans hs4) hl2
          have I := IL D4 hs4 hl2
          unfold vsCall at I
          generalize pdq (vslt c) D4 a mid l2 true true = D5 at *
          simp (disch := omega) only [go_sem, eA, scal1, nz_wrap, nz_sub1, nz_sub, nz_add1, nz_add, nz_mul2, zz15, zz16, vsat, vslen, vsset, vsset2, vsswp, ev7_len, ev7_all, ev7_frz, zz14, vstdiv8]
          refine call2x 300 trivial trivial [(f, d)] (by simp only [go_sem] <;> rfl) (by simp only [go_sem] <;> rfl) (I _) (.inl rfl) (fun nx' A eA => ?_)
          by_cases hge : mid - a ≥ (b - a) / 8
          · rw [decide_eq_true hge] at J ⊢
            simp (disch := omega) only [go_sem, eA, scal1, nz_wrap, nz_sub1, nz_sub, nz_add1, nz_add, nz_mul2, zz15, zz16, vsat, vslen, vsset, vsset2, vsswp, ev7_len, ev7_all, ev7_frz, zz14, vstdiv8]
            exact J _
          · rw [decide_eq_false hge] at J ⊢
            simp (disch := omega) only [go_sem, eA, scal1, nz_wrap, nz_sub1, nz_sub, nz_add1, nz_add, nz_mul2, zz15, zz16, vsat, vslen, vsset, vsset2, vsswp, ev7_len, ev7_all, ev7_frz, zz14, vstdiv8]
            exact J _
        · rw [if_neg hlr]
          have z := vsszQ hc (vslt c) (b - (mid + 1)) (mid + 1) b l2 true true D4 (Nat.le_refl _) (by omega) (by omega)
          have J := JL (decide (b - mid ≥ (b - a) / 8)) ap _ (z.trans hs4) hl2
          have I := IR D4 hs4 hl2
          unfold vsCall at I
          generalize pdq (vslt c) D4 (mid + 1) b l2 true true = D5 at *
          simp (disch := omega) only [go_sem, eA, scal1, nz_wrap, nz_sub1, nz_sub, nz_add1, nz_add, nz_mul2, zz15, zz16, vsat, vslen, vsset, vsset2, vsswp, ev7_len, ev7_all, ev7_frz, zz14, vstdiv8]
          refine call2x 300 trivial trivial [(f, d)] (by simp only [go_sem] <;> rfl) (by simp only [go_sem] <;> rfl) (I _) (.inl rfl) (fun nx' A eA => ?_)
          by_cases hge : b - mid ≥ (b - a) / 8
          · rw [decide_eq_true hge] at J ⊢
            simp (disch := omega) only [go_sem, eA, scal1, nz_wrap, nz_sub1, nz_sub, nz_add1, nz_add, nz_mul2, zz15, zz16, vsat, vslen, vsset, vsset2, vsswp, ev7_len, ev7_all, ev7_frz, zz14, vstdiv8]
            exact J _
          · rw [decide_eq_false hge] at J ⊢
            simp (disch := omega) only [go_sem, eA, scal1, nz_wrap, nz_sub1, nz_sub, nz_add1, nz_add, nz_mul2, zz15, zz16, vsat, vslen, vsset, vsset2, vsswp, ev7_len, ev7_all, ev7_frz, zz14, vstdiv8]
            exact J _
      · have hcc := hc.calls D2[a - 1]! D2[q]!
        cases hlx : vslt c D2[a - 1]! D2[q]! with
        | false =>
          have hlx' := vsltF hlx
          have re := vsrangeE (vslt c) D2 hq1 hq2 (by omega)
          have cpe := vsparteq_h (f := f) (d := d) (g := g) hc (by omega) a b q hq1 hq2 hb D2 hs2
          rw [vsrest_e (vslt c) a b l2 true true q D2 hq1 hq2 (by omega) (by omega) hlx]
          have J := fun D => ihL (partitionEqual (vslt c) D2 a b q).1 b l2 true true D (by omega) (by omega) hb
          generalize partitionEqual (vslt c) D2 a b q = r at *
          obtain ⟨mid, D4⟩ := r
          simp only at re cpe J ⊢
          have J := J D4 (by omega) hl2
          simp (disch := omega) only [go_sem, eA, scal1, nz_wrap, nz_sub1, nz_sub, nz_add1, nz_add, nz_mul2, zz15, zz16, vsat, vslen, vsset, vsset2, vsswp, ev7_len, ev7_all, ev7_frz, zz14, vstdiv8]
          refine call0 300 trivial trivial hcc (.inl rfl) (fun A eA => ?_)
          simp (disch := omega) only [go_sem, eA, scal1, nz_wrap, nz_sub1, nz_sub, nz_add1, nz_add, nz_mul2, zz15, zz16, vsat, vslen, vsset, vsset2, vsswp, ev7_len, ev7_all, ev7_frz, zz14, vstdiv8]
          refine call2 300 trivial trivial [(f, d)] (by simp only [go_sem] <;> rfl) (by simp only [go_sem] <;> rfl) (cpe _) (.inl rfl) (fun A eA => ?_)
          simp (disch := omega) only [go_sem, eA, scal1, nz_wrap, nz_sub1, nz_sub, nz_add1, nz_add, nz_mul2, zz15, zz16, vsat, vslen, vsset, vsset2, vsswp, ev7_len, ev7_all, ev7_frz, zz14, vstdiv8]
          exact J _
        | true =>
          have hlx' := vsltT hlx
          have hle : a = 0 ∨ vslt c D2[a - 1]! D2[q]! = true := .inr hlx
          simp (disch := omega) only [go_sem, eA, scal1, nz_wrap, nz_sub1, nz_sub, nz_add1, nz_add, nz_mul2, zz15, zz16, vsat, vslen, vsset, vsset2, vsswp, ev7_len, ev7_all, ev7_frz, zz14, vstdiv8]
          refine call0 300 trivial trivial hcc (.inl rfl) (fun A eA => ?_)
          simp (disch := omega) only [go_sem, eA, scal1, nz_wrap, nz_sub1, nz_sub, nz_add1, nz_add, nz_mul2, zz15, zz16, vsat, vslen, vsset, vsset2, vsswp, ev7_len, ev7_all, ev7_frz, zz14, vstdiv8]
          have rp := vsrangeP hc (vslt c) D2 hq1 hq2
          have cpp := vspart_h (f := f) (d := d) (g := g) hc (by omega) a b q hq1 hq2 hb D2 hs2
          rw [vsrest_p hc (vslt c) a b l2 true true q D2 hq1 hq2 hle]
          have IL := fun D => ihC a (partition (vslt c) D2 a b q).1 l2 D (by omega) (by omega) (by omega)
          have IR := fun D => ihC ((partition (vslt c) D2 a b q).1 + 1) b l2 D (by omega) (by omega) hb
          have JL := fun wb wp D => ihL a (partition (vslt c) D2 a b q).1 l2 wb wp D (by omega) (by omega) (by omega)
          have JR := fun wb wp D => ihL ((partition (vslt c) D2 a b q).1 + 1) b l2 wb wp D (by omega) (by omega) hb
          generalize partition (vslt c) D2 a b q = r at *
          obtain ⟨mid, ap, D4⟩ := r
          simp only at rp cpp IL IR JL JR ⊢
          have hs4 : D4.size = n := by omega
          refine call2 300 trivial trivial [(f, d)] (by simp only [go_sem] <;> rfl) (by simp only [go_sem] <;> rfl) (cpp _) (.inl rfl) (fun A eA => ?_)
          by_cases hlr : mid - a < b - mid
          · rw [if_pos hlr]
            have z := vsszQ hc (vslt c) (mid - a) a mid l2 true true D4 (Nat.le_refl _) (by omega) (by omega)
            have J := JR (decide (mid - a ≥ (b - a) / 8)) ap _ (z.trans hs4) hl2
            have I := IL D4 hs4 hl2
            unfold vsCall at I
            generalize pdq (vslt c) D4 a mid l2 true true = D5 at *
            simp (disch := omega) only [go_sem, eA, scal1, nz_wrap, nz_sub1, nz_sub, nz_add1, nz_add, nz_mul2, zz15, zz16, vsat, vslen, vsset, vsset2, vsswp, ev7_len, ev7_all, ev7_frz, zz14, vstdiv8]
            refine call2x 300 trivial trivial [(f, d)] (by simp only [go_sem] <;> rfl) (by simp only [go_sem] <;> rfl) (I _) (.inl rfl) (fun nx' A eA => ?_)
            by_cases hge : mid - a ≥ (b - a) / 8
            · rw [decide_eq_true hge] at J ⊢
              simp (disch := omega) only [go_sem, eA, scal1, nz_wrap, nz_sub1, nz_sub, nz_add1, nz_add, nz_mul2, zz15, zz16, vsat, vslen, vsset, vsset2, vsswp, ev7_len, ev7_all, ev7_frz, zz14, vstdiv8]
              exact J _
            · rw [decide_eq_false hge] at J ⊢
              simp (disch := omega) only [go_sem, eA, scal1, nz_wrap, nz_sub1, nz_sub, nz_add1, nz_add, nz_mul2, zz15, zz16, vsat, vslen, vsset, vsset2, vsswp, ev7_len, ev7_all, ev7_frz, zz14, vstdiv8]
              exact J _
          · rw [if_neg hlr]
            have z := vsszQ hc (vslt c) (b - (mid + 1)) (mid + 1) b l2 true true D4 (Nat.le_refl _) (by omega) (by omega)
            have J := JL (decide (b - mid ≥ (b - a) / 8)) ap _ (z.trans hs4) hl2
            have I := IR D4 hs4 hl2
            unfold vsCall at I
            generalize pdq (vslt c) D4 (mid + 1) b l2 true true = D5 at *
            simp (disch := omega) only [go_sem, eA, scal1, nz_wrap, nz_sub1, nz_sub, nz_add1, nz_add, nz_mul2, zz15, zz16, vsat, vslen, vsset, vsset2, vsswp, ev7_len, ev7_all, ev7_frz, zz14, vstdiv8]
            refine call2x 300 trivial trivial [(f, d)] (by simp only [go_sem] <;> rfl) (by simp only [go_sem] <;> rfl) (I _) (.inl rfl) (fun nx' A eA => ?_)
            by_cases hge : b - mid ≥ (b - a) / 8
            · rw [decide_eq_true hge] at J ⊢
              simp (disch := omega) only [go_sem, eA, scal1, nz_wrap, nz_sub1, nz_sub, nz_add1, nz_add, nz_mul2, zz15, zz16, vsat, vslen, vsset, vsset2, vsswp, ev7_len, ev7_all, ev7_frz, zz14, vstdiv8]
              exact J _
            · rw [decide_eq_false hge] at J ⊢
              simp (disch := omega) only [go_sem, eA, scal1, nz_wrap, nz_sub1, nz_sub, nz_add1, nz_add, nz_mul2, zz15, zz16, vsat, vslen, vsset, vsset2, vsswp, ev7_len, ev7_all, ev7_frz, zz14, vstdiv8]
              exact J _
  | decreasing =>
    have e1 : vshc .decreasing = 2 := rfl
    simp only [reduceCtorEq, if_false, if_true, decide_true, e1] at cch ⊢
    simp (disch := omega) only [go_sem, eA, scal1, nz_wrap, nz_sub1, nz_sub, nz_add1, nz_add, nz_mul2, zz15, zz16, vsat, vslen, vsset, vsset2, vsswp, ev7_len, ev7_all, ev7_frz, zz14, vstdiv8, e1]
    refine call2 300 trivial trivial [(f, d)] (by simp only [go_sem] <;> rfl) (by simp only [go_sem] <;> rfl) (crv _) (.inl rfl) (fun A eA => ?_)
    obtain ⟨q, hqe⟩ : ∃ q, b - 1 - (p - a) = q := ⟨_, rfl⟩
    obtain ⟨D2, hDe⟩ : ∃ D2, D2 = Dr := ⟨_, rfl⟩
    subst hDe
    rw [hqe]
    have hq1 : a ≤ q := by omega
    have hq2 : q < b := by omega
    have hs2 : D2.size = n := by assumption
    have cpi := vspins_h (f := f) (d := d) (g := g) hc hn a b (by omega) hb D2 hs2
    cases hpi : (partialInsertionSort (vslt c) D2 a b).2 with
    | true =>
      rw [vsrest_t (vslt c) a b l2 q D2 (by omega) hpi]
      rw [hpi, vspins_eq (vslt c) D2 (by omega)] at cpi
      simp (disch := omega) only [go_sem, eA, scal1, nz_wrap, nz_sub1, nz_sub, nz_add1, nz_add, nz_mul2, zz15, zz16, vsat, vslen, vsset, vsset2, vsswp, ev7_len, ev7_all, ev7_frz, zz14, vstdiv8, e1, hqe]
      refine call2 300 trivial trivial [(f, d)] (by simp only [go_sem] <;> rfl) (by simp only [go_sem] <;> rfl) (cpi _) (.inl rfl) (fun A eA => ?_)
      simp (disch := omega) only [go_sem, eA, scal1, nz_wrap, nz_sub1, nz_sub, nz_add1, nz_add, nz_mul2, zz15, zz16, vsat, vslen, vsset, vsset2, vsswp, ev7_len, ev7_all, ev7_frz, zz14, vstdiv8]
      exact doneA (vssel _ _ _ _) rfl
    | false =>
      rw [vsrest_f (vslt c) a b l2 q D2 (by omega) hpi]
      rw [hpi, vspins_eq (vslt c) D2 (by omega)] at cpi
      simp (disch := omega) only [go_sem, eA, scal1, nz_wrap, nz_sub1, nz_sub, nz_add1, nz_add, nz_mul2, zz15, zz16, vsat, vslen, vsset, vsset2, vsswp, ev7_len, ev7_all, ev7_frz, zz14, vstdiv8, e1, hqe]
      refine call2 300 trivial trivial [(f, d)] (by simp only [go_sem] <;> rfl) (by simp only [go_sem] <;> rfl) (cpi _) (.inl rfl) (fun A eA => ?_)
      by_cases ha0 : a = 0
      · have hle : a = 0 ∨ vslt c D2[a - 1]! D2[q]! = true := .inl ha0
        simp (disch := omega) only [go_sem, eA, scal1, nz_wrap, nz_sub1, nz_sub, nz_add1, nz_add, nz_mul2, zz15, zz16, vsat, vslen, vsset, vsset2, vsswp, ev7_len, ev7_all, ev7_frz, zz14, vstdiv8]
        have rp := vsrangeP hc (vslt c) D2 hq1 hq2
        have cpp := vspart_h (f := f) (d := d) (g := g) hc (by omega) a b q hq1 hq2 hb D2 hs2
        rw [vsrest_p hc (vslt c) a b l2 true true q D2 hq1 hq2 hle]
        have IL := fun D => ihC a (partition (vslt c) D2 a b q).1 l2 D (by omega) (by omega) (by omega)
        have IR := fun D => ihC ((partition (vslt c) D2 a b q).1 + 1) b l2 D (by omega) (by omega) hb
        have JL := fun wb wp D => ihL a (partition (vslt c) D2 a b q).1 l2 wb wp D (by omega) (by omega) (by omega)
        have JR := fun wb wp D => ihL ((partition (vslt c) D2 a b q).1 + 1) b l2 wb wp D (by omega) (by omega) hb
        generalize partition (vslt c) D2 a b q = r at *
        obtain ⟨mid, ap, D4⟩ := r
        simp only at rp cpp IL IR JL JR ⊢
        have hs4 : D4.size = n := by omega
        refine call2 300 trivial trivial [(f, d)] (by simp only [go_sem] <;> rfl) (by simp only [go_sem] <;> rfl) (cpp _) (.inl rfl) (fun A eA => ?_)
        by_cases hlr : mid - a < b - mid
        · rw [if_pos hlr]
          have z := vsszQ hc (vslt c) (mid - a) a mid l2 true true D4 (Nat.le_refl _) (by omega) (by omega)
          have J := JR (decide (mid - a ≥ (b - a) / 8)) ap _ (z.trans hs4) hl2
          have I := IL D4 hs4 hl2
          unfold vsCall at I
          generalize pdq (vslt c) D4 a mid l2 true true = D5 at *
          simp (disch := omega) only [go_sem, eA, scal1, nz_wrap, nz_sub1, nz_sub, nz_add1, nz_add, nz_mul2, zz15, zz16, vsat, vslen, vsset, vsset2, vsswp, ev7_len, ev7_all, ev7_frz, zz14, vstdiv8]
          refine call2x 300 trivial trivial [(f, d)] (by simp only [go_sem] <;> rfl) (by simp only [go_sem] <;> rfl) (I _) (.inl rfl) (fun nx' A eA => ?_)
          by_cases hge : mid - a ≥ (b - a) / 8
          · rw [decide_eq_true hge] at J ⊢
            simp (disch := omega) only [go_sem, eA, scal1, nz_wrap, nz_sub1, nz_sub, nz_add1, nz_add, nz_mul2, zz15, zz16, vsat, vslen, vsset, vsset2, vsswp, ev7_len, ev7_all, ev7_frz, zz14, vstdiv8]
            exact J _
          · rw [decide_eq_false hge] at J ⊢
            simp (disch := omega) only [go_sem, eA, scal1, nz_wrap, nz_sub1, nz_sub, nz_add1, nz_add, nz_mul2, zz15, zz16, vsat, vslen, vsset, vsset2, vsswp, ev7_len, ev7_all, ev7_frz, zz14, vstdiv8]
            exact J _
        · rw [if_neg hlr]
          have z := vsszQ hc (vslt c) (b - (mid + 1)) (mid + 1) b l2 true true D4 (Nat.le_refl _) (by omega) (by omega)
          have J := JL (decide (b - mid ≥ (b - a) / 8)) ap _ (z.trans hs4) hl2
          have I := IR D4 hs4 hl2
          unfold vsCall at I
          generalize pdq (vslt c) D4 (mid + 1) b l2 true true = D5 at *
          simp (disch := omega) only [go_sem, eA, scal1, nz_wrap, nz_sub1, nz_sub, nz_add1, nz_add, nz_mul2, zz15, zz16, vsat, vslen, vsset, vsset2, vsswp, ev7_len, ev7_all, ev7_frz, zz14, vstdiv8]
          refine call2x 300 trivial trivial [(f, d)] (by simp only [go_sem] <;> rfl) (by simp only [go_sem] <;> rfl) (I _) (.inl rfl) (fun nx' A eA => ?_)
          by_cases hge : b - mid ≥ (b - a) / 8
          · rw [decide_eq_true hge] at J ⊢
            simp (disch := omega) only [go_sem, eA, scal1, nz_wrap, nz_sub1, nz_sub, nz_add1, nz_add, nz_mul2, zz15, zz16, vsat, vslen, vsset, vsset2, vsswp, ev7_len, ev7_all, ev7_frz, zz14, vstdiv8]
            exact J _
          · rw [decide_eq_false hge] at J ⊢
            simp (disch := omega) only [go_sem, eA, scal1, nz_wrap, nz_sub1, nz_sub, nz_add1, nz_add, nz_mul2, zz15, zz16, vsat, vslen, vsset, vsset2, vsswp, ev7_len, ev7_all, ev7_frz, zz14, vstdiv8]
            exact J _
      · have hcc := hc.calls D2[a - 1]! D2[q]!
        cases hlx : vslt c D2[a - 1]! D2[q]! with
        | false =>
          have hlx' := vsltF hlx
          have re := vsrangeE (vslt c) D2 hq1 hq2 (by omega)
          have cpe := vsparteq_h (f := f) (d := d) (g := g) hc (by omega) a b q hq1 hq2 hb D2 hs2
          rw [vsrest_e (vslt c) a b l2 true true q D2 hq1 hq2 (by omega) (by omega) hlx]
          have J := fun D => ihL (partitionEqual (vslt c) D2 a b q).1 b l2 true true D (by omega) (by omega) hb
          generalize partitionEqual (vslt c) D2 a b q = r at *
          obtain ⟨mid, D4⟩ := r
          simp only at re cpe J ⊢
          have J := J D4 (by omega) hl2
          simp (disch := omega) only [go_sem, eA, scal1, nz_wrap, nz_sub1, nz_sub, nz_add1, nz_add, nz_mul2, zz15, zz16, vsat, vslen, vsset, vsset2, vsswp, ev7_len, ev7_all, ev7_frz, zz14, vstdiv8]
          refine call0 300 trivial trivial hcc (.inl rfl) (fun A eA => ?_)
          simp (disch := omega) only [go_sem, eA, scal1, nz_wrap, nz_sub1, nz_sub, nz_add1, nz_add, nz_mul2, zz15, zz16, vsat, vslen, vsset, vsset2, vsswp, ev7_len, ev7_all, ev7_frz, zz14, vstdiv8]
          refine call2 300 trivial trivial [(f, d)] (by simp only [go_sem] <;> rfl) (by simp only [go_sem] <;> rfl) (cpe _) (.inl rfl) (fun A eA => ?_)
          simp (disch := omega) only [go_sem, eA, scal1, nz_wrap, nz_sub1, nz_sub, nz_add1, nz_add, nz_mul2, zz15, zz16, vsat, vslen, vsset, vsset2, vsswp, ev7_len, ev7_all, ev7_frz, zz14, vstdiv8]
          exact J _
        | true =>
          have hlx' := vsltT hlx
          have hle : a = 0 ∨ vslt c D2[a - 1]! D2[q]! = true := .inr hlx
          simp (disch := omega) only [go_sem, eA, scal1, nz_wrap, nz_sub1, nz_sub, nz_add1, nz_add, nz_mul2, zz15, zz16, vsat, vslen, vsset, vsset2, vsswp, ev7_len, ev7_all, ev7_frz, zz14, vstdiv8]
          refine call0 300 trivial trivial hcc (.inl rfl) (fun A eA => ?_)
          simp (disch := omega) only [go_sem, eA, scal1, nz_wrap, nz_sub1, nz_sub, nz_add1, nz_add, nz_mul2, zz15, zz16, vsat, vslen, vsset, vsset2, vsswp, ev7_len, ev7_all, ev7_frz, zz14, vstdiv8]
          have rp := vsrangeP hc (vslt c) D2 hq1 hq2
          have cpp := vspart_h (f := f) (d := d) (g := g) hc (by omega) a b q hq1 hq2 hb D2 hs2
          rw [vsrest_p hc (vslt c) a b l2 true true q D2 hq1 hq2 hle]
          have IL := fun D => ihC a (partition (vslt c) D2 a b q).1 l2 D (by omega) (by omega) (by omega)
          have IR := fun D => ihC ((partition (vslt c) D2 a b q).1 + 1) b l2 D (by omega) (by omega) hb
          have JL := fun wb wp D => ihL a (partition (vslt c) D2 a b q).1 l2 wb wp D (by omega) (by omega) (by omega)
          have JR := fun wb wp D => ihL ((partition (vslt c) D2 a b q).1 + 1) b l2 wb wp D (by omega) (by omega) hb
          generalize partition (vslt c) D2 a b q = r at *
          obtain ⟨mid, ap, D4⟩ := r
          simp only at rp cpp IL IR JL JR ⊢
          have hs4 : D4.size = n := by omega
          refine call2 300 trivial trivial [(f, d)] (by simp only [go_sem] <;> rfl) (by simp only [go_sem] <;> rfl) (cpp _) (.inl rfl) (fun A eA => ?_)
          by_cases hlr : mid - a < b - mid
          · rw [if_pos hlr]
            have z := vsszQ hc (vslt c) (mid - a) a mid l2 true true D4 (Nat.le_refl _) (by omega) (by omega)
            have J := JR (decide (mid - a ≥ (b - a) / 8)) ap _ (z.trans hs4) hl2
            have I := IL D4 hs4 hl2
            unfold vsCall at I
            generalize pdq (vslt c) D4 a mid l2 true true = D5 at *
            simp (disch := omega) only [go_sem, eA, scal1, nz_wrap, nz_sub1, nz_sub, nz_add1, nz_add, nz_mul2, zz15, zz16, vsat, vslen, vsset, vsset2, vsswp, ev7_len, ev7_all, ev7_frz, zz14, vstdiv8]
            refine call2x 300 trivial trivial [(f, d)] (by simp only [go_sem] <;> rfl) (by simp only [go_sem] <;> rfl) (I _) (.inl rfl) (fun nx' A eA => ?_)
            by_cases hge : mid - a ≥ (b - a) / 8
            · rw [decide_eq_true hge] at J ⊢
              simp (disch := omega) only [go_sem, eA, scal1, nz_wrap, nz_sub1, nz_sub, nz_add1, nz_add, nz_mul2, zz15, zz16, vsat, vslen, vsset, vsset2, vsswp, ev7_len, ev7_all, ev7_frz, zz14, vstdiv8]
              exact J _
            · rw [decide_eq_false hge] at J ⊢
              simp (disch := omega) only [go_sem, eA, scal1, nz_wrap, nz_sub1, nz_sub, nz_add1, nz_add, nz_mul2, zz15, zz16, vsat, vslen, vsset, vsset2, vsswp, ev7_len, ev7_all, ev7_frz, zz14, vstdiv8]
              exact J _
          · rw [if_neg hlr]
            have z := vsszQ hc (vslt c) (b - (mid + 1)) (mid + 1) b l2 true true D4 (Nat.le_refl _) (by omega) (by omega)
            have J := JL (decide (b - mid ≥ (b - a) / 8)) ap _ (z.trans hs4) hl2
            have I := IR D4 hs4 hl2
            unfold vsCall at I
            generalize pdq (vslt c) D4 (mid + 1) b l2 true true = D5 at *
            simp (disch := omega) only [go_sem, eA, scal1, nz_wrap, nz_sub1, nz_sub, nz_add1, nz_add, nz_mul2, zz15, zz16, vsat, vslen, vsset, vsset2, vsswp, ev7_len, ev7_all, ev7_frz, zz14, vstdiv8]
            refine call2x 300 trivial trivial [(f, d)] (by simp only [go_sem] <;> rfl) (by simp only [go_sem] <;> rfl) (I _) (.inl rfl) (fun nx' A eA => ?_)
            by_cases hge : b - mid ≥ (b - a) / 8
            · rw [decide_eq_true hge] at J ⊢
              simp (disch := omega) only [go_sem, eA, scal1, nz_wrap, nz_sub1, nz_sub, nz_add1, nz_add, nz_mul2, zz15, zz16, vsat, vslen, vsset, vsset2, vsswp, ev7_len, ev7_all, ev7_frz, zz14, vstdiv8]
              exact J _
            · rw [decide_eq_false hge] at J ⊢
              simp (disch := omega) only [go_sem, eA, scal1, nz_wrap, nz_sub1, nz_sub, nz_add1, nz_add, nz_mul2, zz15, zz16, vsat, vslen, vsset, vsset2, vsswp, ev7_len, ev7_all, ev7_frz, zz14, vstdiv8]
              exact J _
  | unknown =>
    have e1 : vshc .unknown = 0 := rfl
    simp only [reduceCtorEq, if_false, if_true, decide_false, e1] at cch ⊢
    obtain ⟨q, hqe⟩ : ∃ q, q = p := ⟨_, rfl⟩
    obtain ⟨D2, hDe⟩ : ∃ D2, D2 = D := ⟨_, rfl⟩
    subst hqe hDe
    have hq1 := p1; have hq2 := p2
    have hs2 : D2.size = n := by assumption
    have hqe : True := trivial
    rw [vsrest_no (vslt c) a b l2 true true _ q D2 rfl]
    by_cases ha0 : a = 0
    · have hle : a = 0 ∨ vslt c D2[a - 1]! D2[q]! = true := .inl ha0
      simp (disch := omega) only [go_sem, eA, scal1, nz_wrap, nz_sub1, nz_sub, nz_add1, nz_add, nz_mul2, zz15, zz16, vsat, vslen, vsset, vsset2, vsswp, ev7_len, ev7_all, ev7_frz, zz14, vstdiv8, e1, hqe]
      have rp := vsrangeP hc (vslt c) D2 hq1 hq2
      have cpp := vspart_h (f := f) (d := d) (g := g) hc (by omega) a b q hq1 hq2 hb D2 hs2
      rw [vsrest_p hc (vslt c) a b l2 true true q D2 hq1 hq2 hle]
      have IL := fun D => ihC a (partition (vslt c) D2 a b q).1 l2 D (by omega) (by omega) (by omega)
      have IR := fun D => ihC ((partition (vslt c) D2 a b q).1 + 1) b l2 D (by omega) (by omega) hb
      have JL := fun wb wp D => ihL a (partition (vslt c) D2 a b q).1 l2 wb wp D (by omega) (by omega) (by omega)
      have JR := fun wb wp D => ihL ((partition (vslt c) D2 a b q).1 + 1) b l2 wb wp D (by omega) (by omega) hb
      generalize partition (vslt c) D2 a b q = r at *
      obtain ⟨mid, ap, D4⟩ := r
      simp only at rp cpp IL IR JL JR ⊢
      have hs4 : D4.size = n := by omega
      refine call2 300 trivial trivial [(f, d)] (by simp only [go_sem] <;> rfl) (by simp only [go_sem] <;> rfl) (cpp _) (.inl rfl) (fun A eA => ?_)
      by_cases hlr : mid - a < b - mid
      · rw [if_pos hlr]
        have z := vsszQ hc (vslt c) (mid - a) a mid l2 true true D4 (Nat.le_refl _) (by omega) (by omega)
        have J := JR (decide (mid - a ≥ (b - a) / 8)) ap _ (z.trans hs4) hl2
        have I := IL D4 hs4 hl2
        unfold vsCall at I
        generalize pdq (vslt c) D4 a mid l2 true true = D5 at *
        simp (disch := omega) only [go_sem, eA, scal1, nz_wrap, nz_sub1, nz_sub, nz_add1, nz_add, nz_mul2, zz15, zz16, vsat, vslen, vsset, vsset2, vsswp, ev7_len, ev7_all, ev7_frz, zz14, vstdiv8, e1, hqe]
        refine call2x 300 trivial trivial [(f, d)] (by simp only [go_sem] <;> rfl) (by simp only [go_sem] <;> rfl) (I _) (.inl rfl) (fun nx' A eA => ?_)
        by_cases hge : mid - a ≥ (b - a) / 8
        · rw [decide_eq_true hge] at J ⊢
          simp (disch := omega) only [go_sem, eA, scal1, nz_wrap, nz_sub1, nz_sub, nz_add1, nz_add, nz_mul2, zz15, zz16, vsat, vslen, vsset, vsset2, vsswp, ev7_len, ev7_all, ev7_frz, zz14, vstdiv8, e1, hqe]
          exact J _
        · rw [decide_eq_false hge] at J ⊢
          simp (disch := omega) only [go_sem, eA, scal1, nz_wrap, nz_sub1, nz_sub, nz_add1, nz_add, nz_mul2, zz15, zz16, vsat, vslen, vsset, vsset2, vsswp, ev7_len, ev7_all, ev7_frz, zz14, vstdiv8, e1, hqe]
          exact J _
      · rw [if_neg hlr]
        have z := vsszQ hc (vslt c) (b - (mid + 1)) (mid + 1) b l2 true true D4 (Nat.le_refl _) (by omega) (by omega)
        have J := JL (decide (b - mid ≥ (b - a) / 8)) ap _ (z.trans hs4) hl2
        have I := IR D4 hs4 hl2
        unfold vsCall at I
        generalize pdq (vslt c) D4 (mid + 1) b l2 true true = D5 at *
        simp (disch := omega) only [go_sem, eA, scal1, nz_wrap, nz_sub1, nz_sub, nz_add1, nz_add, nz_mul2, zz15, zz16, vsat, vslen, vsset, vsset2, vsswp, ev7_len, ev7_all, ev7_frz, zz14, vstdiv8, e1, hqe]
        refine call2x 300 trivial trivial [(f, d)] (by simp only [go_sem] <;> rfl) (by simp only [go_sem] <;> rfl) (I _) (.inl rfl) (fun nx' A eA => ?_)
        by_cases hge : b - mid ≥ (b - a) / 8
        · rw [decide_eq_true hge] at J ⊢
          simp (disch := omega) only [go_sem, eA, scal1, nz_wrap, nz_sub1, nz_sub, nz_add1, nz_add, nz_mul2, zz15, zz16, vsat, vslen, vsset, vsset2, vsswp, ev7_len, ev7_all, ev7_frz, zz14, vstdiv8, e1, hqe]
          exact J _
        · rw [decide_eq_false hge] at J ⊢
          simp (disch := omega) only [go_sem, eA, scal1, nz_wrap, nz_sub1, nz_sub, nz_add1, nz_add, nz_mul2, zz15, zz16, vsat, vslen, vsset, vsset2, vsswp, ev7_len, ev7_all, ev7_frz, zz14, vstdiv8, e1, hqe]
          exact J _
    · have hcc := hc.calls D2[a - 1]! D2[q]!
      cases hlx : vslt c D2[a - 1]! D2[q]! with
      | false =>
        have hlx' := vsltF hlx
        have re := vsrangeE (vslt c) D2 hq1 hq2 (by omega)
        have cpe := vsparteq_h (f := f) (d := d) (g := g) hc (by omega) a b q hq1 hq2 hb D2 hs2
        rw [vsrest_e (vslt c) a b l2 true true q D2 hq1 hq2 (by omega) (by omega) hlx]
        have J := fun D => ihL (partitionEqual (vslt c) D2 a b q).1 b l2 true true D (by omega) (by omega) hb
        generalize partitionEqual (vslt c) D2 a b q = r at *
        obtain ⟨mid, D4⟩ := r
        simp only at re cpe J ⊢
        have J := J D4 (by omega) hl2
        simp (disch := omega) only [go_sem, eA, scal1, nz_wrap, nz_sub1, nz_sub, nz_add1, nz_add, nz_mul2, zz15, zz16, vsat, vslen, vsset, vsset2, vsswp, ev7_len, ev7_all, ev7_frz, zz14, vstdiv8, e1, hqe]
        refine call0 300 trivial trivial hcc (.inl rfl) (fun A eA => ?_)
        simp (disch := omega) only [go_sem, eA, scal1, nz_wrap, nz_sub1, nz_sub, nz_add1, nz_add, nz_mul2, zz15, zz16, vsat, vslen, vsset, vsset2, vsswp, ev7_len, ev7_all, ev7_frz, zz14, vstdiv8, e1, hqe]
        refine call2 300 trivial trivial [(f, d)] (by simp only [go_sem] <;> rfl) (by simp only [go_sem] <;> rfl) (cpe _) (.inl rfl) (fun A eA => ?_)
        simp (disch := omega) only [go_sem, eA, scal1, nz_wrap, nz_sub1, nz_sub, nz_add1, nz_add, nz_mul2, zz15, zz16, vsat, vslen, vsset, vsset2, vsswp, ev7_len, ev7_all, ev7_frz, zz14, vstdiv8, e1, hqe]
        exact J _
      | true =>
        have hlx' := vsltT hlx
        have hle : a = 0 ∨ vslt c D2[a - 1]! D2[q]! = true := .inr hlx
        simp (disch := omega) only [go_sem, eA, scal1, nz_wrap, nz_sub1, nz_sub, nz_add1, nz_add, nz_mul2, zz15, zz16, vsat, vslen, vsset, vsset2, vsswp, ev7_len, ev7_all, ev7_frz, zz14, vstdiv8, e1, hqe]
        refine call0 300 trivial trivial hcc (.inl rfl) (fun A eA => ?_)
        simp (disch := omega) only [go_sem, eA, scal1, nz_wrap, nz_sub1, nz_sub, nz_add1, nz_add, nz_mul2, zz15, zz16, vsat, vslen, vsset, vsset2, vsswp, ev7_len, ev7_all, ev7_frz, zz14, vstdiv8, e1, hqe]
        have rp := vsrangeP hc (vslt c) D2 hq1 hq2
        have cpp := vspart_h (f := f) (d := d) (g := g) hc (by omega) a b q hq1 hq2 hb D2 hs2
        rw [vsrest_p hc (vslt c) a b l2 true true q D2 hq1 hq2 hle]
        have IL := fun D => ihC a (partition (vslt c) D2 a b q).1 l2 D (by omega) (by omega) (by omega)
        have IR := fun D => ihC ((partition (vslt c) D2 a b q).1 + 1) b l2 D (by omega) (by omega) hb
        have JL := fun wb wp D => ihL a (partition (vslt c) D2 a b q).1 l2 wb wp D (by omega) (by omega) (by omega)
        have JR := fun wb wp D => ihL ((partition (vslt c) D2 a b q).1 + 1) b l2 wb wp D (by omega) (by omega) hb
        generalize partition (vslt c) D2 a b q = r at *
        obtain ⟨mid, ap, D4⟩ := r
        simp only at rp cpp IL IR JL JR ⊢
        have hs4 : D4.size = n := by omega
        refine call2 300 trivial trivial [(f, d)] (by simp only [go_sem] <;> rfl) (by simp only [go_sem] <;> rfl) (cpp _) (.inl rfl) (fun A eA => ?_)
        by_cases hlr : mid - a < b - mid
        · rw [if_pos hlr]
          have z := vsszQ hc (vslt c) (mid - a) a mid l2 true true D4 (Nat.le_refl _) (by omega) (by omega)
          have J := JR (decide (mid - a ≥ (b - a) / 8)) ap _ (z.trans hs4) hl2
          have I := IL D4 hs4 hl2
          unfold vsCall at I
          generalize pdq (vslt c) D4 a mid l2 true true = D5 at *
          simp (disch := omega) only [go_sem, eA, scal1, nz_wrap, nz_sub1, nz_sub, nz_add1, nz_add, nz_mul2, zz15, zz16, vsat, vslen, vsset, vsset2, vsswp, ev7_len, ev7_all, ev7_frz, zz14, vstdiv8, e1, hqe]
          refine call2x 300 trivial trivial [(f, d)] (by simp only [go_sem] <;> rfl) (by simp only [go_sem] <;> rfl) (I _) (.inl rfl) (fun nx' A eA => ?_)
          by_cases hge : mid - a ≥ (b - a) / 8
          · rw [decide_eq_true hge] at J ⊢
            simp (disch := omega) only [go_sem, eA, scal1, nz_wrap, nz_sub1, nz_sub, nz_add1, nz_add, nz_mul2, zz15, zz16, vsat, vslen, vsset, vsset2, vsswp, ev7_len, ev7_all, ev7_frz, zz14, vstdiv8, e1, hqe]
            exact J _
          · rw [decide_eq_false hge] at J ⊢
            simp (disch := omega) only [go_sem, eA, scal1, nz_wrap, nz_sub1, nz_sub, nz_add1, nz_add, nz_mul2, zz15, zz16, vsat, vslen, vsset, vsset2, vsswp, ev7_len, ev7_all, ev7_frz, zz14, vstdiv8, e1, hqe]
            exact J _
        · rw [if_neg hlr]
          have z := vsszQ hc (vslt c) (b - (mid + 1)) (mid + 1) b l2 true true D4 (Nat.le_refl _) (by omega) (by omega)
          have J := JL (decide (b - mid ≥ (b - a) / 8)) ap _ (z.trans hs4) hl2
          have I := IR D4 hs4 hl2
          unfold vsCall at I
          generalize pdq (vslt c) D4 (mid + 1) b l2 true true = D5 at *
          simp (disch := omega) only [go_sem, eA, scal1, nz_wrap, nz_sub1, nz_sub, nz_add1, nz_add, nz_mul2, zz15, zz16, vsat, vslen, vsset, vsset2, vsswp, ev7_len, ev7_all, ev7_frz, zz14, vstdiv8, e1, hqe]
          refine call2x 300 trivial trivial [(f, d)] (by simp only [go_sem] <;> rfl) (by simp only [go_sem] <;> rfl) (I _) (.inl rfl) (fun nx' A eA => ?_)
          by_cases hge : b - mid ≥ (b - a) / 8
          · rw [decide_eq_true hge] at J ⊢
            simp (disch := omega) only [go_sem, eA, scal1, nz_wrap, nz_sub1, nz_sub, nz_add1, nz_add, nz_mul2, zz15, zz16, vsat, vslen, vsset, vsset2, vsswp, ev7_len, ev7_all, ev7_frz, zz14, vstdiv8, e1, hqe]
            exact J _
          · rw [decide_eq_false hge] at J ⊢
            simp (disch := omega) only [go_sem, eA, scal1, nz_wrap, nz_sub1, nz_sub, nz_add1, nz_add, nz_mul2, zz15, zz16, vsat, vslen, vsset, vsset2, vsswp, ev7_len, ev7_all, ev7_frz, zz14, vstdiv8, e1, hqe]
            exact J _
end
end Go.Proofs.Ytmokhopjnjecbac
/- The library's sort at elements of 7 cells: the sort walked. Printed by programs of mine (mk10.py, sortgen.py). -/
-- short
-- om
-- fuel 300
namespace Go.Proofs.Ytmokhopjnjecbac
open Go.Ev Go.Sort
set_option linter.unusedVariables false
set_option linter.unusedSimpArgs false
set_option linter.unusedSectionVars false
set_option maxRecDepth 100000
set_option maxHeartbeats 12800000
section
variable {F : Nat} {c : Ver → Ver → Int} (hc : vsCmp F c) {f d g n : Nat}
include hc
theorem vsstep_tf (hd : 11 < d) (hn : n < 50) (a b limit : Nat) (D : Array Ver) (hD : D.size = n) (h12 : ¬ b - a ≤ 12) (hab : a ≤ b) (hb : b ≤ n) (hl1 : 1 ≤ limit) (hl : limit ≤ 1000)
    (ihL : ∀ (a' b' l' : Nat) (wb wp : Bool) (D' : Array Ver), b' - a' < b - a → a' ≤ b' → b' ≤ n → D'.size = n → l' ≤ 1000 → vsLoop F c f d g n a' b' l' wb wp D')
    (ihC : ∀ (a' b' l' : Nat) (D' : Array Ver), b' - a' < b - a → a' ≤ b' → b' ≤ n → D'.size = n → l' ≤ 1000 → vsCall F c f d g n a' b' l' D') : vsLoop F c f d g n a b limit true false D := by
  intro nx
  rw [vspdq_eq (vslt c) D a b limit true false h12 (by omega)]
  simp only [Bool.not_true, Bool.false_eq_true, if_false]
  obtain ⟨p1, p2⟩ := choosePivot_holds (vslt c) D a b (by omega)
  have cch := vschoose_h (f := f) (g := g) hc hd hn a b (by omega) hb D hD
  have crv := vsrev_h (F := F) (f := f) (d := d) (g := g) (n := n) (by omega) a b (by omega) hb D hD
  have hsr : (reverseRange D a b).size = n := by rw [vsszRv]; exact hD
  generalize reverseRange D a b = Dr at *
  generalize choosePivot (vslt c) D a b = cp at *
  obtain ⟨p, hint⟩ := cp
  simp only at p1 p2 cch ⊢
  obtain ⟨l2, el2⟩ : ∃ l2, l2 = limit := ⟨_, rfl⟩
  have hl2 : l2 ≤ 1000 := by omega
  subst el2
  obtain ⟨wb0, ewb⟩ : ∃ x : Bool, x = true := ⟨_, rfl⟩
  obtain ⟨wp0, ewp⟩ : ∃ x : Bool, x = false := ⟨_, rfl⟩
  refine round (its := [.blk 0 wb_z10z_0]) (k0 := []) 300 trivial trivial (fun A eA => ?_)
  simp (disch := omega) only [go_sem, eA, scal1, nz_wrap, nz_sub1, nz_sub, nz_add1, nz_add, nz_mul2, zz15, zz16, vsat, vslen, vsset, vsset2, vsswp, ev7_len, ev7_all, ev7_frz, zz14, vstdiv8]
  refine call2 300 trivial trivial [(f, d)] (by simp only [go_sem] <;> rfl) (by simp only [go_sem] <;> rfl) (cch _) (.inl rfl) (fun A eA => ?_)
  cases hint with
  | increasing =>
    have e1 : vshc .increasing = 1 := rfl
    simp only [reduceCtorEq, if_false, if_true, decide_true, e1] at cch ⊢
    obtain ⟨q, hqe⟩ : ∃ q, q = p := ⟨_, rfl⟩
    obtain ⟨D2, hDe⟩ : ∃ D2, D2 = D := ⟨_, rfl⟩
    subst hqe hDe
    have hq1 := p1; have hq2 := p2
    have hs2 : D2.size = n := by assumption
    have hqe : True := trivial
    rw [vsrest_no (vslt c) a b l2 true false _ q D2 rfl]
    by_cases ha0 : a = 0
    · have hle : a = 0 ∨ vslt c D2[a - 1]! D2[q]! = true := .inl ha0
      simp (disch := omega) only [go_sem, eA, scal1, nz_wrap, nz_sub1, nz_sub, nz_add1, nz_add, nz_mul2, zz15, zz16, vsat, vslen, vsset, vsset2, vsswp, ev7_len, ev7_all, ev7_frz, zz14, vstdiv8, e1, hqe]
      have rp := vsrangeP hc (vslt c) D2 hq1 hq2
      have cpp := vspart_h (f := f) (d := d) (g := g) hc (by omega) a b q hq1 hq2 hb D2 hs2
      rw [vsrest_p hc (vslt c) a b l2 true false q D2 hq1 hq2 hle]
      have IL := fun D => ihC a (partition (vslt c) D2 a b q).1 l2 D (by omega) (by omega) (by omega)
      have IR := fun D => ihC ((partition (vslt c) D2 a b q).1 + 1) b l2 D (by omega) (by omega) hb
      have JL := fun wb wp D => ihL a (partition (vslt c) D2 a b q).1 l2 wb wp D (by omega) (by omega) (by omega)
      have JR := fun wb wp D => ihL ((partition (vslt c) D2 a b q).1 + 1) b l2 wb wp D (by omega) (by omega) hb
      generalize partition (vslt c) D2 a b q = r at *
      obtain ⟨mid, ap, D4⟩ := r
      simp only at rp cpp IL IR JL JR ⊢
      have hs4 : D4.size = n := by omega
      refine call2 300 trivial trivial [(f, d)] (by simp only [go_sem] <;> rfl) (by simp only [go_sem] <;> rfl) (cpp _) (.inl rfl) (fun A eA => ?_)
      by_cases hlr : mid - a < b - mid
      · rw [if_pos hlr]
        have z := vsszQ hc (vslt c) (mid - a) a mid l2 true true D4 (Nat.le_refl _) (by omega) (by omega)
        have J := JR (decide (mid - a ≥ (b - a) / 8)) ap _ (z.trans hs4) hl2
        have I := IL D4 hs4 hl2
        unfold vsCall at I
        generalize pdq (vslt c) D4 a mid l2 true true = D5 at *
        simp (disch := omega) only [go_sem, eA, scal1, nz_wrap, nz_sub1, nz_sub, nz_add1, nz_add, nz_mul2, zz15, zz16, vsat, vslen, vsset, vsset2, vsswp, ev7_len, ev7_all, ev7_frz, zz14, vstdiv8, e1, hqe]
        refine call2x 300 trivial trivial [(f, d)] (by simp only [go_sem] <;> rfl) (by simp only [go_sem] <;> rfl) (I _) (.inl rfl) (fun nx' A eA => ?_)
        by_cases hge : mid - a ≥ (b - a) / 8
        · rw [decide_eq_true hge] at J ⊢
          simp (disch := omega) only [go_sem, eA, scal1, nz_wrap, nz_sub1, nz_sub, nz_add1, nz_add, nz_mul2, zz15, zz16, vsat, vslen, vsset, vsset2, vsswp, ev7_len, ev7_all, ev7_frz, zz14, vstdiv8, e1, hqe]
          exact J _
        · rw [decide_eq_false hge] at J ⊢
          simp (disch := omega) only [go_sem, eA, scal1, nz_wrap, nz_sub1, nz_sub, nz_add1, nz_add, nz_mul2, zz15, zz16, vsat, vslen, vsset, vsset2, vsswp, ev7_len, ev7_all, ev7_frz, zz14, vstdiv8, e1, hqe]
          exact J _
      · rw [if_neg hlr]
        have z := vsszQ hc (vslt c) (b - (mid + 1)) (mid + 1) b l2 true true D4 (Nat.le_refl _) (by omega) (by omega)
        have J := JL (decide (b - mid ≥ (b - a) / 8)) ap _ (z.trans hs4) hl2
        have I := IR D4 hs4 hl2
        unfold vsCall at I
        generalize pdq (vslt c) D4 (mid + 1) b l2 true true = D5 at *
        simp (disch := omega) only [go_sem, eA, scal1, nz_wrap, nz_sub1, nz_sub, nz_add1, nz_add, nz_mul2, zz15, zz16, vsat, vslen, vsset, vsset2, vsswp, ev7_len, ev7_all, ev7_frz, zz14, vstdiv8, e1, hqe]
        refine call2x 300 trivial trivial [(f, d)] (by simp only [go_sem] <;> rfl) (by simp only [go_sem] <;> rfl) (I _) (.inl rfl) (fun nx' A eA => ?_)
        by_cases hge : b - mid ≥ (b - a) / 8
        · rw [decide_eq_true hge] at J ⊢
          simp (disch := omega) only [go_sem, eA, scal1, nz_wrap, nz_sub1, nz_sub, nz_add1, nz_add, nz_mul2, zz15, zz16, vsat, vslen, vsset, vsset2, vsswp, ev7_len, ev7_all, ev7_frz, zz14, vstdiv8, e1, hqe]
          exact J _
        · rw [decide_eq_false hge] at J ⊢
          simp (disch := omega) only [go_sem, eA, scal1, nz_wrap, nz_sub1, nz_sub, nz_add1, nz_add, nz_mul2, zz15, zz16, vsat, vslen, vsset, vsset2, vsswp, ev7_len, ev7_all, ev7_frz, zz14, vstdiv8, e1, hqe]
          exact J _
    · have hcc := hc.calls D2[a - 1]! D2[q]!
      cases hlx : vslt c D2[a - 1]! D2[q]! with
      | false =>
        have hlx' := vsltF hlx
        have re := vsrangeE (vslt c) D2 hq1 hq2 (by omega)
        have cpe := vsparteq_h (f := f) (d := d) (g := g) hc (by omega) a b q hq1 hq2 hb D2 hs2
        rw [vsrest_e (vslt c) a b l2 true false q D2 hq1 hq2 (by omega) (by omega) hlx]
        have J := fun D => ihL (partitionEqual (vslt c) D2 a b q).1 b l2 true false D (by omega) (by omega) hb
        generalize partitionEqual (vslt c) D2 a b q = r at *
        obtain ⟨mid, D4⟩ := r
        simp only at re cpe J ⊢
        have J := J D4 (by omega) hl2
        simp (disch := omega) only [go_sem, eA, scal1, nz_wrap, nz_sub1, nz_sub, nz_add1, nz_add, nz_mul2, zz15, zz16, vsat, vslen, vsset, vsset2, vsswp, ev7_len, ev7_all, ev7_frz, zz14, vstdiv8, e1, hqe]
        refine call0 300 trivial trivial hcc (.inl rfl) (fun A eA => ?_)
        simp (disch := omega) only [go_sem, eA, scal1, nz_wrap, nz_sub1, nz_sub, nz_add1, nz_add, nz_mul2, zz15, zz16, vsat, vslen, vsset, vsset2, vsswp, ev7_len, ev7_all, ev7_frz, zz14, vstdiv8, e1, hqe]
        refine call2 300 trivial trivial [(f, d)] (by simp only [go_sem] <;> rfl) (by simp only [go_sem] <;> rfl) (cpe _) (.inl rfl) (fun A eA => ?_)
        simp (disch := omega) only [go_sem, eA, scal1, nz_wrap, nz_sub1, nz_sub, nz_add1, nz_add, nz_mul2, zz15, zz16, vsat, vslen, vsset, vsset2, vsswp, ev7_len, ev7_all, ev7_frz, zz14, vstdiv8, e1, hqe]
        exact J _
      | true =>
        have hlx' := vsltT hlx
        have hle : a = 0 ∨ vslt c D2[a - 1]! D2[q]! = true := .inr hlx
        simp (disch := omega) only [go_sem, eA, scal1, nz_wrap, nz_sub1, nz_sub, nz_add1, nz_add, nz_mul2, zz15, zz16, vsat, vslen, vsset, vsset2, vsswp, ev7_len, ev7_all, ev7_frz, zz14, vstdiv8, e1, hqe]
        refine call0 300 trivial trivial hcc (.inl rfl) (fun A eA => ?_)
        simp (disch := omega) only [go_sem, eA, scal1, nz_wrap, nz_sub1, nz_sub, nz_add1, nz_add, nz_mul2, zz15, zz16, vsat, vslen, vsset, vsset2, vsswp, ev7_len, ev7_all, ev7_frz, zz14, vstdiv8, e1, hqe]
        have rp := vsrangeP hc (vslt c) D2 hq1 hq2
        have cpp := vspart_h (f := f) (d := d) (g := g) hc (by omega) a b q hq1 hq2 hb D2 hs2
        rw [vsrest_p hc (vslt c) a b l2 true false q D2 hq1 hq2 hle]
        have IL := fun D => ihC a (partition (vslt c) D2 a b q).1 l2 D (by omega) (by omega) (by omega)
        have IR := fun D => ihC ((partition (vslt c) D2 a b q).1 + 1) b l2 D (by omega) (by omega) hb
        have JL := fun wb wp D => ihL a (partition (vslt c) D2 a b q).1 l2 wb wp D (by omega) (by omega) (by omega)
        have JR := fun wb wp D => ihL ((partition (vslt c) D2 a b q).1 + 1) b l2 wb wp D (by omega) (by omega) hb
        generalize partition (vslt c) D2 a b q = r at *
        obtain ⟨mid, ap, D4⟩ := r
        simp only at rp cpp IL IR JL JR ⊢
        have hs4 : D4.size = n := by omega
        refine call2 300 trivial trivial [(f, d)] (by simp only [go_sem] <;> rfl) (by simp only [go_sem] <;> rfl) (cpp _) (.inl rfl) (fun A eA => ?_)
        by_cases hlr : mid - a < b - mid
        · rw [if_pos hlr]
          have z := vsszQ hc (vslt c) (mid - a) a mid l2 true true D4 (Nat.le_refl _) (by omega) (by omega)
          have J := JR (decide (mid - a ≥ (b - a) / 8)) ap _ (z.trans hs4) hl2
          have I := IL D4 hs4 hl2
          unfold vsCall at I
          generalize pdq (vslt c) D4 a mid l2 true true = D5 at *
          simp (disch := omega) only [go_sem, eA, scal1, nz_wrap, nz_sub1, nz_sub, nz_add1, nz_add, nz_mul2, zz15, zz16, vsat, vslen, vsset, vsset2, vsswp, ev7_len, ev7_all, ev7_frz, zz14, vstdiv8, e1, hqe]
          refine call2x 300 trivial trivial [(f, d)] (by simp only [go_sem] <;> rfl) (by simp only [go_sem] <;> rfl) (I _) (.inl rfl) (fun nx' A eA => ?_)
          by_cases hge : mid - a ≥ (b - a) / 8
          · rw [decide_eq_true hge] at J ⊢
            simp (disch := omega) only [go_sem, eA, scal1, nz_wrap, nz_sub1, nz_sub, nz_add1, nz_add, nz_mul2, zz15, zz16, vsat, vslen, vsset, vsset2, vsswp, ev7_len, ev7_all, ev7_frz, zz14, vstdiv8, e1, hqe]
            exact J _
          · rw [decide_eq_false hge] at J ⊢
            simp (disch := omega) only [go_sem, eA, scal1, nz_wrap, nz_sub1, nz_sub, nz_add1, nz_add, nz_mul2, zz15, zz16, vsat, vslen, vsset, vsset2, vsswp, ev7_len, ev7_all, ev7_frz, zz14, vstdiv8, e1, hqe]
            exact J _
        · rw [if_neg hlr]
          have z := vsszQ hc (vslt c) (b - (mid + 1)) (mid + 1) b l2 true true D4 (Nat.le_refl _) (by omega) (by omega)
          have J := JL (decide (b - mid ≥ (b - a) / 8)) ap _ (z.trans hs4) hl2
          have I := IR D4 hs4 hl2
          unfold vsCall at I
          generalize pdq (vslt c) D4 (mid + 1) b l2 true true = D5 at *
          simp (disch := omega) only [go_sem, eA, scal1, nz_wrap, nz_sub1, nz_sub, nz_add1, nz_add, nz_mul2, zz15, zz16, vsat, vslen, vsset, vsset2, vsswp, ev7_len, ev7_all, ev7_frz, zz14, vstdiv8, e1, hqe]
          refine call2x 300 trivial trivial [(f, d)] (by simp only [go_sem] <;> rfl) (by simp only [go_sem] <;> rfl) (I _) (.inl rfl) (fun nx' A eA => ?_)
          by_cases hge : b - mid ≥ (b - a) / 8
          · rw [decide_eq_true hge] at J ⊢
            simp (disch := omega) only [go_sem, eA, scal1, nz_wrap, nz_sub1, nz_sub, nz_add1, nz_add, nz_mul2, zz15, zz16, vsat, vslen, vsset, vsset2, vsswp, ev7_len, ev7_all, ev7_frz, zz14, vstdiv8, e1, hqe]
            exact J _
          · rw [decide_eq_false hge] at J ⊢
            simp (disch := omega) only [go_sem, eA, scal1, nz_wrap, nz_sub1, nz_sub, nz_add1, nz_add, nz_mul2, zz15, zz16, vsat, vslen, vsset, vsset2, vsswp, ev7_len, ev7_all, ev7_frz, zz14, vstdiv8, e1, hqe]
            exact J _
  | decreasing =>
    have e1 : vshc .decreasing = 2 := rfl
    simp only [reduceCtorEq, if_false, if_true, decide_true, e1] at cch ⊢
    simp (disch := omega) only [go_sem, eA, scal1, nz_wrap, nz_sub1, nz_sub, nz_add1, nz_add, nz_mul2, zz15, zz16, vsat, vslen, vsset, vsset2, vsswp, ev7_len, ev7_all, ev7_frz, zz14, vstdiv8, e1]
    refine call2 300 trivial trivial [(f, d)] (by simp only [go_sem] <;> rfl) (by simp only [go_sem] <;> rfl) (crv _) (.inl rfl) (fun A eA => ?_)
    obtain ⟨q, hqe⟩ : ∃ q, b - 1 - (p - a) = q := ⟨_, rfl⟩
    obtain ⟨D2, hDe⟩ : ∃ D2, D2 = Dr := ⟨_, rfl⟩
    subst hDe
    rw [hqe]
    have hq1 : a ≤ q := by omega
    have hq2 : q < b := by omega
    have hs2 : D2.size = n := by assumption
    rw [vsrest_no (vslt c) a b l2 true false _ q D2 rfl]
    by_cases ha0 : a = 0
    · have hle : a = 0 ∨ vslt c D2[a - 1]! D2[q]! = true := .inl ha0
      simp (disch := omega) only [go_sem, eA, scal1, nz_wrap, nz_sub1, nz_sub, nz_add1, nz_add, nz_mul2, zz15, zz16, vsat, vslen, vsset, vsset2, vsswp, ev7_len, ev7_all, ev7_frz, zz14, vstdiv8, e1, hqe]
      have rp := vsrangeP hc (vslt c) D2 hq1 hq2
      have cpp := vspart_h (f := f) (d := d) (g := g) hc (by omega) a b q hq1 hq2 hb D2 hs2
      rw [vsrest_p hc (vslt c) a b l2 true false q D2 hq1 hq2 hle]
      have IL := fun D => ihC a (partition (vslt c) D2 a b q).1 l2 D (by omega) (by omega) (by omega)
      have IR := fun D => ihC ((partition (vslt c) D2 a b q).1 + 1) b l2 D (by omega) (by omega) hb
      have JL := fun wb wp D => ihL a (partition (vslt c) D2 a b q).1 l2 wb wp D (by omega) (by omega) (by omega)
      have JR := fun wb wp D => ihL ((partition (vslt c) D2 a b q).1 + 1) b l2 wb wp D (by omega) (by omega) hb
      generalize partition (vslt c) D2 a b q = r at *
      obtain ⟨mid, ap, D4⟩ := r
      simp only at rp cpp IL IR JL JR ⊢
      have hs4 : D4.size = n := by omega
      refine call2 300 trivial trivial [(f, d)] (by simp only [go_sem] <;> rfl) (by simp only [go_sem] <;> rfl) (cpp _) (.inl rfl) (fun A eA => ?_)
      by_cases hlr : mid - a < b - mid
      · rw [if_pos hlr]
        have z := vsszQ hc (vslt c) (mid - a) a mid l2 true true D4 (Nat.le_refl _) (by omega) (by omega)
        have J := JR (decide (mid - a ≥ (b - a) / 8)) ap _ (z.trans hs4) hl2
        have I := IL D4 hs4 hl2
        unfold vsCall at I
        generalize pdq (vslt c) D4 a mid l2 true true = D5 at *
        simp (disch := omega) only [go_sem, eA, scal1, nz_wrap, nz_sub1, nz_sub, nz_add1, nz_add, nz_mul2, zz15, zz16, vsat, vslen, vsset, vsset2, vsswp, ev7_len, ev7_all, ev7_frz, zz14, vstdiv8, e1, hqe]
        refine call2x 300 trivial trivial [(f, d)] (by simp only [go_sem] <;> rfl) (by simp only [go_sem] <;> rfl) (I _) (.inl rfl) (fun nx' A eA => ?_)
        by_cases hge : mid - a ≥ (b - a) / 8
        · rw [decide_eq_true hge] at J ⊢
          simp (disch := omega) only [go_sem, eA, scal1, nz_wrap, nz_sub1, nz_sub, nz_add1, nz_add, nz_mul2, zz15, zz16, vsat, vslen, vsset, vsset2, vsswp, ev7_len, ev7_all, ev7_frz, zz14, vstdiv8, e1, hqe]
          exact J _
        · rw [decide_eq_false hge] at J ⊢
          simp (disch := omega) only [go_sem, eA, scal1, nz_wrap, nz_sub1, nz_sub, nz_add1, nz_add, nz_mul2, zz15, zz16, vsat, vslen, vsset, vsset2, vsswp, ev7_len, ev7_all, ev7_frz, zz14, vstdiv8, e1, hqe]
          exact J _
      · rw [if_neg hlr]
        have z := vsszQ hc (vslt c) (b - (mid + 1)) (mid + 1) b l2 true true D4 (Nat.le_refl _) (by omega) (by omega)
        have J := JL (decide (b - mid ≥ (b - a) / 8)) ap _ (z.trans hs4) hl2
        have I := IR D4 hs4 hl2
        unfold vsCall at I
        generalize pdq (vslt c) D4 (mid + 1) b l2 true true = D5 at *
        simp (disch := omega) only [go_sem, eA, scal1, nz_wrap, nz_sub1, nz_sub, nz_add1, nz_add, nz_mul2, zz15, zz16, vsat, vslen, vsset, vsset2, vsswp, ev7_len, ev7_all, ev7_frz, zz14, vstdiv8, e1, hqe]
        refine call2x 300 trivial trivial [(f, d)] (by simp only [go_sem] <;> rfl) (by simp only [go_sem] <;> rfl) (I _) (.inl rfl) (fun nx' A eA => ?_)
        by_cases hge : b - mid ≥ (b - a) / 8
        · rw [decide_eq_true hge] at J ⊢
          simp (disch := omega) only [go_sem, eA, scal1, nz_wrap, nz_sub1, nz_sub, nz_add1, nz_add, nz_mul2, zz15, zz16, vsat, vslen, vsset, vsset2, vsswp, ev7_len, ev7_all, ev7_frz, zz14, vstdiv8, e1, hqe]
          exact J _
        · rw [decide_eq_false hge] at J ⊢
          simp (disch := omega) only [go_sem, eA, scal1, nz_wrap, nz_sub1, nz_sub, nz_add1, nz_add, nz_mul2, zz15, zz16, vsat, vslen, vsset, vsset2, vsswp, ev7_len, ev7_all, ev7_frz, zz14, vstdiv8, e1, hqe]
          exact J _
    · have hcc := hc.calls D2[a - 1]! D2[q]!
      cases hlx : vslt c D2[a - 1]! D2[q]! with
      | false =>
        have hlx' := vsltF hlx
        have re := vsrangeE (vslt c) D2 hq1 hq2 (by omega)
        have cpe := vsparteq_h (f := f) (d := d) (g := g) hc (by omega) a b q hq1 hq2 hb D2 hs2
        rw [vsrest_e (vslt c) a b l2 true false q D2 hq1 hq2 (by omega) (by omega) hlx]
        have J := fun D => ihL (partitionEqual (vslt c) D2 a b q).1 b l2 true false D (by omega) (by omega) hb
        generalize partitionEqual (vslt c) D2 a b q = r at *
        obtain ⟨mid, D4⟩ := r
        simp only at re cpe J ⊢
        have J := J D4 (by omega) hl2
        simp (disch := omega) only [go_sem, eA, scal1, nz_wrap, nz_sub1, nz_sub, nz_add1, nz_add, nz_mul2, zz15, zz16, vsat, vslen, vsset, vsset2, vsswp, ev7_len, ev7_all, ev7_frz, zz14, vstdiv8, e1, hqe]
        refine call0 300 trivial trivial hcc (.inl rfl) (fun A eA => ?_)
        simp (disch := omega) only [go_sem, eA, scal1, nz_wrap, nz_sub1, nz_sub, nz_add1, nz_add, nz_mul2, zz15, zz16, vsat, vslen, vsset, vsset2, vsswp, ev7_len, ev7_all, ev7_frz, zz14, vstdiv8, e1, hqe]
        refine call2 300 trivial trivial [(f, d)] (by simp only [go_sem] <;> rfl) (by simp only [go_sem] <;> rfl) (cpe _) (.inl rfl) (fun A eA => ?_)
        simp (disch := omega) only [go_sem, eA, scal1, nz_wrap, nz_sub1, nz_sub, nz_add1, nz_add, nz_mul2, zz15, zz16, vsat, vslen, vsset, vsset2, vsswp, ev7_len, ev7_all, ev7_frz, zz14, vstdiv8, e1, hqe]
        exact J _
      | true =>
        have hlx' := vsltT hlx
        have hle : a = 0 ∨ vslt c D2[a - 1]! D2[q]! = true := .inr hlx
        simp (disch := omega) only [go_sem, eA, scal1, nz_wrap, nz_sub1, nz_sub, nz_add1, nz_add, nz_mul2, zz15, zz16, vsat, vslen, vsset, vsset2, vsswp, ev7_len, ev7_all, ev7_frz, zz14, vstdiv8, e1, hqe]
        refine call0 300 trivial trivial hcc (.inl rfl) (fun A eA => ?_)
        simp (disch := omega) only [go_sem, eA, scal1, nz_wrap, nz_sub1, nz_sub, nz_add1, nz_add, nz_mul2, zz15, zz16, vsat, vslen, vsset, vsset2, vsswp, ev7_len, ev7_all, ev7_frz, zz14, vstdiv8, e1, hqe]
        have rp := vsrangeP hc (vslt c) D2 hq1 hq2
        have cpp := vspart_h (f := f) (d := d) (g := g) hc (by omega) a b q hq1 hq2 hb D2 hs2
        rw [vsrest_p hc (vslt c) a b l2 true false q D2 hq1 hq2 hle]
        have IL := fun D => ihC a (partition (vslt c) D2 a b q).1 l2 D (by omega) (by omega) (by omega)
        have IR := fun D => ihC ((partition (vslt c) D2 a b q).1 + 1) b l2 D (by omega) (by omega) hb
        have JL := fun wb wp D => ihL a (partition (vslt c) D2 a b q).1 l2 wb wp D (by omega) (by omega) (by omega)
        have JR := fun wb wp D => ihL ((partition (vslt c) D2 a b q).1 + 1) b l2 wb wp D (by omega) (by omega) hb
        generalize partition (vslt c) D2 a b q = r at *
        obtain ⟨mid, ap, D4⟩ := r
        simp only at rp cpp IL IR JL JR ⊢
        have hs4 : D4.size = n := by omega
        refine call2 300 trivial trivial [(f, d)] (by simp only [go_sem] <;> rfl) (by simp only [go_sem] <;> rfl) (cpp _) (.inl rfl) (fun A eA => ?_)
        by_cases hlr : mid - a < b - mid
        · rw [if_pos hlr]
          have z := vsszQ hc (vslt c) (mid - a) a mid l2 true true D4 (Nat.le_refl _) (by omega) (by omega)
          have J := JR (decide (mid - a ≥ (b - a) / 8)) ap _ (z.trans hs4) hl2
          have I := IL D4 hs4 hl2
          unfold vsCall at I
          generalize pdq (vslt c) D4 a mid l2 true true = D5 at *
          simp (disch := omega) only [go_sem, eA, scal1, nz_wrap, nz_sub1, nz_sub, nz_add1, nz_add, nz_mul2, zz15, zz16, vsat, vslen, vsset, vsset2, vsswp, ev7_len, ev7_all, ev7_frz, zz14, vstdiv8, e1, hqe]
          refine call2x 300 trivial trivial [(f, d)] (by simp only [go_sem] <;> rfl) (by simp only [go_sem] <;> rfl) (I _) (.inl rfl) (fun nx' A eA => ?_)
          by_cases hge : mid - a ≥ (b - a) / 8
          · rw [decide_eq_true hge] at J ⊢
            simp (disch := omega) only [go_sem, eA, scal1, nz_wrap, nz_sub1, nz_sub, nz_add1, nz_add, nz_mul2, zz15, zz16, vsat, vslen, vsset, vsset2, vsswp, ev7_len, ev7_all, ev7_frz, zz14, vstdiv8, e1, hqe]
            exact J _
          · rw [decide_eq_false hge] at J ⊢
            simp (disch := omega) only [go_sem, eA, scal1, nz_wrap, nz_sub1, nz_sub, nz_add1, nz_add, nz_mul2, zz15, zz16, vsat, vslen, vsset, vsset2, vsswp, ev7_len, ev7_all, ev7_frz, zz14, vstdiv8, e1, hqe]
            exact J _
        · rw [if_neg hlr]
          have z := vsszQ hc (vslt c) (b - (mid + 1)) (mid + 1) b l2 true true D4 (Nat.le_refl _) (by omega) (by omega)
          have J := JL (decide (b - mid ≥ (b - a) / 8)) ap _ (z.trans hs4) hl2
          have I := IR D4 hs4 hl2
          unfold vsCall at I
          generalize pdq (vslt c) D4 (mid + 1) b l2 true true = D5 at *
          simp (disch := omega) only [go_sem, eA, scal1, nz_wrap, nz_sub1, nz_sub, nz_add1, nz_add, nz_mul2, zz15, zz16, vsat, vslen, vsset, vsset2, vsswp, ev7_len, ev7_all, ev7_frz, zz14, vstdiv8, e1, hqe]
          refine call2x 300 trivial trivial [(f, d)] (by simp only [go_sem] <;> rfl) (by simp only [go_sem] <;> rfl) (I _) (.inl rfl) (fun nx' A eA => ?_)
          by_cases hge : b - mid ≥ (b - a) / 8
          · rw [decide_eq_true hge] at J ⊢
            simp (disch := omega) only [go_sem, eA, scal1, nz_wrap, nz_sub1, nz_sub, nz_add1, nz_add, nz_mul2, zz15, zz16, vsat, vslen, vsset, vsset2, vsswp, ev7_len, ev7_all, ev7_frz, zz14, vstdiv8, e1, hqe]
            exact J _
          · rw [decide_eq_false hge] at J ⊢
            simp (disch := omega) only [go_sem, eA, scal1, nz_wrap, nz_sub1, nz_sub, nz_add1, nz_add, nz_mul2, zz15, zz16, vsat, vslen, vsset, vsset2, vsswp, ev7_len, ev7_all, ev7_frz, zz14, vstdiv8, e1, hqe]
            exact J _
  | unknown =>
    have e1 : vshc .unknown = 0 := rfl
    simp only [reduceCtorEq, if_false, if_true, decide_false, e1] at cch ⊢
    obtain ⟨q, hqe⟩ : ∃ q, q = p := ⟨_, rfl⟩
    obtain ⟨D2, hDe⟩ : ∃ D2, D2 = D := ⟨_, rfl⟩
    subst hqe hDe
    have hq1 := p1; have hq2 := p2
    have hs2 : D2.size = n := by assumption
    have hqe : True := trivial
    rw [vsrest_no (vslt c) a b l2 true false _ q D2 rfl]
    by_cases ha0 : a = 0
    · have hle : a = 0 ∨ vslt c D2[a - 1]! D2[q]! = true := .inl ha0
      simp (disch := omega) only [go_sem, eA, scal1, nz_wrap, nz_sub1, nz_sub, nz_add1, nz_add, nz_mul2, zz15, zz16, vsat, vslen, vsset, vsset2, vsswp, ev7_len, ev7_all, ev7_frz, zz14, vstdiv8, e1, hqe]
      have rp := vsrangeP hc (vslt c) D2 hq1 hq2
      have cpp := vspart_h (f := f) (d := d) (g := g) hc (by omega) a b q hq1 hq2 hb D2 hs2
      rw [vsrest_p hc (vslt c) a b l2 true false q D2 hq1 hq2 hle]
      have IL := fun D => ihC a (partition (vslt c) D2 a b q).1 l2 D (by omega) (by omega) (by omega)
      have IR := fun D => ihC ((partition (vslt c) D2 a b q).1 + 1) b l2 D (by omega) (by omega) hb
      have JL := fun wb wp D => ihL a (partition (vslt c) D2 a b q).1 l2 wb wp D (by omega) (by omega) (by omega)
      have JR := fun wb wp D => ihL ((partition (vslt c) D2 a b q).1 + 1) b l2 wb wp D (by omega) (by omega) hb
      generalize partition (vslt c) D2 a b q = r at *
      obtain ⟨mid, ap, D4⟩ := r
      simp only at rp cpp IL IR JL JR ⊢
      have hs4 : D4.size = n := by omega
      refine call2 300 trivial trivial [(f, d)] (by simp only [go_sem] <;> rfl) (by simp only [go_sem] <;> rfl) (cpp _) (.inl rfl) (fun A eA => ?_)
      by_cases hlr : mid - a < b - mid
      · rw [if_pos hlr]
        have z := vsszQ hc (vslt c) (mid - a) a mid l2 true true D4 (Nat.le_refl _) (by omega) (by omega)
        have J := JR (decide (mid - a ≥ (b - a) / 8)) ap _ (z.trans hs4) hl2
        have I := IL D4 hs4 hl2
        unfold vsCall at I
        generalize pdq (vslt c) D4 a mid l2 true true = D5 at *
        simp (disch := omega) only [go_sem, eA, scal1, nz_wrap, nz_sub1, nz_sub, nz_add1, nz_add, nz_mul2, zz15, zz16, vsat, vslen, vsset, vsset2, vsswp, ev7_len, ev7_all, ev7_frz, zz14, vstdiv8, e1, hqe]
        refine call2x 300 trivial trivial [(f, d)] (by simp only [go_sem] <;> rfl) (by simp only [go_sem] <;> rfl) (I _) (.inl rfl) (fun nx' A eA => ?_)
        by_cases hge : mid - a ≥ (b - a) / 8
        · rw [decide_eq_true hge] at J ⊢
          simp (disch := omega) only [go_sem, eA, scal1, nz_wrap, nz_sub1, nz_sub, nz_add1, nz_add, nz_mul2, zz15, zz16, vsat, vslen, vsset, vsset2, vsswp, ev7_len, ev7_all, ev7_frz, zz14, vstdiv8, e1, hqe]
          exact J _
        · rw [decide_eq_false hge] at J ⊢
          simp (disch := omega) only [go_sem, eA, scal1, nz_wrap, nz_sub1, nz_sub, nz_add1, nz_add, nz_mul2, zz15, zz16, vsat, vslen, vsset, vsset2, vsswp, ev7_len, ev7_all, ev7_frz, zz14, vstdiv8, e1, hqe]
          exact J _
      · rw [if_neg hlr]
        have z := vsszQ hc (vslt c) (b - (mid + 1)) (mid + 1) b l2 true true D4 (Nat.le_refl _) (by omega) (by omega)
        have J := JL (decide (b - mid ≥ (b - a) / 8)) ap _ (z.trans hs4) hl2
        have I := IR D4 hs4 hl2
        unfold vsCall at I
        generalize pdq (vslt c) D4 (mid + 1) b l2 true true = D5 at *
        simp (disch := omega) only [go_sem, eA, scal1, nz_wrap, nz_sub1, nz_sub, nz_add1, nz_add, nz_mul2, zz15, zz16, vsat, vslen, vsset, vsset2, vsswp, ev7_len, ev7_all, ev7_frz, zz14, vstdiv8, e1, hqe]
        refine call2x 300 trivial trivial [(f, d)] (by simp only [go_sem] <;> rfl) (by simp only [go_sem] <;> rfl) (I _) (.inl rfl) (fun nx' A eA => ?_)
        by_cases hge : b - mid ≥ (b - a) / 8
        · rw [decide_eq_true hge] at J ⊢
          simp (disch := omega) only [go_sem, eA, scal1, nz_wrap, nz_sub1, nz_sub, nz_add1, nz_add, nz_mul2, zz15, zz16, vsat, vslen, vsset, vsset2, vsswp, ev7_len, ev7_all, ev7_frz, zz14, vstdiv8, e1, hqe]
          exact J _
        · rw [decide_eq_false hge] at J ⊢
          simp (disch := omega) only [go_sem, eA, scal1, nz_wrap, nz_sub1, nz_sub, nz_add1, nz_add, nz_mul2, zz15, zz16, vsat, vslen, vsset, vsset2, vsswp, ev7_len, ev7_all, ev7_frz, zz14, vstdiv8, e1, hqe]
          exact J _
    · have hcc := hc.calls D2[a - 1]! D2[q]!
      cases hlx : vslt c D2[a - 1]! D2[q]! with
      | false =>
        have hlx' := vsltF hlx
        have re := vsrangeE (vslt c) D2 hq1 hq2 (by omega)
        have cpe := vsparteq_h (f := f) (d := d) (g := g) hc (by omega) a b q hq1 hq2 hb D2 hs2
        rw [vsrest_e (vslt c) a b l2 true false q D2 hq1 hq2 (by omega) (by omega) hlx]
        have J := fun D => ihL (partitionEqual (vslt c) D2 a b q).1 b l2 true false D (by omega) (by omega) hb
        generalize partitionEqual (vslt c) D2 a b q = r at *
        obtain ⟨mid, D4⟩ := r
        simp only at re cpe J ⊢
        have J := J D4 (by omega) hl2
        simp (disch := omega) only [go_sem, eA, scal1, nz_wrap, nz_sub1, nz_sub, nz_add1, nz_add, nz_mul2, zz15, zz16, vsat, vslen, vsset, vsset2, vsswp, ev7_len, ev7_all, ev7_frz, zz14, vstdiv8, e1, hqe]
        refine call0 300 trivial trivial hcc (.inl rfl) (fun A eA => ?_)
        simp (disch := omega) only [go_sem, eA, scal1, nz_wrap, nz_sub1, nz_sub, nz_add1, nz_add, nz_mul2, zz15, zz16, vsat, vslen, vsset, vsset2, vsswp, ev7_len, ev7_all, ev7_frz, zz14, vstdiv8, e1, hqe]
        refine call2 300 trivial trivial [(f, d)] (by simp only [go_sem] <;> rfl) (by simp only [go_sem] <;> rfl) (cpe _) (.inl rfl) (fun A eA => ?_)
        simp (disch := omega) only [go_sem, eA, scal1, nz_wrap, nz_sub1, nz_sub, nz_add1, nz_add, nz_mul2, zz15, zz16, vsat, vslen, vsset, vsset2, vsswp, ev7_len, ev7_all, ev7_frz, zz14, vstdiv8, e1, hqe]
        exact J _
      | true =>
        have hlx' := vsltT hlx
        have hle : a = 0 ∨ vslt c D2[a - 1]! D2[q]! = true := .inr hlx
        simp (disch := omega) only [go_sem, eA, scal1, nz_wrap, nz_sub1, nz_sub, nz_add1, nz_add, nz_mul2, zz15, zz16, vsat, vslen, vsset, vsset2, vsswp, ev7_len, ev7_all, ev7_frz, zz14, vstdiv8, e1, hqe]
        refine call0 300 trivial trivial hcc (.inl rfl) (fun A eA => ?_)
        simp (disch := omega) only [go_sem, eA, scal1, nz_wrap, nz_sub1, nz_sub, nz_add1, nz_add, nz_mul2, zz15, zz16, vsat, vslen, vsset, vsset2, vsswp, ev7_len, ev7_all, ev7_frz, zz14, vstdiv8, e1, hqe]
        have rp := vsrangeP hc (vslt c) D2 hq1 hq2
        have cpp := vspart_h (f := f) (d := d) (g := g) hc (by omega) a b q hq1 hq2 hb D2 hs2
        rw [vsrest_p hc (vslt c) a b l2 true false q D2 hq1 hq2 hle]
        have IL := fun D => ihC a (partition (vslt c) D2 a b q).1 l2 D (by omega) (by omega) (by omega)
        have IR := fun D => ihC ((partition (vslt c) D2 a b q).1 + 1) b l2 D (by omega) (by omega) hb
        have JL := fun wb wp D => ihL a (partition (vslt c) D2 a b q).1 l2 wb wp D (by omega) (by omega) (by omega)
        have JR := fun wb wp D => ihL ((partition (vslt c) D2 a b q).1 + 1) b l2 wb wp D (by omega) (by omega) hb
        generalize partition (vslt c) D2 a b q = r at *
        obtain ⟨mid, ap, D4⟩ := r
        simp only at rp cpp IL IR JL JR ⊢
        have hs4 : D4.size = n := by omega
        refine call2 300 trivial trivial [(f, d)] (by simp only [go_sem] <;> rfl) (by simp only [go_sem] <;> rfl) (cpp _) (.inl rfl) (fun A eA => ?_)
        by_cases hlr : mid - a < b - mid
        · rw [if_pos hlr]
          have z := vsszQ hc (vslt c) (mid - a) a mid l2 true true D4 (Nat.le_refl _) (by omega) (by omega)
          have J := JR (decide (mid - a ≥ (b - a) / 8)) ap _ (z.trans hs4) hl2
          have I := IL D4 hs4 hl2
          unfold vsCall at I
          generalize pdq (vslt c) D4 a mid l2 true true = D5 at *
          simp (disch := omega) only [go_sem, eA, scal1, nz_wrap, nz_sub1, nz_sub, nz_add1, nz_add, nz_mul2, zz15, zz16, vsat, vslen, vsset, vsset2, vsswp, ev7_len, ev7_all, ev7_frz, zz14, vstdiv8, e1, hqe]
          refine call2x 300 trivial trivial [(f, d)] (by simp only [go_sem] <;> rfl) (by simp only [go_sem] <;> rfl) (I _) (.inl rfl) (fun nx' A eA => ?_)
          by_cases hge : mid - a ≥ (b - a) / 8
          · rw [decide_eq_true hge] at J ⊢
            simp (disch := omega) only [go_sem, eA, scal1, nz_wrap, nz_sub1, nz_sub, nz_add1, nz_add, nz_mul2, zz15, zz16, vsat, vslen, vsset, vsset2, vsswp, ev7_len, ev7_all, ev7_frz, zz14, vstdiv8, e1, hqe]
            exact J _
          · rw [decide_eq_false hge] at J ⊢
            simp (disch := omega) only [go_sem, eA, scal1, nz_wrap, nz_sub1, nz_sub, nz_add1, nz_add, nz_mul2, zz15, zz16, vsat, vslen, vsset, vsset2, vsswp, ev7_len, ev7_all, ev7_frz, zz14, vstdiv8, e1, hqe]
            exact J _
        · rw [if_neg hlr]
          have z := vsszQ hc (vslt c) (b - (mid + 1)) (mid + 1) b l2 true true D4 (Nat.le_refl _) (by omega) (by omega)
          have J := JL (decide (b - mid ≥ (b - a) / 8)) ap _ (z.trans hs4) hl2
          have I := IR D4 hs4 hl2
          unfold vsCall at I
          generalize pdq (vslt c) D4 (mid + 1) b l2 true true = D5 at *
          simp (disch := omega) only [go_sem, eA, scal1, nz_wrap, nz_sub1, nz_sub, nz_add1, nz_add, nz_mul2, zz15, zz16, vsat, vslen, vsset, vsset2, vsswp, ev7_len, ev7_all, ev7_frz, zz14, vstdiv8, e1, hqe]
          refine call2x 300 trivial trivial [(f, d)] (by simp only [go_sem] <;> rfl) (by simp only [go_sem] <;> rfl) (I _) (.inl rfl) (fun nx' A eA => ?_)
          by_cases hge : b - mid ≥ (b - a) / 8
          · rw [decide_eq_true hge] at J ⊢
            simp (disch := omega) only [go_sem, eA, scal1, nz_wrap, nz_sub1, nz_sub, nz_add1, nz_add, nz_mul2, zz15, zz16, vsat, vslen, vsset, vsset2, vsswp, ev7_len, ev7_all, ev7_frz, zz14, vstdiv8, e1, hqe]
            exact J _
          · rw [decide_eq_false hge] at J ⊢
            simp (disch := omega) only [go_sem, eA, scal1, nz_wrap, nz_sub1, nz_sub, nz_add1, nz_add, nz_mul2, zz15, zz16, vsat, vslen, vsset, vsset2, vsswp, ev7_len, ev7_all, ev7_frz, zz14, vstdiv8, e1, hqe]
            exact J _
end
end Go.Proofs.Ytmokhopjnjecbac
/- The library's sort at elements of 7 cells: the sort walked. Printed by programs of mine (mk10.py, sortgen.py). -/
-- short
-- om
-- fuel 300
namespace Go.Proofs.Ytmokhopjnjecbac
open Go.Ev Go.Sort
set_option linter.unusedVariables false
set_option linter.unusedSimpArgs false
set_option linter.unusedSectionVars false
set_option maxRecDepth 100000
set_option maxHeartbeats 12800000
section
variable {F : Nat} {c : Ver → Ver → Int} (hc : vsCmp F c) {f d g n : Nat}
include hc
theorem vsstep_ft (hd : 11 < d) (hn : n < 50) (a b limit : Nat) (D : Array Ver) (hD : D.size = n) (h12 : ¬ b - a ≤ 12) (hab : a ≤ b) (hb : b ≤ n) (hl1 : 1 ≤ limit) (hl : limit ≤ 1000)
    (ihL : ∀ (a' b' l' : Nat) (wb wp : Bool) (D' : Array Ver), b' - a' < b - a → a' ≤ b' → b' ≤ n → D'.size = n → l' ≤ 1000 → vsLoop F c f d g n a' b' l' wb wp D')
    (ihC : ∀ (a' b' l' : Nat) (D' : Array Ver), b' - a' < b - a → a' ≤ b' → b' ≤ n → D'.size = n → l' ≤ 1000 → vsCall F c f d g n a' b' l' D') : vsLoop F c f d g n a b limit false true D := by
  intro nx
  rw [vspdq_eq (vslt c) D a b limit false true h12 (by omega)]
  simp only [Bool.not_false, if_true]
  have cbk := vsbrk_h (F := F) (f := f) (d := d) (g := g) (n := n) hd hn a b (by omega) hb D hD
  have hsb : (breakPatterns D a b).size = n := by rw [vsszBr]; exact hD
  generalize breakPatterns D a b = D1 at *
  obtain ⟨p1, p2⟩ := choosePivot_holds (vslt c) D1 a b (by omega)
  have cch := vschoose_h (f := f) (g := g) hc hd hn a b (by omega) hb D1 hsb
  have crv := vsrev_h (F := F) (f := f) (d := d) (g := g) (n := n) (by omega) a b (by omega) hb D1 hsb
  have hsr : (reverseRange D1 a b).size = n := by rw [vsszRv]; exact hsb
  generalize reverseRange D1 a b = Dr at *
  generalize choosePivot (vslt c) D1 a b = cp at *
  obtain ⟨p, hint⟩ := cp
  simp only at p1 p2 cch ⊢
  have hl2 : limit - 1 ≤ 1000 := by omega
  refine round (its := [.blk 0 wb_z10z_0]) (k0 := []) 300 trivial trivial (fun A eA => ?_)
  simp (disch := omega) only [go_sem, eA, scal1, nz_wrap, nz_sub1, nz_sub, nz_add1, nz_add, nz_mul2, zz15, zz16, vsat, vslen, vsset, vsset2, vsswp, ev7_len, ev7_all, ev7_frz, zz14, vstdiv8]
  refine call2 300 trivial trivial [(f, d)] (by simp only [go_sem] <;> rfl) (by simp only [go_sem] <;> rfl) (cbk _) (.inl rfl) (fun A eA => ?_)
  simp (disch := omega) only [go_sem, eA, scal1, nz_wrap, nz_sub1, nz_sub, nz_add1, nz_add, nz_mul2, zz15, zz16, vsat, vslen, vsset, vsset2, vsswp, ev7_len, ev7_all, ev7_frz, zz14, vstdiv8]
  refine call2 300 trivial trivial [(f, d)] (by simp only [go_sem] <;> rfl) (by simp only [go_sem] <;> rfl) (cch _) (.inl rfl) (fun A eA => ?_)
  cases hint with
  | increasing =>
    have e1 : vshc .increasing = 1 := rfl
    simp only [reduceCtorEq, if_false, if_true, decide_true, e1] at cch ⊢
    obtain ⟨q, hqe⟩ : ∃ q, q = p := ⟨_, rfl⟩
    obtain ⟨D2, hDe⟩ : ∃ D2, D2 = D1 := ⟨_, rfl⟩
    subst hqe hDe
    have hq1 := p1; have hq2 := p2
    have hs2 : D2.size = n := by assumption
    have hqe : True := trivial
    rw [vsrest_no (vslt c) a b (limit - 1) false true _ q D2 rfl]
    by_cases ha0 : a = 0
    · have hle : a = 0 ∨ vslt c D2[a - 1]! D2[q]! = true := .inl ha0
      simp (disch := omega) only [go_sem, eA, scal1, nz_wrap, nz_sub1, nz_sub, nz_add1, nz_add, nz_mul2, zz15, zz16, vsat, vslen, vsset, vsset2, vsswp, ev7_len, ev7_all, ev7_frz, zz14, vstdiv8, e1, hqe]
      have rp := vsrangeP hc (vslt c) D2 hq1 hq2
      have cpp := vspart_h (f := f) (d := d) (g := g) hc (by omega) a b q hq1 hq2 hb D2 hs2
      rw [vsrest_p hc (vslt c) a b (limit - 1) false true q D2 hq1 hq2 hle]
      have IL := fun D => ihC a (partition (vslt c) D2 a b q).1 (limit - 1) D (by omega) (by omega) (by omega)
      have IR := fun D => ihC ((partition (vslt c) D2 a b q).1 + 1) b (limit - 1) D (by omega) (by omega) hb
      have JL := fun wb wp D => ihL a (partition (vslt c) D2 a b q).1 (limit - 1) wb wp D (by omega) (by omega) (by omega)
      have JR := fun wb wp D => ihL ((partition (vslt c) D2 a b q).1 + 1) b (limit - 1) wb wp D (by omega) (by omega) hb
      generalize partition (vslt c) D2 a b q = r at *
      obtain ⟨mid, ap, D4⟩ := r
      simp only at rp cpp IL IR JL JR ⊢
      have hs4 : D4.size = n := by omega
      refine call2 300 trivial trivial [(f, d)] (by simp only [go_sem] <;> rfl) (by simp only [go_sem] <;> rfl) (cpp _) (.inl rfl) (fun A eA => ?_)
      by_cases hlr : mid - a < b - mid
      · rw [if_pos hlr]
        have z := vsszQ hc (vslt c) (mid - a) a mid (limit - 1) true true D4 (Nat.le_refl _) (by omega) (by omega)
        have J := JR (decide (mid - a ≥ (b - a) / 8)) ap _ (z.trans hs4) hl2
        have I := IL D4 hs4 hl2
        unfold vsCall at I
        generalize pdq (vslt c) D4 a mid (limit - 1) true true = D5 at *
        simp (disch := omega) only [go_sem, eA, scal1, nz_wrap, nz_sub1, nz_sub, nz_add1, nz_add, nz_mul2, zz15, zz16, vsat, vslen, vsset, vsset2, vsswp, ev7_len, ev7_all, ev7_frz, zz14, vstdiv8, e1, hqe]
        refine call2x 300 trivial trivial [(f, d)] (by simp only [go_sem] <;> rfl) (by simp only [go_sem] <;> rfl) (I _) (.inl rfl) (fun nx' A eA => ?_)
        by_cases hge : mid - a ≥ (b - a) / 8
        · rw [decide_eq_true hge] at J ⊢
          simp (disch := omega) only [go_sem, eA, scal1, nz_wrap, nz_sub1, nz_sub, nz_add1, nz_add, nz_mul2, zz15, zz16, vsat, vslen, vsset, vsset2, vsswp, ev7_len, ev7_all, ev7_frz, zz14, vstdiv8, e1, hqe]
          exact J _
        · rw [decide_eq_false hge] at J ⊢
          simp (disch := omega) only [go_sem, eA, scal1, nz_wrap, nz_sub1, nz_sub, nz_add1, nz_add, nz_mul2, zz15, zz16, vsat, vslen, vsset, vsset2, vsswp, ev7_len, ev7_all, ev7_frz, zz14, vstdiv8, e1, hqe]
          exact J _
      · rw [if_neg hlr]
        have z := vsszQ hc (vslt c) (b - (mid + 1)) (mid + 1) b (limit - 1) true true D4 (Nat.le_refl _) (by omega) (by omega)
        have J := JL (decide (b - mid ≥ (b - a) / 8)) ap _ (z.trans hs4) hl2
        have I := IR D4 hs4 hl2
        unfold vsCall at I
        generalize pdq (vslt c) D4 (mid + 1) b (limit - 1) true true = D5 at *
        simp (disch := omega) only [go_sem, eA, scal1, nz_wrap, nz_sub1, nz_sub, nz_add1, nz_add, nz_mul2, zz15, zz16, vsat, vslen, vsset, vsset2, vsswp, ev7_len, ev7_all, ev7_frz, zz14, vstdiv8, e1, hqe]
        refine call2x 300 trivial trivial [(f, d)] (by simp only [go_sem] <;> rfl) (by simp only [go_sem] <;> rfl) (I _) (.inl rfl) (fun nx' A eA => ?_)
        by_cases hge : b - mid ≥ (b - a) / 8
        · rw [decide_eq_true hge] at J ⊢
          simp (disch := omega) only [go_sem, eA, scal1, nz_wrap, nz_sub1, nz_sub, nz_add1, nz_add, nz_mul2, zz15, zz16, vsat, vslen, vsset, vsset2, vsswp, ev7_len, ev7_all, ev7_frz, zz14, vstdiv8, e1, hqe]
          exact J _
        · rw [decide_eq_false hge] at J ⊢
          simp (disch := omega) only [go_sem, eA, scal1, nz_wrap, nz_sub1, nz_sub, nz_add1, nz_add, nz_mul2, zz15, zz16, vsat, vslen, vsset, vsset2, vsswp, ev7_len, ev7_all, ev7_frz, zz14, vstdiv8, e1, hqe]
          exact J _
    · have hcc := hc.calls D2[a - 1]! D2[q]!
      cases hlx : vslt c D2[a - 1]! D2[q]! with
      | false =>
        have hlx' := vsltF hlx
        have re := vsrangeE (vslt c) D2 hq1 hq2 (by omega)
        have cpe := vsparteq_h (f := f) (d := d) (g := g) hc (by omega) a b q hq1 hq2 hb D2 hs2
        rw [vsrest_e (vslt c) a b (limit - 1) false true q D2 hq1 hq2 (by omega) (by omega) hlx]
        have J := fun D => ihL (partitionEqual (vslt c) D2 a b q).1 b (limit - 1) false true D (by omega) (by omega) hb
        generalize partitionEqual (vslt c) D2 a b q = r at *
        obtain ⟨mid, D4⟩ := r
        simp only at re cpe J ⊢
        have J := J D4 (by omega) hl2
        simp (disch := omega) only [go_sem, eA, scal1, nz_wrap, nz_sub1, nz_sub, nz_add1, nz_add, nz_mul2, zz15, zz16, vsat, vslen, vsset, vsset2, vsswp, ev7_len, ev7_all, ev7_frz, zz14, vstdiv8, e1, hqe]
        refine call0 300 trivial trivial hcc (.inl rfl) (fun A eA => ?_)
        simp (disch := omega) only [go_sem, eA, scal1, nz_wrap, nz_sub1, nz_sub, nz_add1, nz_add, nz_mul2, zz15, zz16, vsat, vslen, vsset, vsset2, vsswp, ev7_len, ev7_all, ev7_frz, zz14, vstdiv8, e1, hqe]
        refine call2 300 trivial trivial [(f, d)] (by simp only [go_sem] <;> rfl) (by simp only [go_sem] <;> rfl) (cpe _) (.inl rfl) (fun A eA => ?_)
        simp (disch := omega) only [go_sem, eA, scal1, nz_wrap, nz_sub1, nz_sub, nz_add1, nz_add, nz_mul2, zz15, zz16, vsat, vslen, vsset, vsset2, vsswp, ev7_len, ev7_all, ev7_frz, zz14, vstdiv8, e1, hqe]
        exact J _
      | true =>
        have hlx' := vsltT hlx
        have hle : a = 0 ∨ vslt c D2[a - 1]! D2[q]! = true := .inr hlx
        simp (disch := omega) only [go_sem, eA, scal1, nz_wrap, nz_sub1, nz_sub, nz_add1, nz_add, nz_mul2, zz15, zz16, vsat, vslen, vsset, vsset2, vsswp, ev7_len, ev7_all, ev7_frz, zz14, vstdiv8, e1, hqe]
        refine call0 300 trivial trivial hcc (.inl rfl) (fun A eA => ?_)
        simp (disch := omega) only [go_sem, eA, scal1, nz_wrap, nz_sub1, nz_sub, nz_add1, nz_add, nz_mul2, zz15, zz16, vsat, vslen, vsset, vsset2, vsswp, ev7_len, ev7_all, ev7_frz, zz14, vstdiv8, e1, hqe]
        have rp := vsrangeP hc (vslt c) D2 hq1 hq2
        have cpp := vspart_h (f := f) (d := d) (g := g) hc (by omega) a b q hq1 hq2 hb D2 hs2
        rw [vsrest_p hc (vslt c) a b (limit - 1) false true q D2 hq1 hq2 hle]
        have IL := fun D => ihC a (partition (vslt c) D2 a b q).1 (limit - 1) D (by omega) (by omega) (by omega)
        have IR := fun D => ihC ((partition (vslt c) D2 a b q).1 + 1) b (limit - 1) D (by omega) (by omega) hb
        have JL := fun wb wp D => ihL a (partition (vslt c) D2 a b q).1 (limit - 1) wb wp D (by omega) (by omega) (by omega)
        have JR := fun wb wp D => ihL ((partition (vslt c) D2 a b q).1 + 1) b (limit - 1) wb wp D (by omega) (by omega) hb
        generalize partition (vslt c) D2 a b q = r at *
        obtain ⟨mid, ap, D4⟩ := r
        simp only at rp cpp IL IR JL JR ⊢
        have hs4 : D4.size = n := by omega
        refine call2 300 trivial trivial [(f, d)] (by simp only [go_sem] <;> rfl) (by simp only [go_sem] <;> rfl) (cpp _) (.inl rfl) (fun A eA => ?_)
        by_cases hlr : mid - a < b - mid
        · rw [if_pos hlr]
          have z := vsszQ hc (vslt c) (mid - a) a mid (limit - 1) true true D4 (Nat.le_refl _) (by omega) (by omega)
          have J := JR (decide (mid - a ≥ (b - a) / 8)) ap _ (z.trans hs4) hl2
          have I := IL D4 hs4 hl2
          unfold vsCall at I
          generalize pdq (vslt c) D4 a mid (limit - 1) true true = D5 at *
          simp (disch := omega) only [go_sem, eA, scal1, nz_wrap, nz_sub1, nz_sub, nz_add1, nz_add, nz_mul2, zz15, zz16, vsat, vslen, vsset, vsset2, vsswp, ev7_len, ev7_all, ev7_frz, zz14, vstdiv8, e1, hqe]
          refine call2x 300 trivial trivial [(f, d)] (by simp only [go_sem] <;> rfl) (by simp only [go_sem] <;> rfl) (I _) (.inl rfl) (fun nx' A eA => ?_)
          by_cases hge : mid - a ≥ (b - a) / 8
          · rw [decide_eq_true hge] at J ⊢
            simp (disch := omega) only [go_sem, eA, scal1, nz_wrap, nz_sub1, nz_sub, nz_add1, nz_add, nz_mul2, zz15, zz16, vsat, vslen, vsset, vsset2, vsswp, ev7_len, ev7_all, ev7_frz, zz14, vstdiv8, e1, hqe]
            exact J _
          · rw [decide_eq_false hge] at J ⊢
            simp (disch := omega) only [go_sem, eA, scal1, nz_wrap, nz_sub1, nz_sub, nz_add1, nz_add, nz_mul2, zz15, zz16, vsat, vslen, vsset, vsset2, vsswp, ev7_len, ev7_all, ev7_frz, zz14, vstdiv8, e1, hqe]
            exact J _
        · rw [if_neg hlr]
          have z := vsszQ hc (vslt c) (b - (mid + 1)) (mid + 1) b (limit - 1) true true D4 (Nat.le_refl _) (by omega) (by omega)
          have J := JL (decide (b - mid ≥ (b - a) / 8)) ap _ (z.trans hs4) hl2
          have I := IR D4 hs4 hl2
          unfold vsCall at I
          generalize pdq (vslt c) D4 (mid + 1) b (limit - 1) true true = D5 at *
          simp (disch := omega) only [go_sem, eA, scal1, nz_wrap, nz_sub1, nz_sub, nz_add1, nz_add, nz_mul2, zz15, zz16, vsat, vslen, vsset, vsset2, vsswp, ev7_len, ev7_all, ev7_frz, zz14, vstdiv8, e1, hqe]
          refine call2x 300 trivial trivial [(f, d)] (by simp only [go_sem] <;> rfl) (by simp only [go_sem] <;> rfl) (I _) (.inl rfl) (fun nx' A eA => ?_)
          by_cases hge : b - mid ≥ (b - a) / 8
          · rw [decide_eq_true hge] at J ⊢
            simp (disch := omega) only [go_sem, eA, scal1, nz_wrap, nz_sub1, nz_sub, nz_add1, nz_add, nz_mul2, zz15, zz16, vsat, vslen, vsset, vsset2, vsswp, ev7_len, ev7_all, ev7_frz, zz14, vstdiv8, e1, hqe]
            exact J _
          · rw [decide_eq_false hge] at J ⊢
            simp (disch := omega) only [go_sem, eA, scal1, nz_wrap, nz_sub1, nz_sub, nz_add1, nz_add, nz_mul2, zz15, zz16, vsat, vslen, vsset, vsset2, vsswp, ev7_len, ev7_all, ev7_frz, zz14, vstdiv8, e1, hqe]
            exact J _
  | decreasing =>
    have e1 : vshc .decreasing = 2 := rfl
    simp only [reduceCtorEq, if_false, if_true, decide_true, e1] at cch ⊢
    simp (disch := omega) only [go_sem, eA, scal1, nz_wrap, nz_sub1, nz_sub, nz_add1, nz_add, nz_mul2, zz15, zz16, vsat, vslen, vsset, vsset2, vsswp, ev7_len, ev7_all, ev7_frz, zz14, vstdiv8, e1]
    refine call2 300 trivial trivial [(f, d)] (by simp only [go_sem] <;> rfl) (by simp only [go_sem] <;> rfl) (crv _) (.inl rfl) (fun A eA => ?_)
    obtain ⟨q, hqe⟩ : ∃ q, b - 1 - (p - a) = q := ⟨_, rfl⟩
    obtain ⟨D2, hDe⟩ : ∃ D2, D2 = Dr := ⟨_, rfl⟩
    subst hDe
    rw [hqe]
    have hq1 : a ≤ q := by omega
    have hq2 : q < b := by omega
    have hs2 : D2.size = n := by assumption
    rw [vsrest_no (vslt c) a b (limit - 1) false true _ q D2 rfl]
    by_cases ha0 : a = 0
    · have hle : a = 0 ∨ vslt c D2[a - 1]! D2[q]! = true := .inl ha0
      simp (disch := omega) only [go_sem, eA, scal1, nz_wrap, nz_sub1, nz_sub, nz_add1, nz_add, nz_mul2, zz15, zz16, vsat, vslen, vsset, vsset2, vsswp, ev7_len, ev7_all, ev7_frz, zz14, vstdiv8, e1, hqe]
      have rp := vsrangeP hc (vslt c) D2 hq1 hq2
      have cpp := vspart_h (f := f) (d := d) (g := g) hc (by omega) a b q hq1 hq2 hb D2 hs2
      rw [vsrest_p hc (vslt c) a b (limit - 1) false true q D2 hq1 hq2 hle]
      have IL := fun D => ihC a (partition (vslt c) D2 a b q).1 (limit - 1) D (by omega) (by omega) (by omega)
      have IR := fun D => ihC ((partition (vslt c) D2 a b q).1 + 1) b (limit - 1) D (by omega) (by omega) hb
      have JL := fun wb wp D => ihL a (partition (vslt c) D2 a b q).1 (limit - 1) wb wp D (by omega) (by omega) (by omega)
      have JR := fun wb wp D => ihL ((partition (vslt c) D2 a b q).1 + 1) b (limit - 1) wb wp D (by omega) (by omega) hb
      generalize partition (vslt c) D2 a b q = r at *
      obtain ⟨mid, ap, D4⟩ := r
      simp only at rp cpp IL IR JL JR ⊢
      have hs4 : D4.size = n := by omega
      refine call2 300 trivial trivial [(f, d)] (by simp only [go_sem] <;> rfl) (by simp only [go_sem] <;> rfl) (cpp _) (.inl rfl) (fun A eA => ?_)
      by_cases hlr : mid - a < b - mid
      · rw [if_pos hlr]
        have z := vsszQ hc (vslt c) (mid - a) a mid (limit - 1) true true D4 (Nat.le_refl _) (by omega) (by omega)
        have J := JR (decide (mid - a ≥ (b - a) / 8)) ap _ (z.trans hs4) hl2
        have I := IL D4 hs4 hl2
        unfold vsCall at I
        generalize pdq (vslt c) D4 a mid (limit - 1) true true = D5 at *
        simp (disch := omega) only [go_sem, eA, scal1, nz_wrap, nz_sub1, nz_sub, nz_add1, nz_add, nz_mul2, zz15, zz16, vsat, vslen, vsset, vsset2, vsswp, ev7_len, ev7_all, ev7_frz, zz14, vstdiv8, e1, hqe]
        refine call2x 300 trivial trivial [(f, d)] (by simp only [go_sem] <;> rfl) (by simp only [go_sem] <;> rfl) (I _) (.inl rfl) (fun nx' A eA => ?_)
        by_cases hge : mid - a ≥ (b - a) / 8
        · rw [decide_eq_true hge] at J ⊢
          simp (disch := omega) only [go_sem, eA, scal1, nz_wrap, nz_sub1, nz_sub, nz_add1, nz_add, nz_mul2, zz15, zz16, vsat, vslen, vsset, vsset2, vsswp, ev7_len, ev7_all, ev7_frz, zz14, vstdiv8, e1, hqe]
          exact J _
        · rw [decide_eq_false hge] at J ⊢
          simp (disch := omega) only [go_sem, eA, scal1, nz_wrap, nz_sub1, nz_sub, nz_add1, nz_add, nz_mul2, zz15, zz16, vsat, vslen, vsset, vsset2, vsswp, ev7_len, ev7_all, ev7_frz, zz14, vstdiv8, e1, hqe]
          exact J _
      · rw [if_neg hlr]
        have z := vsszQ hc (vslt c) (b - (mid + 1)) (mid + 1) b (limit - 1) true true D4 (Nat.le_refl _) (by omega) (by omega)
        have J := JL (decide (b - mid ≥ (b - a) / 8)) ap _ (z.trans hs4) hl2
        have I := IR D4 hs4 hl2
        unfold vsCall at I
        generalize pdq (vslt c) D4 (mid + 1) b (limit - 1) true true = D5 at *
        simp (disch := omega) only [go_sem, eA, scal1, nz_wrap, nz_sub1, nz_sub, nz_add1, nz_add, nz_mul2, zz15, zz16, vsat, vslen, vsset, vsset2, vsswp, ev7_len, ev7_all, ev7_frz, zz14, vstdiv8, e1, hqe]
        refine call2x 300 trivial trivial [(f, d)] (by simp only [go_sem] <;> rfl) (by simp only [go_sem] <;> rfl) (I _) (.inl rfl) (fun nx' A eA => ?_)
        by_cases hge : b - mid ≥ (b - a) / 8
        · rw [decide_eq_true hge] at J ⊢
          simp (disch := omega) only [go_sem, eA, scal1, nz_wrap, nz_sub1, nz_sub, nz_add1, nz_add, nz_mul2, zz15, zz16, vsat, vslen, vsset, vsset2, vsswp, ev7_len, ev7_all, ev7_frz, zz14, vstdiv8, e1, hqe]
          exact J _
        · rw [decide_eq_false hge] at J ⊢
          simp (disch := omega) only [go_sem, eA, scal1, nz_wrap, nz_sub1, nz_sub, nz_add1, nz_add, nz_mul2, zz15, zz16, vsat, vslen, vsset, vsset2, vsswp, ev7_len, ev7_all, ev7_frz, zz14, vstdiv8, e1, hqe]
          exact J _
    · have hcc := hc.calls D2[a - 1]! D2[q]!
      cases hlx : vslt c D2[a - 1]! D2[q]! with
      | false =>
        have hlx' := vsltF hlx
        have re := vsrangeE (vslt c) D2 hq1 hq2 (by omega)
        have cpe := vsparteq_h (f := f) (d := d) (g := g) hc (by omega) a b q hq1 hq2 hb D2 hs2
        rw [vsrest_e (vslt c) a b (limit - 1) false true q D2 hq1 hq2 (by omega) (by omega) hlx]
        have J := fun D => ihL (partitionEqual (vslt c) D2 a b q).1 b (limit - 1) false true D (by omega) (by omega) hb
        generalize partitionEqual (vslt c) D2 a b q = r at *
        obtain ⟨mid, D4⟩ := r
        simp only at re cpe J ⊢
        have J := J D4 (by omega) hl2
        simp (disch := omega) only [go_sem, eA, scal1, nz_wrap, nz_sub1, nz_sub, nz_add1, nz_add, nz_mul2, zz15, zz16, vsat, vslen, vsset, vsset2, vsswp, ev7_len, ev7_all, ev7_frz, zz14, vstdiv8, e1, hqe]
        refine call0 300 trivial trivial hcc (.inl rfl) (fun A eA => ?_)
        simp (disch := omega) only [go_sem, eA, scal1, nz_wrap, nz_sub1, nz_sub, nz_add1, nz_add, nz_mul2, zz15, zz16, vsat, vslen, vsset, vsset2, vsswp, ev7_len, ev7_all, ev7_frz, zz14, vstdiv8, e1, hqe]
        refine call2 300 trivial trivial [(f, d)] (by simp only [go_sem] <;> rfl) (by simp only [go_sem] <;> rfl) (cpe _) (.inl rfl) (fun A eA => ?_)
        simp (disch := omega) only [go_sem, eA, scal1, nz_wrap, nz_sub1, nz_sub, nz_add1, nz_add, nz_mul2, zz15, zz16, vsat, vslen, vsset, vsset2, vsswp, ev7_len, ev7_all, ev7_frz, zz14, vstdiv8, e1, hqe]
        exact J _
      | true =>
        have hlx' := vsltT hlx
        have hle : a = 0 ∨ vslt c D2[a - 1]! D2[q]! = true := .inr hlx
        simp (disch := omega) only [go_sem, eA, scal1, nz_wrap, nz_sub1, nz_sub, nz_add1, nz_add, nz_mul2, zz15, zz16, vsat, vslen, vsset, vsset2, vsswp, ev7_len, ev7_all, ev7_frz, zz14, vstdiv8, e1, hqe]
        refine call0 300 trivial trivial hcc (.inl rfl) (fun A eA => ?_)
        simp (disch := omega) only [go_sem, eA, scal1, nz_wrap, nz_sub1, nz_sub, nz_add1, nz_add, nz_mul2, zz15, zz16, vsat, vslen, vsset, vsset2, vsswp, ev7_len, ev7_all, ev7_frz, zz14, vstdiv8, e1, hqe]
        have rp := vsrangeP hc (vslt c) D2 hq1 hq2
        have cpp := vspart_h (f := f) (d := d) (g := g) hc (by omega) a b q hq1 hq2 hb D2 hs2
        rw [vsrest_p hc (vslt c) a b (limit - 1) false true q D2 hq1 hq2 hle]
        have IL := fun D => ihC a (partition (vslt c) D2 a b q).1 (limit - 1) D (by omega) (by omega) (by omega)
        have IR := fun D => ihC ((partition (vslt c) D2 a b q).1 + 1) b (limit - 1) D (by omega) (by omega) hb
        have JL := fun wb wp D => ihL a (partition (vslt c) D2 a b q).1 (limit - 1) wb wp D (by omega) (by omega) (by omega)
        have JR := fun wb wp D => ihL ((partition (vslt c) D2 a b q).1 + 1) b (limit - 1) wb wp D (by omega) (by omega) hb
        generalize partition (vslt c) D2 a b q = r at *
        obtain ⟨mid, ap, D4⟩ := r
        simp only at rp cpp IL IR JL JR ⊢
        have hs4 : D4.size = n := by omega
        refine call2 300 trivial trivial [(f, d)] (by simp only [go_sem] <;> rfl) (by simp only [go_sem] <;> rfl) (cpp _) (.inl rfl) (fun A eA => ?_)
        by_cases hlr : mid - a < b - mid
        · rw [if_pos hlr]
          have z := vsszQ hc (vslt c) (mid - a) a mid (limit - 1) true true D4 (Nat.le_refl _) (by omega) (by omega)
          have J := JR (decide (mid - a ≥ (b - a) / 8)) ap _ (z.trans hs4) hl2
          have I := IL D4 hs4 hl2
          unfold vsCall at I
          generalize pdq (vslt c) D4 a mid (limit - 1) true true = D5 at *
          simp (disch := omega) only [go_sem, eA, scal1, nz_wrap, nz_sub1, nz_sub, nz_add1, nz_add, nz_mul2, zz15, zz16, vsat, vslen, vsset, vsset2, vsswp, ev7_len, ev7_all, ev7_frz, zz14, vstdiv8, e1, hqe]
          refine call2x 300 trivial trivial [(f, d)] (by simp only [go_sem] <;> rfl) (by simp only [go_sem] <;> rfl) (I _) (.inl rfl) (fun nx' A eA => ?_)
          by_cases hge : mid - a ≥ (b - a) / 8
          · rw [decide_eq_true hge] at J ⊢
            simp (disch := omega) only [go_sem, eA, scal1, nz_wrap, nz_sub1, nz_sub, nz_add1, nz_add, nz_mul2, zz15, zz16, vsat, vslen, vsset, vsset2, vsswp, ev7_len, ev7_all, ev7_frz, zz14, vstdiv8, e1, hqe]
            exact J _
          · rw [decide_eq_false hge] at J ⊢
            simp (disch := omega) only [go_sem, eA, scal1, nz_wrap, nz_sub1, nz_sub, nz_add1, nz_add, nz_mul2, zz15, zz16, vsat, vslen, vsset, vsset2, vsswp, ev7_len, ev7_all, ev7_frz, zz14, vstdiv8, e1, hqe]
            exact J _
        · rw [if_neg hlr]
          have z := vsszQ hc (vslt c) (b - (mid + 1)) (mid + 1) b (limit - 1) true true D4 (Nat.le_refl _) (by omega) (by omega)
          have J := JL (decide (b - mid ≥ (b - a) / 8)) ap _ (z.trans hs4) hl2
          have I := IR D4 hs4 hl2
          unfold vsCall at I
          generalize pdq (vslt c) D4 (mid + 1) b (limit - 1) true true = D5 at *
          simp (disch := omega) only [go_sem, eA, scal1, nz_wrap, nz_sub1, nz_sub, nz_add1, nz_add, nz_mul2, zz15, zz16, vsat, vslen, vsset, vsset2, vsswp, ev7_len, ev7_all, ev7_frz, zz14, vstdiv8, e1, hqe]
          refine call2x 300 trivial trivial [(f, d)] (by simp only [go_sem] <;> rfl) (by simp only [go_sem] <;> rfl) (I _) (.inl rfl) (fun nx' A eA => ?_)
          by_cases hge : b - mid ≥ (b - a) / 8
          · rw [decide_eq_true hge] at J ⊢
            simp (disch := omega) only [go_sem, eA, scal1, nz_wrap, nz_sub1, nz_sub, nz_add1, nz_add, nz_mul2, zz15, zz16, vsat, vslen, vsset, vsset2, vsswp, ev7_len, ev7_all, ev7_frz, zz14, vstdiv8, e1, hqe]
            exact J _
          · rw [decide_eq_false hge] at J ⊢
            simp (disch := omega) only [go_sem, eA, scal1, nz_wrap, nz_sub1, nz_sub, nz_add1, nz_add, nz_mul2, zz15, zz16, vsat, vslen, vsset, vsset2, vsswp, ev7_len, ev7_all, ev7_frz, zz14, vstdiv8, e1, hqe]
            exact J _
  | unknown =>
    have e1 : vshc .unknown = 0 := rfl
    simp only [reduceCtorEq, if_false, if_true, decide_false, e1] at cch ⊢
    obtain ⟨q, hqe⟩ : ∃ q, q = p := ⟨_, rfl⟩
    obtain ⟨D2, hDe⟩ : ∃ D2, D2 = D1 := ⟨_, rfl⟩
    subst hqe hDe
    have hq1 := p1; have hq2 := p2
    have hs2 : D2.size = n := by assumption
    have hqe : True := trivial
    rw [vsrest_no (vslt c) a b (limit - 1) false true _ q D2 rfl]
    by_cases ha0 : a = 0
    · have hle : a = 0 ∨ vslt c D2[a - 1]! D2[q]! = true := .inl ha0
      simp (disch := omega) only [go_sem, eA, scal1, nz_wrap, nz_sub1, nz_sub, nz_add1, nz_add, nz_mul2, zz15, zz16, vsat, vslen, vsset, vsset2, vsswp, ev7_len, ev7_all, ev7_frz, zz14, vstdiv8, e1, hqe]
      have rp := vsrangeP hc (vslt c) D2 hq1 hq2
      have cpp := vspart_h (f := f) (d := d) (g := g) hc (by omega) a b q hq1 hq2 hb D2 hs2
      rw [vsrest_p hc (vslt c) a b (limit - 1) false true q D2 hq1 hq2 hle]
      have IL := fun D => ihC a (partition (vslt c) D2 a b q).1 (limit - 1) D (by omega) (by omega) (by omega)
      have IR := fun D => ihC ((partition (vslt c) D2 a b q).1 + 1) b (limit - 1) D (by omega) (by omega) hb
      have JL := fun wb wp D => ihL a (partition (vslt c) D2 a b q).1 (limit - 1) wb wp D (by omega) (by omega) (by omega)
      have JR := fun wb wp D => ihL ((partition (vslt c) D2 a b q).1 + 1) b (limit - 1) wb wp D (by omega) (by omega) hb
      generalize partition (vslt c) D2 a b q = r at *
      obtain ⟨mid, ap, D4⟩ := r
      simp only at rp cpp IL IR JL JR ⊢
      have hs4 : D4.size = n := by omega
      refine call2 300 trivial trivial [(f, d)] (by simp only [go_sem] <;> rfl) (by simp only [go_sem] <;> rfl) (cpp _) (.inl rfl) (fun A eA => ?_)
      by_cases hlr : mid - a < b - mid
      · rw [if_pos hlr]
        have z := vsszQ hc (vslt c) (mid - a) a mid (limit - 1) true true D4 (Nat.le_refl _) (by omega) (by omega)
        have J := JR (decide (mid - a ≥ (b - a) / 8)) ap _ (z.trans hs4) hl2
        have I := IL D4 hs4 hl2
        unfold vsCall at I
        generalize pdq (vslt c) D4 a mid (limit - 1) true true = D5 at *
        simp (disch := omega) only [go_sem, eA, scal1, nz_wrap, nz_sub1, nz_sub, nz_add1, nz_add, nz_mul2, zz15, zz16, vsat, vslen, vsset, vsset2, vsswp, ev7_len, ev7_all, ev7_frz, zz14, vstdiv8, e1, hqe]
        refine call2x 300 trivial trivial [(f, d)] (by simp only [go_sem] <;> rfl) (by simp only [go_sem] <;> rfl) (I _) (.inl rfl) (fun nx' A eA => ?_)
        by_cases hge : mid - a ≥ (b - a) / 8
        · rw [decide_eq_true hge] at J ⊢
          simp (disch := omega) only [go_sem, eA, scal1, nz_wrap, nz_sub1, nz_sub, nz_add1, nz_add, nz_mul2, zz15, zz16, vsat, vslen, vsset, vsset2, vsswp, ev7_len, ev7_all, ev7_frz, zz14, vstdiv8, e1, hqe]
          exact J _
        · rw [decide_eq_false hge] at J ⊢
          simp (disch := omega) only [go_sem, eA, scal1, nz_wrap, nz_sub1, nz_sub, nz_add1, nz_add, nz_mul2, zz15, zz16, vsat, vslen, vsset, vsset2, vsswp, ev7_len, ev7_all, ev7_frz, zz14, vstdiv8, e1, hqe]
          exact J _
      · rw [if_neg hlr]
        have z := vsszQ hc (vslt c) (b - (mid + 1)) (mid + 1) b (limit - 1) true true D4 (Nat.le_refl _) (by omega) (by omega)
        have J := JL (decide (b - mid ≥ (b - a) / 8)) ap _ (z.trans hs4) hl2
        have I := IR D4 hs4 hl2
        unfold vsCall at I
        generalize pdq (vslt c) D4 (mid + 1) b (limit - 1) true true = D5 at *
        simp (disch := omega) only [go_sem, eA, scal1, nz_wrap, nz_sub1, nz_sub, nz_add1, nz_add, nz_mul2, zz15, zz16, vsat, vslen, vsset, vsset2, vsswp, ev7_len, ev7_all, ev7_frz, zz14, vstdiv8, e1, hqe]
        refine call2x 300 trivial trivial [(f, d)] (by simp only [go_sem] <;> rfl) (by simp only [go_sem] <;> rfl) (I _) (.inl rfl) (fun nx' A eA => ?_)
        by_cases hge : b - mid ≥ (b - a) / 8
        · rw [decide_eq_true hge] at J ⊢
          simp (disch := omega) only [go_sem, eA, scal1, nz_wrap, nz_sub1, nz_sub, nz_add1, nz_add, nz_mul2, zz15, zz16, vsat, vslen, vsset, vsset2, vsswp, ev7_len, ev7_all, ev7_frz, zz14, vstdiv8, e1, hqe]
          exact J _
        · rw [decide_eq_false hge] at J ⊢
          simp (disch := omega) only [go_sem, eA, scal1, nz_wrap, nz_sub1, nz_sub, nz_add1, nz_add, nz_mul2, zz15, zz16, vsat, vslen, vsset, vsset2, vsswp, ev7_len, ev7_all, ev7_frz, zz14, vstdiv8, e1, hqe]
          exact J _
    · have hcc := hc.calls D2[a - 1]! D2[q]!
      cases hlx : vslt c D2[a - 1]! D2[q]! with
      | false =>
        have hlx' := vsltF hlx
        have re := vsrangeE (vslt c) D2 hq1 hq2 (by omega)
        have cpe := vsparteq_h (f := f) (d := d) (g := g) hc (by omega) a b q hq1 hq2 hb D2 hs2
        rw [vsrest_e (vslt c) a b (limit - 1) false true q D2 hq1 hq2 (by omega) (by omega) hlx]
        have J := fun D => ihL (partitionEqual (vslt c) D2 a b q).1 b (limit - 1) false true D (by omega) (by omega) hb
        generalize partitionEqual (vslt c) D2 a b q = r at *
        obtain ⟨mid, D4⟩ := r
        simp only at re cpe J ⊢
        have J := J D4 (by omega) hl2
        simp (disch := omega) only [go_sem, eA, scal1, nz_wrap, nz_sub1, nz_sub, nz_add1, nz_add, nz_mul2, zz15, zz16, vsat, vslen, vsset, vsset2, vsswp, ev7_len, ev7_all, ev7_frz, zz14, vstdiv8, e1, hqe]
        refine call0 300 trivial trivial hcc (.inl rfl) (fun A eA => ?_)
        simp (disch := omega) only [go_sem, eA, scal1, nz_wrap, nz_sub1, nz_sub, nz_add1, nz_add, nz_mul2, zz15, zz16, vsat, vslen, vsset, vsset2, vsswp, ev7_len, ev7_all, ev7_frz, zz14, vstdiv8, e1, hqe]
        refine call2 300 trivial trivial [(f, d)] (by simp only [go_sem] <;> rfl) (by simp only [go_sem] <;> rfl) (cpe _) (.inl rfl) (fun A eA => ?_)
        simp (disch := omega) only [go_sem, eA, scal1, nz_wrap, nz_sub1, nz_sub, nz_add1, nz_add, nz_mul2, zz15, zz16, vsat, vslen, vsset, vsset2, vsswp, ev7_len, ev7_all, ev7_frz, zz14, vstdiv8, e1, hqe]
        exact J _
      | true =>
        have hlx' := vsltT hlx
        have hle : a = 0 ∨ vslt c D2[a - 1]! D2[q]! = true := .inr hlx
        simp (disch := omega) only [go_sem, eA, scal1, nz_wrap, nz_sub1, nz_sub, nz_add1, nz_add, nz_mul2, zz15, zz16, vsat, vslen, vsset, vsset2, vsswp, ev7_len, ev7_all, ev7_frz, zz14, vstdiv8, e1, hqe]
        refine call0 300 trivial trivial hcc (.inl rfl) (fun A eA => ?_)
        simp (disch := omega) only [go_sem, eA, scal1, nz_wrap, nz_sub1, nz_sub, nz_add1, nz_add, nz_mul2, zz15, zz16, vsat, vslen, vsset, vsset2, vsswp, ev7_len, ev7_all, ev7_frz, zz14, vstdiv8, e1, hqe]
        have rp := vsrangeP hc (vslt c) D2 hq1 hq2
        have cpp := vspart_h (f := f) (d := d) (g := g) hc (by omega) a b q hq1 hq2 hb D2 hs2
        rw [vsrest_p hc (vslt c) a b (limit - 1) false true q D2 hq1 hq2 hle]
        have IL := fun D => ihC a (partition (vslt c) D2 a b q).1 (limit - 1) D (by omega) (by omega) (by omega)
        have IR := fun D => ihC ((partition (vslt c) D2 a b q).1 + 1) b (limit - 1) D (by omega) (by omega) hb
        have JL := fun wb wp D => ihL a (partition (vslt c) D2 a b q).1 (limit - 1) wb wp D (by omega) (by omega) (by omega)
        have JR := fun wb wp D => ihL ((partition (vslt c) D2 a b q).1 + 1) b (limit - 1) wb wp D (by omega) (by omega) hb
        generalize partition (vslt c) D2 a b q = r at *
        obtain ⟨mid, ap, D4⟩ := r
        simp only at rp cpp IL IR JL JR ⊢
        have hs4 : D4.size = n := by omega
        refine call2 300 trivial trivial [(f, d)] (by simp only [go_sem] <;> rfl) (by simp only [go_sem] <;> rfl) (cpp _) (.inl rfl) (fun A eA => ?_)
        by_cases hlr : mid - a < b - mid
        · rw [if_pos hlr]
          have z := vsszQ hc (vslt c) (mid - a) a mid (limit - 1) true true D4 (Nat.le_refl _) (by omega) (by omega)
          have J := JR (decide (mid - a ≥ (b - a) / 8)) ap _ (z.trans hs4) hl2
          have I := IL D4 hs4 hl2
          unfold vsCall at I
          generalize pdq (vslt c) D4 a mid (limit - 1) true true = D5 at *
          simp (disch := omega) only [go_sem, eA, scal1, nz_wrap, nz_sub1, nz_sub, nz_add1, nz_add, nz_mul2, zz15, zz16, vsat, vslen, vsset, vsset2, vsswp, ev7_len, ev7_all, ev7_frz, zz14, vstdiv8, e1, hqe]
          refine call2x 300 trivial trivial [(f, d)] (by simp only [go_sem] <;> rfl) (by simp only [go_sem] <;> rfl) (I _) (.inl rfl) (fun nx' A eA => ?_)
          by_cases hge : mid - a ≥ (b - a) / 8
          · rw [decide_eq_true hge] at J ⊢
            simp (disch := omega) only [go_sem, eA, scal1, nz_wrap, nz_sub1, nz_sub, nz_add1, nz_add, nz_mul2, zz15, zz16, vsat, vslen, vsset, vsset2, vsswp, ev7_len, ev7_all, ev7_frz, zz14, vstdiv8, e1, hqe]
            exact J _
          · rw [decide_eq_false hge] at J ⊢
            simp (disch := omega) only [go_sem, eA, scal1, nz_wrap, nz_sub1, nz_sub, nz_add1, nz_add, nz_mul2, zz15, zz16, vsat, vslen, vsset, vsset2, vsswp, ev7_len, ev7_all, ev7_frz, zz14, vstdiv8, e1, hqe]
            exact J _
        · rw [if_neg hlr]
          have z := vsszQ hc (vslt c) (b - (mid + 1)) (mid + 1) b (limit - 1) true true D4 (Nat.le_refl _) (by omega) (by omega)
          have J := JL (decide (b - mid ≥ (b - a) / 8)) ap _ (z.trans hs4) hl2
          have I := IR D4 hs4 hl2
          unfold vsCall at I
          generalize pdq (vslt c) D4 (mid + 1) b (limit - 1) true true = D5 at *
          simp (disch := omega) only [go_sem, eA, scal1, nz_wrap, nz_sub1, nz_sub, nz_add1, nz_add, nz_mul2, zz15, zz16, vsat, vslen, vsset, vsset2, vsswp, ev7_len, ev7_all, ev7_frz, zz14, vstdiv8, e1, hqe]
          refine call2x 300 trivial trivial [(f, d)] (by simp only [go_sem] <;> rfl) (by simp only [go_sem] <;> rfl) (I _) (.inl rfl) (fun nx' A eA => ?_)
          by_cases hge : b - mid ≥ (b - a) / 8
          · rw [decide_eq_true hge] at J ⊢
            simp (disch := omega) only [go_sem, eA, scal1, nz_wrap, nz_sub1, nz_sub, nz_add1, nz_add, nz_mul2, zz15, zz16, vsat, vslen, vsset, vsset2, vsswp, ev7_len, ev7_all, ev7_frz, zz14, vstdiv8, e1, hqe]
            exact J _
          · rw [decide_eq_false hge] at J ⊢
            simp (disch := omega) only [go_sem, eA, scal1, nz_wrap, nz_sub1, nz_sub, nz_add1, nz_add, nz_mul2, zz15, zz16, vsat, vslen, vsset, vsset2, vsswp, ev7_len, ev7_all, ev7_frz, zz14, vstdiv8, e1, hqe]
            exact J _
theorem vsstep_ff (hd : 11 < d) (hn : n < 50) (a b limit : Nat) (D : Array Ver) (hD : D.size = n) (h12 : ¬ b - a ≤ 12) (hab : a ≤ b) (hb : b ≤ n) (hl1 : 1 ≤ limit) (hl : limit ≤ 1000)
    (ihL : ∀ (a' b' l' : Nat) (wb wp : Bool) (D' : Array Ver), b' - a' < b - a → a' ≤ b' → b' ≤ n → D'.size = n → l' ≤ 1000 → vsLoop F c f d g n a' b' l' wb wp D')
    (ihC : ∀ (a' b' l' : Nat) (D' : Array Ver), b' - a' < b - a → a' ≤ b' → b' ≤ n → D'.size = n → l' ≤ 1000 → vsCall F c f d g n a' b' l' D') : vsLoop F c f d g n a b limit false false D := by
  intro nx
  rw [vspdq_eq (vslt c) D a b limit false false h12 (by omega)]
  simp only [Bool.not_false, if_true]
  have cbk := vsbrk_h (F := F) (f := f) (d := d) (g := g) (n := n) hd hn a b (by omega) hb D hD
  have hsb : (breakPatterns D a b).size = n := by rw [vsszBr]; exact hD
  generalize breakPatterns D a b = D1 at *
  obtain ⟨p1, p2⟩ := choosePivot_holds (vslt c) D1 a b (by omega)
  have cch := vschoose_h (f := f) (g := g) hc hd hn a b (by omega) hb D1 hsb
  have crv := vsrev_h (F := F) (f := f) (d := d) (g := g) (n := n) (by omega) a b (by omega) hb D1 hsb
  have hsr : (reverseRange D1 a b).size = n := by rw [vsszRv]; exact hsb
  generalize reverseRange D1 a b = Dr at *
  generalize choosePivot (vslt c) D1 a b = cp at *
  obtain ⟨p, hint⟩ := cp
  simp only at p1 p2 cch ⊢
  have hl2 : limit - 1 ≤ 1000 := by omega
  refine round (its := [.blk 0 wb_z10z_0]) (k0 := []) 300 trivial trivial (fun A eA => ?_)
  simp (disch := omega) only [go_sem, eA, scal1, nz_wrap, nz_sub1, nz_sub, nz_add1, nz_add, nz_mul2, zz15, zz16, vsat, vslen, vsset, vsset2, vsswp, ev7_len, ev7_all, ev7_frz, zz14, vstdiv8]
  refine call2 300 trivial trivial [(f, d)] (by simp only [go_sem] <;> rfl) (by simp only [go_sem] <;> rfl) (cbk _) (.inl rfl) (fun A eA => ?_)
  simp (disch := omega) only [go_sem, eA, scal1, nz_wrap, nz_sub1, nz_sub, nz_add1, nz_add, nz_mul2, zz15, zz16, vsat, vslen, vsset, vsset2, vsswp, ev7_len, ev7_all, ev7_frz, zz14, vstdiv8]
  refine call2 300 trivial trivial [(f, d)] (by simp only [go_sem] <;> rfl) (by simp only [go_sem] <;> rfl) (cch _) (.inl rfl) (fun A eA => ?_)
  cases hint with
  | increasing =>
    have e1 : vshc .increasing = 1 := rfl
    simp only [reduceCtorEq, if_false, if_true, decide_true, e1] at cch ⊢
    obtain ⟨q, hqe⟩ : ∃ q, q = p := ⟨_, rfl⟩
    obtain ⟨D2, hDe⟩ : ∃ D2, D2 = D1 := ⟨_, rfl⟩
    subst hqe hDe
    have hq1 := p1; have hq2 := p2
    have hs2 : D2.size = n := by assumption
    have hqe : True := trivial
    rw [vsrest_no (vslt c) a b (limit - 1) false false _ q D2 rfl]
    by_cases ha0 : a = 0
    · have hle : a = 0 ∨ vslt c D2[a - 1]! D2[q]! = true := .inl ha0
      simp (disch := omega) only [go_sem, eA, scal1, nz_wrap, nz_sub1, nz_sub, nz_add1, nz_add, nz_mul2, zz15, zz16, vsat, vslen, vsset, vsset2, vsswp, ev7_len, ev7_all, ev7_frz, zz14, vstdiv8, e1, hqe]
      have rp := vsrangeP hc (vslt c) D2 hq1 hq2
      have cpp := vspart_h (f := f) (d := d) (g := g) hc (by omega) a b q hq1 hq2 hb D2 hs2
      rw [vsrest_p hc (vslt c) a b (limit - 1) false false q D2 hq1 hq2 hle]
      have IL := fun D => ihC a (partition (vslt c) D2 a b q).1 (limit - 1) D (by omega) (by omega) (by omega)
      have IR := fun D => ihC ((partition (vslt c) D2 a b q).1 + 1) b (limit - 1) D (by omega) (by omega) hb
      have JL := fun wb wp D => ihL a (partition (vslt c) D2 a b q).1 (limit - 1) wb wp D (by omega) (by omega) (by omega)
      have JR := fun wb wp D => ihL ((partition (vslt c) D2 a b q).1 + 1) b (limit - 1) wb wp D (by omega) (by omega) hb
      generalize partition (vslt c) D2 a b q = r at *
      obtain ⟨mid, ap, D4⟩ := r
      simp only at rp cpp IL IR JL JR ⊢
      have hs4 : D4.size = n := by omega
      refine call2 300 trivial trivial [(f, d)] (by simp only [go_sem] <;> rfl) (by simp only [go_sem] <;> rfl) (cpp _) (.inl rfl) (fun A eA => ?_)
      by_cases hlr : mid - a < b - mid
      · rw [if_pos hlr]
        have z := vsszQ hc (vslt c) (mid - a) a mid (limit - 1) true true D4 (Nat.le_refl _) (by omega) (by omega)
        have J := JR (decide (mid - a ≥ (b - a) / 8)) ap _ (z.trans hs4) hl2
        have I := IL D4 hs4 hl2
        unfold vsCall at I
        generalize pdq (vslt c) D4 a mid (limit - 1) true true = D5 at *
        simp (disch := omega) only [go_sem, eA, scal1, nz_wrap, nz_sub1, nz_sub, nz_add1, nz_add, nz_mul2, zz15, zz16, vsat, vslen, vsset, vsset2, vsswp, ev7_len, ev7_all, ev7_frz, zz14, vstdiv8, e1, hqe]
        refine call2x 300 trivial trivial [(f, d)] (by simp only [go_sem] <;> rfl) (by simp only [go_sem] <;> rfl) (I _) (.inl rfl) (fun nx' A eA => ?_)
        by_cases hge : mid - a ≥ (b - a) / 8
        · rw [decide_eq_true hge] at J ⊢
          simp (disch := omega) only [go_sem, eA, scal1, nz_wrap, nz_sub1, nz_sub, nz_add1, nz_add, nz_mul2, zz15, zz16, vsat, vslen, vsset, vsset2, vsswp, ev7_len, ev7_all, ev7_frz, zz14, vstdiv8, e1, hqe]
          exact J _
        · rw [decide_eq_false hge] at J ⊢
          simp (disch := omega) only [go_sem, eA, scal1, nz_wrap, nz_sub1, nz_sub, nz_add1, nz_add, nz_mul2, zz15, zz16, vsat, vslen, vsset, vsset2, vsswp, ev7_len, ev7_all, ev7_frz, zz14, vstdiv8, e1, hqe]
          exact J _
      · rw [if_neg hlr]
        have z := vsszQ hc (vslt c) (b - (mid + 1)) (mid + 1) b (limit - 1) true true D4 (Nat.le_refl _) (by omega) (by omega)
        have J := JL (decide (b - mid ≥ (b - a) / 8)) ap _ (z.trans hs4) hl2
        have I := IR D4 hs4 hl2
        unfold vsCall at I
        generalize pdq (vslt c) D4 (mid + 1) b (limit - 1) true true = D5 at *
        simp (disch := omega) only [go_sem, eA, scal1, nz_wrap, nz_sub1, nz_sub, nz_add1, nz_add, nz_mul2, zz15, zz16, vsat, vslen, vsset, vsset2, vsswp, ev7_len, ev7_all, ev7_frz, zz14, vstdiv8, e1, hqe]
        refine call2x 300 trivial trivial [(f, d)] (by simp only [go_sem] <;> rfl) (by simp only [go_sem] <;> rfl) (I _) (.inl rfl) (fun nx' A eA => ?_)
        by_cases hge : b - mid ≥ (b - a) / 8
        · rw [decide_eq_true hge] at J ⊢
          simp (disch := omega) only [go_sem, eA, scal1, nz_wrap, nz_sub1, nz_sub, nz_add1, nz_add, nz_mul2, zz15, zz16, vsat, vslen, vsset, vsset2, vsswp, ev7_len, ev7_all, ev7_frz, zz14, vstdiv8, e1, hqe]
          exact J _
        · rw [decide_eq_false hge] at J ⊢
          simp (disch := omega) only [go_sem, eA, scal1, nz_wrap, nz_sub1, nz_sub, nz_add1, nz_add, nz_mul2, zz15, zz16, vsat, vslen, vsset, vsset2, vsswp, ev7_len, ev7_all, ev7_frz, zz14, vstdiv8, e1, hqe]
          exact J _
    · have hcc := hc.calls D2[a - 1]! D2[q]!
      cases hlx : vslt c D2[a - 1]! D2[q]! with
      | false =>
        have hlx' := vsltF hlx
        have re := vsrangeE (vslt c) D2 hq1 hq2 (by omega)
        have cpe := vsparteq_h (f := f) (d := d) (g := g) hc (by omega) a b q hq1 hq2 hb D2 hs2
        rw [vsrest_e (vslt c) a b (limit - 1) false false q D2 hq1 hq2 (by omega) (by omega) hlx]
        have J := fun D => ihL (partitionEqual (vslt c) D2 a b q).1 b (limit - 1) false false D (by omega) (by omega) hb
        generalize partitionEqual (vslt c) D2 a b q = r at *
        obtain ⟨mid, D4⟩ := r
        simp only at re cpe J ⊢
        have J := J D4 (by omega) hl2
        simp (disch := omega) only [go_sem, eA, scal1, nz_wrap, nz_sub1, nz_sub, nz_add1, nz_add, nz_mul2, zz15, zz16, vsat, vslen, vsset, vsset2, vsswp, ev7_len, ev7_all, ev7_frz, zz14, vstdiv8, e1, hqe]
        refine call0 300 trivial trivial hcc (.inl rfl) (fun A eA => ?_)
        simp (disch := omega) only [go_sem, eA, scal1, nz_wrap, nz_sub1, nz_sub, nz_add1, nz_add, nz_mul2, zz15, zz16, vsat, vslen, vsset, vsset2, vsswp, ev7_len, ev7_all, ev7_frz, zz14, vstdiv8, e1, hqe]
        refine call2 300 trivial trivial [(f, d)] (by simp only [go_sem] <;> rfl) (by simp only [go_sem] <;> rfl) (cpe _) (.inl rfl) (fun A eA => ?_)
        simp (disch := omega) only [go_sem, eA, scal1, nz_wrap, nz_sub1, nz_sub, nz_add1, nz_add, nz_mul2, zz15, zz16, vsat, vslen, vsset, vsset2, vsswp, ev7_len, ev7_all, ev7_frz, zz14, vstdiv8, e1, hqe]
        exact J _
      | true =>
        have hlx' := vsltT hlx
        have hle : a = 0 ∨ vslt c D2[a - 1]! D2[q]! = true := .inr hlx
        simp (disch := omega) only [go_sem, eA, scal1, nz_wrap, nz_sub1, nz_sub, nz_add1, nz_add, nz_mul2, zz15, zz16, vsat, vslen, vsset, vsset2, vsswp, ev7_len, ev7_all, ev7_frz, zz14, vstdiv8, e1, hqe]
        refine call0 300 trivial trivial hcc (.inl rfl) (fun A eA => ?_)
        simp (disch := omega) only [go_sem, eA, scal1, nz_wrap, nz_sub1, nz_sub, nz_add1, nz_add, nz_mul2, zz15, zz16, vsat, vslen, vsset, vsset2, vsswp, ev7_len, ev7_all, ev7_frz, zz14, vstdiv8, e1, hqe]
        have rp := vsrangeP hc (vslt c) D2 hq1 hq2
        have cpp := vspart_h (f := f) (d := d) (g := g) hc (by omega) a b q hq1 hq2 hb D2 hs2
        rw [vsrest_p hc (vslt c) a b (limit - 1) false false q D2 hq1 hq2 hle]
        have IL := fun D => ihC a (partition (vslt c) D2 a b q).1 (limit - 1) D (by omega) (by omega) (by omega)
        have IR := fun D => ihC ((partition (vslt c) D2 a b q).1 + 1) b (limit - 1) D (by omega) (by omega) hb
        have JL := fun wb wp D => ihL a (partition (vslt c) D2 a b q).1 (limit - 1) wb wp D (by omega) (by omega) (by omega)
        have JR := fun wb wp D => ihL ((partition (vslt c) D2 a b q).1 + 1) b (limit - 1) wb wp D (by omega) (by omega) hb
        generalize partition (vslt c) D2 a b q = r at *
        obtain ⟨mid, ap, D4⟩ := r
        simp only at rp cpp IL IR JL JR ⊢
        have hs4 : D4.size = n := by omega
        refine call2 300 trivial trivial [(f, d)] (by simp only [go_sem] <;> rfl) (by simp only [go_sem] <;> rfl) (cpp _) (.inl rfl) (fun A eA => ?_)
        by_cases hlr : mid - a < b - mid
        · rw [if_pos hlr]
          have z := vsszQ hc (vslt c) (mid - a) a mid (limit - 1) true true D4 (Nat.le_refl _) (by omega) (by omega)
          have J := JR (decide (mid - a ≥ (b - a) / 8)) ap _ (z.trans hs4) hl2
          have I := IL D4 hs4 hl2
          unfold vsCall at I
          generalize pdq (vslt c) D4 a mid (limit - 1) true true = D5 at *
          simp (disch := omega) only [go_sem, eA, scal1, nz_wrap, nz_sub1, nz_sub, nz_add1, nz_add, nz_mul2, zz15, zz16, vsat, vslen, vsset, vsset2, vsswp, ev7_len, ev7_all, ev7_frz, zz14, vstdiv8, e1, hqe]
          refine call2x 300 trivial trivial [(f, d)] (by simp only [go_sem] <;> rfl) (by simp only [go_sem] <;> rfl) (I _) (.inl rfl) (fun nx' A eA => ?_)
          by_cases hge : mid - a ≥ (b - a) / 8
          · rw [decide_eq_true hge] at J ⊢
            simp (disch := omega) only [go_sem, eA, scal1, nz_wrap, nz_sub1, nz_sub, nz_add1, nz_add, nz_mul2, zz15, zz16, vsat, vslen, vsset, vsset2, vsswp, ev7_len, ev7_all, ev7_frz, zz14, vstdiv8, e1, hqe]
            exact J _
          · rw [decide_eq_false hge] at J ⊢
            simp (disch := omega) only [go_sem, eA, scal1, nz_wrap, nz_sub1, nz_sub, nz_add1, nz_add, nz_mul2, zz15, zz16, vsat, vslen, vsset, vsset2, vsswp, ev7_len, ev7_all, ev7_frz, zz14, vstdiv8, e1, hqe]
            exact J _
        · rw [if_neg hlr]
          have z := vsszQ hc (vslt c) (b - (mid + 1)) (mid + 1) b (limit - 1) true true D4 (Nat.le_refl _) (by omega) (by omega)
          have J := JL (decide (b - mid ≥ (b - a) / 8)) ap _ (z.trans hs4) hl2
          have I := IR D4 hs4 hl2
          unfold vsCall at I
          generalize pdq (vslt c) D4 (mid + 1) b (limit - 1) true true = D5 at *
          simp (disch := omega) only [go_sem, eA, scal1, nz_wrap, nz_sub1, nz_sub, nz_add1, nz_add, nz_mul2, zz15, zz16, vsat, vslen, vsset, vsset2, vsswp, ev7_len, ev7_all, ev7_frz, zz14, vstdiv8, e1, hqe]
          refine call2x 300 trivial trivial [(f, d)] (by simp only [go_sem] <;> rfl) (by simp only [go_sem] <;> rfl) (I _) (.inl rfl) (fun nx' A eA => ?_)
          by_cases hge : b - mid ≥ (b - a) / 8
          · rw [decide_eq_true hge] at J ⊢
            simp (disch := omega) only [go_sem, eA, scal1, nz_wrap, nz_sub1, nz_sub, nz_add1, nz_add, nz_mul2, zz15, zz16, vsat, vslen, vsset, vsset2, vsswp, ev7_len, ev7_all, ev7_frz, zz14, vstdiv8, e1, hqe]
            exact J _
          · rw [decide_eq_false hge] at J ⊢
            simp (disch := omega) only [go_sem, eA, scal1, nz_wrap, nz_sub1, nz_sub, nz_add1, nz_add, nz_mul2, zz15, zz16, vsat, vslen, vsset, vsset2, vsswp, ev7_len, ev7_all, ev7_frz, zz14, vstdiv8, e1, hqe]
            exact J _
  | decreasing =>
    have e1 : vshc .decreasing = 2 := rfl
    simp only [reduceCtorEq, if_false, if_true, decide_true, e1] at cch ⊢
    simp (disch := omega) only [go_sem, eA, scal1, nz_wrap, nz_sub1, nz_sub, nz_add1, nz_add, nz_mul2, zz15, zz16, vsat, vslen, vsset, vsset2, vsswp, ev7_len, ev7_all, ev7_frz, zz14, vstdiv8, e1]
    refine call2 300 trivial trivial [(f, d)] (by simp only [go_sem] <;> rfl) (by simp only [go_sem] <;> rfl) (crv _) (.inl rfl) (fun A eA => ?_)
    obtain ⟨q, hqe⟩ : ∃ q, b - 1 - (p - a) = q := ⟨_, rfl⟩
    obtain ⟨D2, hDe⟩ : ∃ D2, D2 = Dr := ⟨_, rfl⟩
    subst hDe
    rw [hqe]
    have hq1 : a ≤ q := by omega
    have hq2 : q < b := by omega
    have hs2 : D2.size = n := by assumption
    rw [vsrest_no (vslt c) a b (limit - 1) false false _ q D2 rfl]
    by_cases ha0 : a = 0
    · have hle : a = 0 ∨ vslt c D2[a - 1]! D2[q]! = true := .inl ha0
      simp (disch := omega) only [go_sem, eA, scal1, nz_wrap, nz_sub1, nz_sub, nz_add1, nz_add, nz_mul2, zz15, zz16, vsat, vslen, vsset, vsset2, vsswp, ev7_len, ev7_all, ev7_frz, zz14, vstdiv8, e1, hqe]
      have rp := vsrangeP hc (vslt c) D2 hq1 hq2
      have cpp := vspart_h (f := f) (d := d) (g := g) hc (by omega) a b q hq1 hq2 hb D2 hs2
      rw [vsrest_p hc (vslt c) a b (limit - 1) false false q D2 hq1 hq2 hle]
      have IL := fun D => ihC a (partition (vslt c) D2 a b q).1 (limit - 1) D (by omega) (by omega) (by omega)
      have IR := fun D => ihC ((partition (vslt c) D2 a b q).1 + 1) b (limit - 1) D (by omega) (by omega) hb
      have JL := fun wb wp D => ihL a (partition (vslt c) D2 a b q).1 (limit - 1) wb wp D (by omega) (by omega) (by omega)
      have JR := fun wb wp D => ihL ((partition (vslt c) D2 a b q).1 + 1) b (limit - 1) wb wp D (by omega) (by omega) hb
      generalize partition (vslt c) D2 a b q = r at *
      obtain ⟨mid, ap, D4⟩ := r
      simp only at rp cpp IL IR JL JR ⊢
      have hs4 : D4.size = n := by omega
      refine call2 300 trivial trivial [(f, d)] (by simp only [go_sem] <;> rfl) (by simp only [go_sem] <;> rfl) (cpp _) (.inl rfl) (fun A eA => ?_)
      by_cases hlr : mid - a < b - mid
      · rw [if_pos hlr]
        have z := vsszQ hc (vslt c) (mid - a) a mid (limit - 1) true true D4 (Nat.le_refl _) (by omega) (by omega)
        have J := JR (decide (mid - a ≥ (b - a) / 8)) ap _ (z.trans hs4) hl2
        have I := IL D4 hs4 hl2
        unfold vsCall at I
        generalize pdq (vslt c) D4 a mid (limit - 1) true true = D5 at *
        simp (disch := omega) only [go_sem, eA, scal1, nz_wrap, nz_sub1, nz_sub, nz_add1, nz_add, nz_mul2, zz15, zz16, vsat, vslen, vsset, vsset2, vsswp, ev7_len, ev7_all, ev7_frz, zz14, vstdiv8, e1, hqe]
        refine call2x 300 trivial trivial [(f, d)] (by simp only [go_sem] <;> rfl) (by simp only [go_sem] <;> rfl) (I _) (.inl rfl) (fun nx' A eA => ?_)
        by_cases hge : mid - a ≥ (b - a) / 8
        · rw [decide_eq_true hge] at J ⊢
          simp (disch := omega) only [go_sem, eA, scal1, nz_wrap, nz_sub1, nz_sub, nz_add1, nz_add, nz_mul2, zz15, zz16, vsat, vslen, vsset, vsset2, vsswp, ev7_len, ev7_all, ev7_frz, zz14, vstdiv8, e1, hqe]
          exact J _
        · rw [decide_eq_false hge] at J ⊢
          simp (disch := omega) only [go_sem, eA, scal1, nz_wrap, nz_sub1, nz_sub, nz_add1, nz_add, nz_mul2, zz15, zz16, vsat, vslen, vsset, vsset2, vsswp, ev7_len, ev7_all, ev7_frz, zz14, vstdiv8, e1, hqe]
          exact J _
      · rw [if_neg hlr]
        have z := vsszQ hc (vslt c) (b - (mid + 1)) (mid + 1) b (limit - 1) true true D4 (Nat.le_refl _) (by omega) (by omega)
        have J := JL (decide (b - mid ≥ (b - a) / 8)) ap _ (z.trans hs4) hl2
        have I := IR D4 hs4 hl2
        unfold vsCall at I
        generalize pdq (vslt c) D4 (mid + 1) b (limit - 1) true true = D5 at *
        simp (disch := omega) only [go_sem, eA, scal1, nz_wrap, nz_sub1, nz_sub, nz_add1, nz_add, nz_mul2, zz15, zz16, vsat, vslen, vsset, vsset2, vsswp, ev7_len, ev7_all, ev7_frz, zz14, vstdiv8, e1, hqe]
        refine call2x 300 trivial trivial [(f, d)] (by simp only [go_sem] <;> rfl) (by simp only [go_sem] <;> rfl) (I _) (.inl rfl) (fun nx' A eA => ?_)
        by_cases hge : b - mid ≥ (b - a) / 8
        · rw [decide_eq_true hge] at J ⊢
          simp (disch := omega) only [go_sem, eA, scal1, nz_wrap, nz_sub1, nz_sub, nz_add1, nz_add, nz_mul2, zz15, zz16, vsat, vslen, vsset, vsset2, vsswp, ev7_len, ev7_all, ev7_frz, zz14, vstdiv8, e1, hqe]
          exact J _
        · rw [decide_eq_false hge] at J ⊢
          simp (disch := omega) only [go_sem, eA, scal1, nz_wrap, nz_sub1, nz_sub, nz_add1, nz_add, nz_mul2, zz15, zz16, vsat, vslen, vsset, vsset2, vsswp, ev7_len, ev7_all, ev7_frz, zz14, vstdiv8, e1, hqe]
          exact J _
    · have hcc := hc.calls D2[a - 1]! D2[q]!
      cases hlx : vslt c D2[a - 1]! D2[q]! with
      | false =>
        have hlx' := vsltF hlx
        have re := vsrangeE (vslt c) D2 hq1 hq2 (by omega)
        have cpe := vsparteq_h (f := f) (d := d) (g := g) hc (by omega) a b q hq1 hq2 hb D2 hs2
        rw [vsrest_e (vslt c) a b (limit - 1) false false q D2 hq1 hq2 (by omega) (by omega) hlx]
        have J := fun D => ihL (partitionEqual (vslt c) D2 a b q).1 b (limit - 1) false false D (by omega) (by omega) hb
        generalize partitionEqual (vslt c) D2 a b q = r at *
        obtain ⟨mid, D4⟩ := r
        simp only at re cpe J ⊢
        have J := J D4 (by omega) hl2
        simp (disch := omega) only [go_sem, eA, scal1, nz_wrap, nz_sub1, nz_sub, nz_add1, nz_add, nz_mul2, zz15, zz16, vsat, vslen, vsset, vsset2, vsswp, ev7_len, ev7_all, ev7_frz, zz14, vstdiv8, e1, hqe]
        refine call0 300 trivial trivial hcc (.inl rfl) (fun A eA => ?_)
        simp (disch := omega) only [go_sem, eA, scal1, nz_wrap, nz_sub1, nz_sub, nz_add1, nz_add, nz_mul2, zz15, zz16, vsat, vslen, vsset, vsset2, vsswp, ev7_len, ev7_all, ev7_frz, zz14, vstdiv8, e1, hqe]
        refine call2 300 trivial trivial [(f, d)] (by simp only [go_sem] <;> rfl) (by simp only [go_sem] <;> rfl) (cpe _) (.inl rfl) (fun A eA => ?_)
        simp (disch := omega) only [go_sem, eA, scal1, nz_wrap, nz_sub1, nz_sub, nz_add1, nz_add, nz_mul2, zz15, zz16, vsat, vslen, vsset, vsset2, vsswp, ev7_len, ev7_all, ev7_frz, zz14, vstdiv8, e1, hqe]
        exact J _
      | true =>
        have hlx' := vsltT hlx
        have hle : a = 0 ∨ vslt c D2[a - 1]! D2[q]! = true := .inr hlx
        simp (disch := omega) only [go_sem, eA, scal1, nz_wrap, nz_sub1, nz_sub, nz_add1, nz_add, nz_mul2, zz15, zz16, vsat, vslen, vsset, vsset2, vsswp, ev7_len, ev7_all, ev7_frz, zz14, vstdiv8, e1, hqe]
        refine call0 300 trivial trivial hcc (.inl rfl) (fun A eA => ?_)
        simp (disch := omega) only [go_sem, eA, scal1, nz_wrap, nz_sub1, nz_sub, nz_add1, nz_add, nz_mul2, zz15, zz16, vsat, vslen, vsset, vsset2, vsswp, ev7_len, ev7_all, ev7_frz, zz14, vstdiv8, e1, hqe]
        have rp := vsrangeP hc (vslt c) D2 hq1 hq2
        have cpp := vspart_h (f := f) (d := d) (g := g) hc (by omega) a b q hq1 hq2 hb D2 hs2
        rw [vsrest_p hc (vslt c) a b (limit - 1) false false q D2 hq1 hq2 hle]
        have IL := fun D => ihC a (partition (vslt c) D2 a b q).1 (limit - 1) D (by omega) (by omega) (by omega)
        have IR := fun D => ihC ((partition (vslt c) D2 a b q).1 + 1) b (limit - 1) D (by omega) (by omega) hb
        have JL := fun wb wp D => ihL a (partition (vslt c) D2 a b q).1 (limit - 1) wb wp D (by omega) (by omega) (by omega)
        have JR := fun wb wp D => ihL ((partition (vslt c) D2 a b q).1 + 1) b (limit - 1) wb wp D (by omega) (by omega) hb
        generalize partition (vslt c) D2 a b q = r at *
        obtain ⟨mid, ap, D4⟩ := r
        simp only at rp cpp IL IR JL JR ⊢
        have hs4 : D4.size = n := by omega
        refine call2 300 trivial trivial [(f, d)] (by simp only [go_sem] <;> rfl) (by simp only [go_sem] <;> rfl) (cpp _) (.inl rfl) (fun A eA => ?_)
        by_cases hlr : mid - a < b - mid
        · rw [if_pos hlr]
          have z := vsszQ hc (vslt c) (mid - a) a mid (limit - 1) true true D4 (Nat.le_refl _) (by omega) (by omega)
          have J := JR (decide (mid - a ≥ (b - a) / 8)) ap _ (z.trans hs4) hl2
          have I := IL D4 hs4 hl2
          unfold vsCall at I
          generalize pdq (vslt c) D4 a mid (limit - 1) true true = D5 at *
          simp (disch := omega) only [go_sem, eA, scal1, nz_wrap, nz_sub1, nz_sub, nz_add1, nz_add, nz_mul2, zz15, zz16, vsat, vslen, vsset, vsset2, vsswp, ev7_len, ev7_all, ev7_frz, zz14, vstdiv8, e1, hqe]
          refine call2x 300 trivial trivial [(f, d)] (by simp only [go_sem] <;> rfl) (by simp only [go_sem] <;> rfl) (I _) (.inl rfl) (fun nx' A eA => ?_)
          by_cases hge : mid - a ≥ (b - a) / 8
          · rw [decide_eq_true hge] at J ⊢
            simp (disch := omega) only [go_sem, eA, scal1, nz_wrap, nz_sub1, nz_sub, nz_add1, nz_add, nz_mul2, zz15, zz16, vsat, vslen, vsset, vsset2, vsswp, ev7_len, ev7_all, ev7_frz, zz14, vstdiv8, e1, hqe]
            exact J _
          · rw [decide_eq_false hge] at J ⊢
            simp (disch := omega) only [go_sem, eA, scal1, nz_wrap, nz_sub1, nz_sub, nz_add1, nz_add, nz_mul2, zz15, zz16, vsat, vslen, vsset, vsset2, vsswp, ev7_len, ev7_all, ev7_frz, zz14, vstdiv8, e1, hqe]
            exact J _
        · rw [if_neg hlr]
          have z := vsszQ hc (vslt c) (b - (mid + 1)) (mid + 1) b (limit - 1) true true D4 (Nat.le_refl _) (by omega) (by omega)
          have J := JL (decide (b - mid ≥ (b - a) / 8)) ap _ (z.trans hs4) hl2
          have I := IR D4 hs4 hl2
          unfold vsCall at I
          generalize pdq (vslt c) D4 (mid + 1) b (limit - 1) true true = D5 at *
          simp (disch := omega) only [go_sem, eA, scal1, nz_wrap, nz_sub1, nz_sub, nz_add1, nz_add, nz_mul2, zz15, zz16, vsat, vslen, vsset, vsset2, vsswp, ev7_len, ev7_all, ev7_frz, zz14, vstdiv8, e1, hqe]
          refine call2x 300 trivial trivial [(f, d)] (by simp only [go_sem] <;> rfl) (by simp only [go_sem] <;> rfl) (I _) (.inl rfl) (fun nx' A eA => ?_)
          by_cases hge : b - mid ≥ (b - a) / 8
          · rw [decide_eq_true hge] at J ⊢
            simp (disch := omega) only [go_sem, eA, scal1, nz_wrap, nz_sub1, nz_sub, nz_add1, nz_add, nz_mul2, zz15, zz16, vsat, vslen, vsset, vsset2, vsswp, ev7_len, ev7_all, ev7_frz, zz14, vstdiv8, e1, hqe]
            exact J _
          · rw [decide_eq_false hge] at J ⊢
            simp (disch := omega) only [go_sem, eA, scal1, nz_wrap, nz_sub1, nz_sub, nz_add1, nz_add, nz_mul2, zz15, zz16, vsat, vslen, vsset, vsset2, vsswp, ev7_len, ev7_all, ev7_frz, zz14, vstdiv8, e1, hqe]
            exact J _
  | unknown =>
    have e1 : vshc .unknown = 0 := rfl
    simp only [reduceCtorEq, if_false, if_true, decide_false, e1] at cch ⊢
    obtain ⟨q, hqe⟩ : ∃ q, q = p := ⟨_, rfl⟩
    obtain ⟨D2, hDe⟩ : ∃ D2, D2 = D1 := ⟨_, rfl⟩
    subst hqe hDe
    have hq1 := p1; have hq2 := p2
    have hs2 : D2.size = n := by assumption
    have hqe : True := trivial
    rw [vsrest_no (vslt c) a b (limit - 1) false false _ q D2 rfl]
    by_cases ha0 : a = 0
    · have hle : a = 0 ∨ vslt c D2[a - 1]! D2[q]! = true := .inl ha0
      simp (disch := omega) only [go_sem, eA, scal1, nz_wrap, nz_sub1, nz_sub, nz_add1, nz_add, nz_mul2, zz15, zz16, vsat, vslen, vsset, vsset2, vsswp, ev7_len, ev7_all, ev7_frz, zz14, vstdiv8, e1, hqe]
      have rp := vsrangeP hc (vslt c) D2 hq1 hq2
      have cpp := vspart_h (f := f) (d := d) (g := g) hc (by omega) a b q hq1 hq2 hb D2 hs2
      rw [vsrest_p hc (vslt c) a b (limit - 1) false false q D2 hq1 hq2 hle]
      have IL := fun D => ihC a (partition (vslt c) D2 a b q).1 (limit - 1) D (by omega) (by omega) (by omega)
      have IR := fun D => ihC ((partition (vslt c) D2 a b q).1 + 1) b (limit - 1) D (by omega) (by omega) hb
      have JL := fun wb wp D => ihL a (partition (vslt c) D2 a b q).1 (limit - 1) wb wp D (by omega) (by omega) (by omega)
      have JR := fun wb wp D => ihL ((partition (vslt c) D2 a b q).1 + 1) b (limit - 1) wb wp D (by omega) (by omega) hb
      generalize partition (vslt c) D2 a b q = r at *
      obtain ⟨mid, ap, D4⟩ := r
      simp only at rp cpp IL IR JL JR ⊢
      have hs4 : D4.size = n := by omega
      refine call2 300 trivial trivial [(f, d)] (by simp only [go_sem] <;> rfl) (by simp only [go_sem] <;> rfl) (cpp _) (.inl rfl) (fun A eA => ?_)
      by_cases hlr : mid - a < b - mid
      · rw [if_pos hlr]
        have z := vsszQ hc (vslt c) (mid - a) a mid (limit - 1) true true D4 (Nat.le_refl _) (by omega) (by omega)
        have J := JR (decide (mid - a ≥ (b - a) / 8)) ap _ (z.trans hs4) hl2
        have I := IL D4 hs4 hl2
        unfold vsCall at I
        generalize pdq (vslt c) D4 a mid (limit - 1) true true = D5 at *
        simp (disch := omega) only [go_sem, eA, scal1, nz_wrap, nz_sub1, nz_sub, nz_add1, nz_add, nz_mul2, zz15, zz16, vsat, vslen, vsset, vsset2, vsswp, ev7_len, ev7_all, ev7_frz, zz14, vstdiv8, e1, hqe]
        refine call2x 300 trivial trivial [(f, d)] (by simp only [go_sem] <;> rfl) (by simp only [go_sem] <;> rfl) (I _) (.inl rfl) (fun nx' A eA => ?_)
        by_cases hge : mid - a ≥ (b - a) / 8
        · rw [decide_eq_true hge] at J ⊢
          simp (disch := omega) only [go_sem, eA, scal1, nz_wrap, nz_sub1, nz_sub, nz_add1, nz_add, nz_mul2, zz15, zz16, vsat, vslen, vsset, vsset2, vsswp, ev7_len, ev7_all, ev7_frz, zz14, vstdiv8, e1, hqe]
          exact J _
        · rw [decide_eq_false hge] at J ⊢
          simp (disch := omega) only [go_sem, eA, scal1, nz_wrap, nz_sub1, nz_sub, nz_add1, nz_add, nz_mul2, zz15, zz16, vsat, vslen, vsset, vsset2, vsswp, ev7_len, ev7_all, ev7_frz, zz14, vstdiv8, e1, hqe]
          exact J _
      · rw [if_neg hlr]
        have z := vsszQ hc (vslt c) (b - (mid + 1)) (mid + 1) b (limit - 1) true true D4 (Nat.le_refl _) (by omega) (by omega)
        have J := JL (decide (b - mid ≥ (b - a) / 8)) ap _ (z.trans hs4) hl2
        have I := IR D4 hs4 hl2
        unfold vsCall at I
        generalize pdq (vslt c) D4 (mid + 1) b (limit - 1) true true = D5 at *
        simp (disch := omega) only [go_sem, eA, scal1, nz_wrap, nz_sub1, nz_sub, nz_add1, nz_add, nz_mul2, zz15, zz16, vsat, vslen, vsset, vsset2, vsswp, ev7_len, ev7_all, ev7_frz, zz14, vstdiv8, e1, hqe]
        refine call2x 300 trivial trivial [(f, d)] (by simp only [go_sem] <;> rfl) (by simp only [go_sem] <;> rfl) (I _) (.inl rfl) (fun nx' A eA => ?_)
        by_cases hge : b - mid ≥ (b - a) / 8
        · rw [decide_eq_true hge] at J ⊢
          simp (disch := omega) only [go_sem, eA, scal1, nz_wrap, nz_sub1, nz_sub, nz_add1, nz_add, nz_mul2, zz15, zz16, vsat, vslen, vsset, vsset2, vsswp, ev7_len, ev7_all, ev7_frz, zz14, vstdiv8, e1, hqe]
          exact J _
        · rw [decide_eq_false hge] at J ⊢
          simp (disch := omega) only [go_sem, eA, scal1, nz_wrap, nz_sub1, nz_sub, nz_add1, nz_add, nz_mul2, zz15, zz16, vsat, vslen, vsset, vsset2, vsswp, ev7_len, ev7_all, ev7_frz, zz14, vstdiv8, e1, hqe]
          exact J _
    · have hcc := hc.calls D2[a - 1]! D2[q]!
      cases hlx : vslt c D2[a - 1]! D2[q]! with
      | false =>
        have hlx' := vsltF hlx
        have re := vsrangeE (vslt c) D2 hq1 hq2 (by omega)
        have cpe := vsparteq_h (f := f) (d := d) (g := g) hc (by omega) a b q hq1 hq2 hb D2 hs2
        rw [vsrest_e (vslt c) a b (limit - 1) false false q D2 hq1 hq2 (by omega) (by omega) hlx]
        have J := fun D => ihL (partitionEqual (vslt c) D2 a b q).1 b (limit - 1) false false D (by omega) (by omega) hb
        generalize partitionEqual (vslt c) D2 a b q = r at *
        obtain ⟨mid, D4⟩ := r
        simp only at re cpe J ⊢
        have J := J D4 (by omega) hl2
        simp (disch := omega) only [go_sem, eA, scal1, nz_wrap, nz_sub1, nz_sub, nz_add1, nz_add, nz_mul2, zz15, zz16, vsat, vslen, vsset, vsset2, vsswp, ev7_len, ev7_all, ev7_frz, zz14, vstdiv8, e1, hqe]
        refine call0 300 trivial trivial hcc (.inl rfl) (fun A eA => ?_)
        simp (disch := omega) only [go_sem, eA, scal1, nz_wrap, nz_sub1, nz_sub, nz_add1, nz_add, nz_mul2, zz15, zz16, vsat, vslen, vsset, vsset2, vsswp, ev7_len, ev7_all, ev7_frz, zz14, vstdiv8, e1, hqe]
        refine call2 300 trivial trivial [(f, d)] (by simp only [go_sem] <;> rfl) (by simp only [go_sem] <;> rfl) (cpe _) (.inl rfl) (fun A eA => ?_)
        simp (disch := omega) only [go_sem, eA, scal1, nz_wrap, nz_sub1, nz_sub, nz_add1, nz_add, nz_mul2, zz15, zz16, vsat, vslen, vsset, vsset2, vsswp, ev7_len, ev7_all, ev7_frz, zz14, vstdiv8, e1, hqe]
        exact J _
      | true =>
        have hlx' := vsltT hlx
        have hle : a = 0 ∨ vslt c D2[a - 1]! D2[q]! = true := .inr hlx
        simp (disch := omega) only [go_sem, eA, scal1, nz_wrap, nz_sub1, nz_sub, nz_add1, nz_add, nz_mul2, zz15, zz16, vsat, vslen, vsset, vsset2, vsswp, ev7_len, ev7_all, ev7_frz, zz14, vstdiv8, e1, hqe]
        refine call0 300 trivial trivial hcc (.inl rfl) (fun A eA => ?_)
        simp (disch := omega) only [go_sem, eA, scal1, nz_wrap, nz_sub1, nz_sub, nz_add1, nz_add, nz_mul2, zz15, zz16, vsat, vslen, vsset, vsset2, vsswp, ev7_len, ev7_all, ev7_frz, zz14, vstdiv8, e1, hqe]
        have rp := vsrangeP hc (vslt c) D2 hq1 hq2
        have cpp := vspart_h (f := f) (d := d) (g := g) hc (by omega) a b q hq1 hq2 hb D2 hs2
        rw [vsrest_p hc (vslt c) a b (limit - 1) false false q D2 hq1 hq2 hle]
        have IL := fun D => ihC a (partition (vslt c) D2 a b q).1 (limit - 1) D (by omega) (by omega) (by omega)
        have IR := fun D => ihC ((partition (vslt c) D2 a b q).1 + 1) b (limit - 1) D (by omega) (by omega) hb
        have JL := fun wb wp D => ihL a (partition (vslt c) D2 a b q).1 (limit - 1) wb wp D (by omega) (by omega) (by omega)
        have JR := fun wb wp D => ihL ((partition (vslt c) D2 a b q).1 + 1) b (limit - 1) wb wp D (by omega) (by omega) hb
        generalize partition (vslt c) D2 a b q = r at *
        obtain ⟨mid, ap, D4⟩ := r
        simp only at rp cpp IL IR JL JR ⊢
        have hs4 : D4.size = n := by omega
        refine call2 300 trivial trivial [(f, d)] (by simp only [go_sem] <;> rfl) (by simp only [go_sem] <;> rfl) (cpp _) (.inl rfl) (fun A eA => ?_)
        by_cases hlr : mid - a < b - mid
        · rw [if_pos hlr]
          have z := vsszQ hc (vslt c) (mid - a) a mid (limit - 1) true true D4 (Nat.le_refl _) (by omega) (by omega)
          have J := JR (decide (mid - a ≥ (b - a) / 8)) ap _ (z.trans hs4) hl2
          have I := IL D4 hs4 hl2
          unfold vsCall at I
          generalize pdq (vslt c) D4 a mid (limit - 1) true true = D5 at *
          simp (disch := omega) only [go_sem, eA, scal1, nz_wrap, nz_sub1, nz_sub, nz_add1, nz_add, nz_mul2, zz15, zz16, vsat, vslen, vsset, vsset2, vsswp, ev7_len, ev7_all, ev7_frz, zz14, vstdiv8, e1, hqe]
          refine call2x 300 trivial trivial [(f, d)] (by simp only [go_sem] <;> rfl) (by simp only [go_sem] <;> rfl) (I _) (.inl rfl) (fun nx' A eA => ?_)
          by_cases hge : mid - a ≥ (b - a) / 8
          · rw [decide_eq_true hge] at J ⊢
            simp (disch := omega) only [go_sem, eA, scal1, nz_wrap, nz_sub1, nz_sub, nz_add1, nz_add, nz_mul2, zz15, zz16, vsat, vslen, vsset, vsset2, vsswp, ev7_len, ev7_all, ev7_frz, zz14, vstdiv8, e1, hqe]
            exact J _
          · rw [decide_eq_false hge] at J ⊢
            simp (disch := omega) only [go_sem, eA, scal1, nz_wrap, nz_sub1, nz_sub, nz_add1, nz_add, nz_mul2, zz15, zz16, vsat, vslen, vsset, vsset2, vsswp, ev7_len, ev7_all, ev7_frz, zz14, vstdiv8, e1, hqe]
            exact J _
        · rw [if_neg hlr]
          have z := vsszQ hc (vslt c) (b - (mid + 1)) (mid + 1) b (limit - 1) true true D4 (Nat.le_refl _) (by omega) (by omega)
          have J := JL (decide (b - mid ≥ (b - a) / 8)) ap _ (z.trans hs4) hl2
          have I := IR D4 hs4 hl2
          unfold vsCall at I
          generalize pdq (vslt c) D4 (mid + 1) b (limit - 1) true true = D5 at *
          simp (disch := omega) only [go_sem, eA, scal1, nz_wrap, nz_sub1, nz_sub, nz_add1, nz_add, nz_mul2, zz15, zz16, vsat, vslen, vsset, vsset2, vsswp, ev7_len, ev7_all, ev7_frz, zz14, vstdiv8, e1, hqe]
          refine call2x 300 trivial trivial [(f, d)] (by simp only [go_sem] <;> rfl) (by simp only [go_sem] <;> rfl) (I _) (.inl rfl) (fun nx' A eA => ?_)
          by_cases hge : b - mid ≥ (b - a) / 8
          · rw [decide_eq_true hge] at J ⊢
            simp (disch := omega) only [go_sem, eA, scal1, nz_wrap, nz_sub1, nz_sub, nz_add1, nz_add, nz_mul2, zz15, zz16, vsat, vslen, vsset, vsset2, vsswp, ev7_len, ev7_all, ev7_frz, zz14, vstdiv8, e1, hqe]
            exact J _
          · rw [decide_eq_false hge] at J ⊢
            simp (disch := omega) only [go_sem, eA, scal1, nz_wrap, nz_sub1, nz_sub, nz_add1, nz_add, nz_mul2, zz15, zz16, vsat, vslen, vsset, vsset2, vsswp, ev7_len, ev7_all, ev7_frz, zz14, vstdiv8, e1, hqe]
            exact J _
end
end Go.Proofs.Ytmokhopjnjecbac
/- The library's sort at elements of 7 cells: sorted. Printed by a program of mine (sortgen.py). -/
-- short
-- om
-- fuel 300
namespace Go.Proofs.Ytmokhopjnjecbac
open Go.Ev Go.Sort
set_option linter.unusedVariables false
set_option linter.unusedSimpArgs false
set_option linter.unusedSectionVars false
set_option maxRecDepth 100000
set_option maxHeartbeats 3200000
theorem vsfallA {φ : Nat} {ks : List (Nat × Nat)} {rs : List RS} {r : AV} {Hout : Heap} {t : List AV} {H : Heap} {nx : Ctr} (h1 : Ev.sel ks H = Hout) (h2 : getsK rs t H (fun vs => some (retv vs)) none = some r) : RunsO Try.prog φ (GivesA ks rs r Hout) [] (.fall t H nx) :=
  (RunsX.of (.nil (show GivesA ks rs r Hout t H nx from GivesH.of h1 h2 rfl)) : RunsX Try.prog φ (GivesA ks rs r Hout) [] t H nx)
theorem vsfallG {φ : Nat} {rs : List RS} {r : AV} {t : List AV} {H : Heap} {nx : Ctr} (h : retK rs t H some none = some r) : RunsO Try.prog φ (Gives rs r) [] (.fall t H nx) := (RunsX.of (.nil ⟨r, h, Wk1.refl r⟩) : RunsX Try.prog φ (Gives rs r) [] t H nx)
section
variable {F : Nat} {c : Ver → Ver → Int} (hc : vsCmp F c) {f d g n : Nat}
include hc
theorem vspdq_loop (hd : 11 < d) (hn : n < 50) : ∀ (m a b limit : Nat) (wb wp : Bool) (D : Array Ver), b - a ≤ m → a ≤ b → b ≤ n → D.size = n → limit ≤ 1000 → vsLoop F c f d g n a b limit wb wp D := by
  intro m
  induction m using Nat.strongRecOn with
  | _ m ih =>
    intro a b limit wb wp D hm hab hb hD hl
    by_cases h12 : b - a ≤ 12
    · intro nx
      have ci := vsins_h (f := f) (d := d) (g := g) hc (by omega) a b hb (by omega) D hD
      rw [pdq, if_pos h12]
      refine round (its := [.blk 0 wb_z10z_0]) (k0 := []) 300 trivial trivial (fun A eA => ?_)
      simp (disch := omega) only [go_sem, eA, scal1, nz_wrap, nz_sub1, nz_sub, nz_add1, nz_add, nz_mul2, zz15, zz16, vsat, vslen, vsset, vsset2, vsswp, ev7_len, ev7_all, ev7_frz, zz14]
      refine call2 300 trivial trivial [(f, d)] (by simp only [go_sem] <;> rfl) (by simp only [go_sem] <;> rfl) (ci _) (.inl rfl) (fun A eA => ?_)
      simp (disch := omega) only [go_sem, eA, scal1, nz_wrap, nz_sub1, nz_sub, nz_add1, nz_add, nz_mul2, zz15, zz16, vsat, vslen, vsset, vsset2, vsswp, ev7_len, ev7_all, ev7_frz, zz14]
      exact doneA (vssel _ _ _ _) rfl
    by_cases hl0 : limit = 0
    · intro nx
      have ch := vsheap_h (f := f) (d := d) (g := g) hc (by omega) a b (by omega) hb D hD
      rw [pdq, if_neg h12, if_pos hl0]
      subst hl0
      refine round (its := [.blk 0 wb_z10z_0]) (k0 := []) 300 trivial trivial (fun A eA => ?_)
      simp (disch := omega) only [go_sem, eA, scal1, nz_wrap, nz_sub1, nz_sub, nz_add1, nz_add, nz_mul2, zz15, zz16, vsat, vslen, vsset, vsset2, vsswp, ev7_len, ev7_all, ev7_frz, zz14]
      refine call2 300 trivial trivial [(f, d)] (by simp only [go_sem] <;> rfl) (by simp only [go_sem] <;> rfl) (ch _) (.inl rfl) (fun A eA => ?_)
      simp (disch := omega) only [go_sem, eA, scal1, nz_wrap, nz_sub1, nz_sub, nz_add1, nz_add, nz_mul2, zz15, zz16, vsat, vslen, vsset, vsset2, vsswp, ev7_len, ev7_all, ev7_frz, zz14]
      exact doneA (vssel _ _ _ _) rfl
    have ihL : ∀ (a' b' l' : Nat) (wb wp : Bool) (D' : Array Ver), b' - a' < b - a → a' ≤ b' → b' ≤ n → D'.size = n → l' ≤ 1000 → vsLoop F c f d g n a' b' l' wb wp D' :=
      fun a' b' l' wb wp D' h1 h2 h3 h4 h5 => ih (b' - a') (by omega) a' b' l' wb wp D' (Nat.le_refl _) h2 h3 h4 h5
    have ihC : ∀ (a' b' l' : Nat) (D' : Array Ver), b' - a' < b - a → a' ≤ b' → b' ≤ n → D'.size = n → l' ≤ 1000 → vsCall F c f d g n a' b' l' D' :=
      fun a' b' l' D' h1 h2 h3 h4 h5 => vscall_of hc (ihL a' b' l' true true D' h1 h2 h3 h4 h5)
    cases wb <;> cases wp
    · exact vsstep_ff hc hd hn a b limit D hD h12 hab hb (by omega) hl ihL ihC
    · exact vsstep_ft hc hd hn a b limit D hD h12 hab hb (by omega) hl ihL ihC
    · exact vsstep_tf hc hd hn a b limit D hD h12 hab hb (by omega) hl ihL ihC
    · exact vsstep_tt hc hd hn a b limit D hD h12 hab hb (by omega) hl ihL ihC
theorem vssort_h (hd : 11 < d) (hn : n < 50) (D : Array Ver) (hD : D.size = n) (nx : Ctr) : ∃ nx', HCalls Try.prog F_z16z [.sl f d g 7 0 n, .func F []] (vsH f d g D) nx (.tup []) (vsH f d g (sort (vslt c) D)) nx' := by
  have hbl : bitsLen n ≤ 1000 := by
    by_cases h0 : n = 0
    · subst h0; decide
    · have := (vspow n hn (by omega)).1; omega
  have cl := vsblen n hn
  have cp := vscall_of (f := f) hc (vspdq_loop (f := f) hc (g := g) hd hn n 0 n (bitsLen n) true true D (by omega) (by omega) (Nat.le_refl _) hD hbl)
  unfold vsCall at cp
  have e : sort (vslt c) D = pdq (vslt c) D 0 n (bitsLen n) true true := by unfold sort; rw [hD]
  rw [e]
  generalize pdq (vslt c) D 0 n (bitsLen n) true true = D2 at *
  have w1 : IntKind.u64.wrap (n : Int) = (n : Int) := wrap_nat .u64 rfl n (by show n < 2 ^ 64; omega)
  have h1 : RunsX Try.prog 12 (GivesA [(f, d)] [] (.tup []) (vsH f d g D2)) [.c c_z16z] ([.sl f d g 7 0 n, .func F []] ++ List.replicate (14 - [AV.sl f d g 7 0 n, .func F []].length) (.tup [])) (vsH f d g D) nx := by
    refine walk0 300 trivial (fun A eA => ?_)
    simp (disch := omega) only [go_sem, eA, scal1, nz_wrap, nz_sub1, nz_sub, nz_add1, nz_add, nz_mul2, zz15, zz16, vsat, vslen, vsset, vsset2, vsswp, ev7_len, ev7_all, ev7_frz, zz14, w1]
    refine call0 300 trivial trivial cl (.inl rfl) (fun A eA => ?_)
    simp (disch := omega) only [go_sem, eA, scal1, nz_wrap, nz_sub1, nz_sub, nz_add1, nz_add, nz_mul2, zz15, zz16, vsat, vslen, vsset, vsset2, vsswp, ev7_len, ev7_all, ev7_frz, zz14, w1]
    refine call2x 300 trivial trivial [(f, d)] (by simp only [go_sem] <;> rfl) (by simp only [go_sem] <;> rfl) (cp _) (.inl rfl) (fun nx' A eA => ?_)
    simp (disch := omega) only [go_sem, eA, scal1, nz_wrap, nz_sub1, nz_sub, nz_add1, nz_add, nz_mul2, zz15, zz16, vsat, vslen, vsset, vsset2, vsswp, ev7_len, ev7_all, ev7_frz, zz14, w1]
    exact vsfallA (vssel _ _ _ _) rfl
  have hfl : flat [It.c c_z16z] := trivial
  obtain ⟨nx', h2⟩ := RunsX.any hfl h1
  exact ⟨nx', hcalls_z16z 12 [(f, d)] h2⟩
end
theorem vsins_nil (F : Nat) : PCalls Try.prog F_z3z [.nils, .int .i64 0, .int .i64 0, .func F []] (.tup []) := by
  have w1 : IntKind.i64.wrap ((0 : Int) + 1) = 1 := by decide
  refine calls_z3z (walk0 300 trivial (fun A eA => ?_))
  simp (disch := omega) only [go_sem, eA, scal1, w1]
  refine round (its := [.blk 0 wb_z3z_0]) (k0 := []) 300 trivial trivial (fun A eA => ?_)
  simp (disch := omega) only [go_sem, eA, scal1, w1]
  exact vsfallG rfl
theorem vspdq_nil (F : Nat) : PCalls Try.prog F_z10z [.nils, .int .i64 0, .int .i64 0, .int .i64 0, .func F []] (.tup []) := by
  have c1 := vsins_nil F
  have w1 : IntKind.i64.wrap ((0 : Int) - 0) = 0 := by decide
  refine calls_z10z (walk0 300 trivial (fun A eA => ?_))
  simp (disch := omega) only [go_sem, eA, scal1, w1]
  refine round (its := [.blk 0 wb_z10z_0]) (k0 := []) 300 trivial trivial (fun A eA => ?_)
  simp (disch := omega) only [go_sem, eA, scal1, w1]
  refine call2 300 trivial trivial [] rfl rfl (c1.h _ rfl) (.inl rfl) (fun A eA => ?_)
  simp (disch := omega) only [go_sem, eA, scal1, w1]
  exact doneG rfl
theorem vssort_nil (F : Nat) : PCalls Try.prog F_z16z [.nils, .func F []] (.tup []) := by
  have c1 := vspdq_nil F
  have cl := vsblen 0 (by decide)
  have w1 : IntKind.u64.wrap (0 : Int) = 0 := by decide
  have e : ((bitsLen 0 : Nat) : Int) = 0 := by decide
  rw [e] at cl
  refine calls_z16z (walk0 300 trivial (fun A eA => ?_))
  simp (disch := omega) only [go_sem, eA, scal1, w1]
  refine call0 300 trivial trivial cl (.inl rfl) (fun A eA => ?_)
  simp (disch := omega) only [go_sem, eA, scal1, w1]
  refine call2 300 trivial trivial [] rfl rfl (c1.h _ rfl) (.inl rfl) (fun A eA => ?_)
  simp (disch := omega) only [go_sem, eA, scal1, w1]
  exact vsfallG rfl
end Go.Proofs.Ytmokhopjnjecbac
/- What merging lists tells, in plain Lean: what stays, sorted, is what is put in its place one by one. -/
namespace Go.Ev
open Go.Sort
section
variable {α : Type} (lt : α → α → Bool)
/-- Of one name. -/
def nmB (a b : α) : Bool := !lt a b && !lt b a
/-- What stays, in the order in which it came. -/
def stay (keep : α → Bool) : List α → List α → List α
  | [], out => out
  | a :: l, out => stay keep l (if !(out.any fun b => nmB lt a b) && keep a then out ++ [a] else out)
/-- Put in its place, if none of its name is there. -/
def insM (a : α) : List α → List α
  | [] => [a]
  | b :: R => if lt b a then b :: insM a R else if lt a b then a :: b :: R else b :: R
def refM (keep : α → Bool) : List α → List α → List α
  | [], R => R
  | a :: l, R => refM keep l (if keep a then insM lt a R else R)
variable {lt}
theorem nmB_iff {a b : α} : nmB lt a b = true ↔ lt a b = false ∧ lt b a = false := by simp [nmB]
theorem insM_has (h : SWO lt) (a : α) : ∀ R : List α, R.Pairwise (fun x y => lt x y = true) → (R.any fun b => nmB lt a b) = true → insM lt a R = R
  | [], _, hh => by simp at hh
  | b :: R, hp, hh => by
    rw [List.pairwise_cons] at hp
    simp only [List.any_cons, Bool.or_eq_true] at hh
    unfold insM
    by_cases h1 : lt b a = true
    · rw [if_pos h1]
      rcases hh with hh | hh
      · rw [nmB_iff] at hh; rw [hh.2] at h1; cases h1
      · rw [insM_has h a R hp.2 hh]
    · rw [if_neg h1]
      by_cases h2 : lt a b = true
      · exfalso
        rcases hh with hh | hh
        · rw [nmB_iff] at hh; rw [hh.1] at h2; cases h2
        · simp only [List.any_eq_true] at hh
          obtain ⟨c, hc, hn⟩ := hh
          rw [nmB_iff] at hn
          have h3 := hp.1 c hc
          have := h.trans _ _ _ h2 h3
          rw [hn.1] at this; cases this
      · rw [if_neg h2]
theorem insM_new (h : SWO lt) (a : α) : ∀ R : List α, R.Pairwise (fun x y => lt x y = true) → (R.any fun b => nmB lt a b) = false → (insM lt a R).Perm (a :: R) ∧ (insM lt a R).Pairwise (fun x y => lt x y = true)
  | [], _, _ => by simp [insM]
  | b :: R, hp, hh => by
    have hp' := hp
    rw [List.pairwise_cons] at hp
    simp only [List.any_cons, Bool.or_eq_false_iff] at hh
    unfold insM
    by_cases h1 : lt b a = true
    · rw [if_pos h1]
      obtain ⟨i1, i2⟩ := insM_new h a R hp.2 hh.2
      refine ⟨(i1.cons b).trans (.swap a b R), ?_⟩
      rw [List.pairwise_cons]
      refine ⟨fun c hc => ?_, i2⟩
      rcases List.mem_cons.1 (i1.mem_iff.1 hc) with rfl | hc
      · exact h1
      · exact hp.1 c hc
    · rw [if_neg h1]
      have h2 : lt a b = true := by
        by_cases h2 : lt a b = true
        · exact h2
        · have : nmB lt a b = true := nmB_iff.2 ⟨by simpa using h2, by simpa using h1⟩
          rw [hh.1] at this; cases this
      rw [if_pos h2]
      refine ⟨.refl _, ?_⟩
      rw [List.pairwise_cons]
      refine ⟨fun c hc => ?_, hp'⟩
      rcases List.mem_cons.1 hc with rfl | hc
      · exact h2
      · exact h.trans _ _ _ h2 (hp.1 c hc)
theorem any_perm {p : α → Bool} {l l' : List α} (h : l.Perm l') : l.any p = l'.any p := by
  rw [Bool.eq_iff_iff]
  simp only [List.any_eq_true]
  exact ⟨fun ⟨x, hx, hp⟩ => ⟨x, h.mem_iff.1 hx, hp⟩, fun ⟨x, hx, hp⟩ => ⟨x, h.mem_iff.2 hx, hp⟩⟩
theorem stay_ref (h : SWO lt) (keep : α → Bool) : ∀ (l out R : List α), out.Perm R → R.Pairwise (fun x y => lt x y = true) → (stay lt keep l out).Perm (refM lt keep l R) ∧ (refM lt keep l R).Pairwise (fun x y => lt x y = true)
  | [], out, R, hp, hs => ⟨hp, hs⟩
  | a :: l, out, R, hp, hs => by
    unfold stay refM
    by_cases hk : keep a = true
    · rw [hk, Bool.and_true, if_pos rfl]
      cases hq : (out.any fun b => nmB lt a b) with
      | true =>
        have hq' := hq
        rw [any_perm hp] at hq'
        rw [insM_has h a R hs hq']
        exact stay_ref h keep l out R hp hs
      | false =>
        have hq' := hq
        rw [any_perm hp] at hq'
        obtain ⟨i1, i2⟩ := insM_new h a R hs hq'
        refine stay_ref h keep l _ _ ?_ i2
        simp only [Bool.not_false, if_true]
        exact (List.perm_append_singleton a out).trans ((hp.cons a).trans i1.symm)
    · have hk : keep a = false := by simpa using hk
      rw [hk, Bool.and_false]
      simp only [Bool.false_eq_true, if_false]
      exact stay_ref h keep l out R hp hs
/-- Sorted, with no two of one name: there is one such list. -/
theorem sorted_one (h : SWO lt) : ∀ (l l' : List α), l.Perm l' → l.Pairwise (fun x y => lt x y = true) → l'.Pairwise (fun x y => lt x y = true) → l = l'
  | [], l', hp, _, _ => by rw [List.nil_perm] at hp; exact hp.symm
  | a :: l, [], hp, _, _ => absurd hp.length_eq (by simp)
  | a :: l, b :: l', hp, hs, hs' => by
    rw [List.pairwise_cons] at hs hs'
    have hab : a = b := by
      have h1 := List.mem_cons.1 (hp.mem_iff.1 (List.mem_cons_self ..))
      have h2 := List.mem_cons.1 (hp.mem_iff.2 (List.mem_cons_self ..))
      rcases h1 with h1 | h1
      · exact h1
      · rcases h2 with h2 | h2
        · exact h2.symm
        · have := h.trans _ _ _ (hs.1 b h2) (hs'.1 a h1)
          rw [h.irrefl] at this; cases this
    subst hab
    rw [sorted_one h l l' (List.perm_cons a |>.1 hp) hs.2 hs'.2]
/-- What is sorted, with no two of one name, is the one such list. -/
theorem sort_stay [Inhabited α] (h : SWO lt) (keep : α → Bool) (l : List α) : (Sort.sort lt (stay lt keep l []).toArray).toList = refM lt keep l [] := by
  obtain ⟨p1, p2⟩ := stay_ref h keep l [] [] (.refl _) .nil
  obtain ⟨s1, s2⟩ := sort_sorts lt h (stay lt keep l []).toArray
  obtain ⟨z1, _, z3⟩ := s1
  have e1 : ((stay lt keep l []).toArray.extract 0 (stay lt keep l []).toArray.size).toList = stay lt keep l [] := by simp
  have e2 : ((Sort.sort lt (stay lt keep l []).toArray).extract 0 (stay lt keep l []).toArray.size).toList = (Sort.sort lt (stay lt keep l []).toArray).toList := by
    rw [← z1]; simp
  rw [e1, e2] at z3
  refine sorted_one h _ _ (z3.trans p1) ?_ p2
  have hn : (refM lt keep l []).Pairwise (fun x y => nmB lt x y = false) := p2.imp (fun {x y} q => by simp [nmB, q])
  have hn2 : (Sort.sort lt (stay lt keep l []).toArray).toList.Pairwise (fun x y => nmB lt x y = false) :=
    (List.Perm.pairwise_iff (fun {x y} q => by simp only [nmB, Bool.and_comm] at q ⊢; exact q) (z3.trans p1)).2 hn
  generalize hD : Sort.sort lt (stay lt keep l []).toArray = D at *
  rw [List.pairwise_iff_getElem] at hn2 ⊢
  intro i j hi hj hij
  have hz : D.size = (stay lt keep l []).toArray.size := z1
  have hi' : i < D.size := by simpa using hi
  have hj' : j < D.size := by simpa using hj
  have q1 := s2 i j (Nat.zero_le _) hij (by omega)
  rw [getElem!_pos D j hj', getElem!_pos D i hi'] at q1
  have q2 := hn2 i j hi hj hij
  simp only [Array.getElem_toList] at q2 ⊢
  simp only [nmB, q1, Bool.not_false, Bool.and_true] at q2
  simpa using q2
end
end Go.Ev
/- Versions, beside one another: the program's Merge. -/
-- short
-- fuel 300
namespace Go.Proofs.Ytmokhopjnjecbac
open Go.Ev
set_option linter.unusedVariables false
set_option linter.unusedSimpArgs false
set_option maxRecDepth 100000
set_option maxHeartbeats 3200000
theorem nm_ord (a b : Ver) : nmB ltV a b = decide (ordZ a b = 0) := by
  rw [Bool.eq_iff_iff, nmB_iff, decide_eq_true_eq, ordZ_zero, Bool.eq_false_iff, Bool.eq_false_iff, ne_eq, ne_eq, ltV_iff, ltV_iff]
  omega
/-- Is none behind.. does it stay? -/
noncomputable def kpB (l : List Ver) (a : Ver) : Bool := !(l.any fun b => bhB b a)
theorem ord_cmp : vsCmp F_version_order ordZ := ⟨fun x y => order_calls x y⟩
theorem lt_ord : vslt ordZ = ltV := rfl
theorem qcat_row (l : List Ver) : qcat l = rowC ev7 l.toArray := by
  rw [rowC_toArray]
  induction l with
  | nil => rfl
  | cons v l ih => simp only [qcat, List.map_cons, List.flatten_cons, ih]; rfl
theorem vany_nil (F : Nat) (caps : List AV) (hc : ∀ n, 7 ≤ n → ∀ (H : Heap) (ok : List AV → List (Nat × Nat) → Out) (bd : Out), mapK (frzK n H) caps ok bd = ok caps []) :
    PCalls Try.prog F_z13z [.nils, .func F caps] (.bool false) := by
  have hi : PCalls Try.prog F_z15z [.nils, .func F caps] (.int .i64 (-1)) := by
    refine calls_z15z (walk0 300 trivial (fun A eA => ?_))
    simp (disch := first | omega | (simp only [avs_len, zz1, zz2, zz3, zz4, zz5, zz6]; omega) | (simp only [cells, scal1, allSz, zz1, zz3, zz2, zz6, zz7, zz8, avs_len, zz9, zz10, zz11, zz12, zz13, reduceCtorEq, *]; done) | fail) only [c_z15z, wl_z15z_0, s_z15z_0, c_z15z_l0, wb_z15z_0, c_z15z_k0, go_sem, eA, scal1]
    refine round (its := [.blk 0 wb_z15z_0]) (k0 := [.c c_z15z_k0]) 300 trivial trivial (fun A eA => ?_)
    simp (disch := first | omega | (simp only [avs_len, zz1, zz2, zz3, zz4, zz5, zz6]; omega) | (simp only [cells, scal1, allSz, zz1, zz3, zz2, zz6, zz7, zz8, avs_len, zz9, zz10, zz11, zz12, zz13, reduceCtorEq, *]; done) | fail) only [c_z15z, wl_z15z_0, s_z15z_0, c_z15z_l0, wb_z15z_0, c_z15z_k0, go_sem, eA, scal1]
    refine walk0 (its := [.c c_z15z_k0]) 300 trivial (fun A eA => ?_)
    simp (disch := first | omega | (simp only [avs_len, zz1, zz2, zz3, zz4, zz5, zz6]; omega) | (simp only [cells, scal1, allSz, zz1, zz3, zz2, zz6, zz7, zz8, avs_len, zz9, zz10, zz11, zz12, zz13, reduceCtorEq, *]; done) | fail) only [c_z15z, wl_z15z_0, s_z15z_0, c_z15z_l0, wb_z15z_0, c_z15z_k0, go_sem, eA, scal1]
    exact doneG rfl
  refine calls_z13z (walk0 300 trivial (fun A eA => ?_))
  simp (disch := first | omega | (simp only [avs_len, zz1, zz2, zz3, zz4, zz5, zz6]; omega) | (simp only [cells, scal1, allSz, zz1, zz3, zz2, zz6, zz7, zz8, avs_len, zz9, zz10, zz11, zz12, zz13, reduceCtorEq, *]; done) | fail) only [c_z13z, go_sem, eA, scal1, ↓hc]
  refine call0 300 trivial trivial hi (.inl rfl) (fun A eA => ?_)
  simp (disch := first | omega | (simp only [avs_len, zz1, zz2, zz3, zz4, zz5, zz6]; omega) | (simp only [cells, scal1, allSz, zz1, zz3, zz2, zz6, zz7, zz8, avs_len, zz9, zz10, zz11, zz12, zz13, reduceCtorEq, *]; done) | fail) only [c_z13z, go_sem, eA, scal1]
  exact doneG rfl
/-- What is kept so far, asked for a name. -/
theorem known_calls (a : Ver) (out : List Ver) (hl : out.length ≤ 100000) : PCalls Try.prog F_z13z [qv out, .func F_z22z_1 [.ro (vcs a)]] (.bool (out.any fun b => nmB ltV a b)) := by
  have := vany_calls F_z22z_1 [.ro (vcs a)] (fun b => decide (ordZ a b = 0)) out none hl (fun v _ => mrg1_calls v a) (frz_vcs a)
  rw [show (fun b => decide (ordZ a b = 0)) = fun b => nmB ltV a b from funext fun b => (nm_ord a b).symm] at this
  exact this
theorem stays_calls (a : Ver) (l : List Ver) (hl : l.length ≤ 100000) (hv : ∀ v ∈ l, XRt v.event) : PCalls Try.prog F_z13z [qv l, .func F_z22z_2 [.ro (vcs a)]] (.bool (!kpB l a)) := by
  have := vany_calls F_z22z_2 [.ro (vcs a)] (fun b => bhB b a) l none hl (fun v hm => mrg2_calls v a (hv v hm)) (frz_vcs a)
  rw [show (l.any fun b => bhB b a) = !kpB l a by simp [kpB]] at this
  exact this
theorem vmerge_loop (l : List Ver) (hl : l.length ≤ 1000) (hv : ∀ v ∈ l, XRt v.event) {R : List AV → Heap → Ctr → Prop} {k : List It} (hk : flat k) : ∀ (post pre : List Ver), l = pre ++ post → ∀ (out : List Ver) (e : Option Nat), (e = none → out = []) → out.length ≤ pre.length →
    (∀ (e : Option Nat) (nx : Ctr), (e = none ↔ stay ltV (kpB l) post out = []) → (stay ltV (kpB l) post out).length ≤ l.length → RunsX Try.prog 0 R k (e_z22z_0 (accV 0 32 7 e (stay ltV (kpB l) post out).length)) (accE 0 32 e (qcat (stay ltV (kpB l) post out))) nx) →
    (e = none ↔ out = []) → ∀ nx : Ctr,
    RunsX Try.prog 0 R (i_z22z_0 ++ k) (s_z22z_0 (qv l) (accV 0 32 7 e out.length) (qv l) (.int .i64 (l.length : Nat)) (.int .i64 (pre.length : Nat))) (accE 0 32 e (qcat out)) nx := by
  intro post
  induction post with
  | nil =>
    intro pre h1 out e he hle h hee nx
    rw [List.append_nil] at h1
    subst h1
    refine round (its := [.blk 0 wb_z22z_0]) (k0 := k) 300 hk trivial (fun A eA => ?_)
    simp (disch := first | omega | (simp only [avs_len, zz1, zz2, zz3, zz4, zz5, zz6]; omega) | (simp only [cells, scal1, allSz, zz1, zz3, zz2, zz6, zz7, zz8, avs_len, zz9, zz10, zz11, zz12, zz13, reduceCtorEq, *]; done) | fail) only [c_z22z, wl_z22z_0, s_z22z_0, c_z22z_l0, wb_z22z_0, c_z22z_k0, go_sem, eA, scal1]
    exact h e _ hee hle
  | cons a post ih =>
    intro pre h1 out e he hle h hee nx
    have hlt : pre.length < l.length := by rw [h1]; simp
    have ham : a ∈ l := by rw [h1]; simp
    have ih := fun out e he hle h hee nx => ih (pre ++ [a]) (by rw [h1]; simp) out e he (by simp; omega) h hee nx
    rw [show (pre ++ [a]).length = pre.length + 1 by simp] at ih
    have g0 : (l.map vv)[((pre.length : Nat) : Int).toNat]? = some (vv a) := by
      rw [zz16, h1, List.getElem?_map, List.getElem?_append_right (Nat.le_refl _), Nat.sub_self]; rfl
    have w1 : IntKind.i64.wrap ((pre.length : Int) + 1) = ((pre.length + 1 : Nat) : Int) := by rw [wrap64 (by omega) (by omega)]; omega
    have c1 := vClone_calls a (hv a ham)
    have c2 := known_calls a out (by omega)
    have c3 := stays_calls a l (by omega) hv
    have c2n := vany_nil F_z22z_1 [.ro (vcs a)] (frz_vcs a)
    have hS : ∀ (g5 : Nat) (cs5 : List AV), setB (accE 0 32 e (qcat out)) 0 6 g5 (some cs5) = (0, 6, g5, some cs5) :: accE 0 32 e (qcat out) := by
      intro g5 cs5; cases e <;> rfl
    have hA : ∀ (g5 : Nat) (cs5 : List AV) (nx : Ctr) (ok : AV → Heap → Ctr → Out) bd, appK 7 88 32 (accV 0 32 7 e out.length) (.fz 7 [vv a] (some 1)) ((0, 6, g5, some cs5) :: accE 0 32 e (qcat out)) nx 0 ok bd = ok (accV 0 32 7 (some (nx 32)) (out.length + 1)) ((0, 6, g5, some cs5) :: accE 0 32 (some (nx 32)) (qcat (out ++ [a]))) (bump nx 32) := by
      intro g5 cs5 nx ok bd
      rw [app_acc (n := out.length) (m := 1) (e := e) (cs := qcat out) (ns := vcs a) (fun q => by rw [he q]; exact ⟨rfl, rfl⟩) (fun g q => by subst q; simp [accE, find]) (qcat_len out) ⟨[vv a], some 1, rfl, rfl, by simp only [catCells, cells, List.append_nil]⟩ (by omega) (by omega) (by omega)]
      rw [qcat_app]
      cases e <;> rfl
    cases hkn : (out.any fun b => nmB ltV a b) with
    | true =>
      have hne : e ≠ none := by intro q; rw [he q] at hkn; simp at hkn
      obtain ⟨g, rfl⟩ : ∃ g, e = some g := by cases e with | none => exact absurd rfl hne | some g => exact ⟨g, rfl⟩
      rw [hkn] at c2
      have hst : stay ltV (kpB l) (a :: post) out = stay ltV (kpB l) post out := by simp only [stay, hkn, Bool.not_true, Bool.false_and, Bool.false_eq_true, if_false]
      rw [hst] at h
      have ih := ih out (some g) he (by omega) h hee
      have h1 := qcat_len out
      have h2 := qcat_take out
      have h3 := chunk_qcat out
      simp only [accV, accE] at ih hS ⊢
      refine round (its := [.blk 0 wb_z22z_0]) (k0 := k) 300 hk trivial (fun A eA => ?_)
      simp (disch := first | omega | (simp only [avs_len, zz1, zz2, zz3, zz4, zz5, zz6]; omega) | (simp only [cells, scal1, allSz, zz1, zz3, zz2, zz6, zz7, zz8, avs_len, zz9, zz10, zz11, zz12, zz13, reduceCtorEq, *]; done) | fail) only [c_z22z, wl_z22z_0, s_z22z_0, c_z22z_l0, wb_z22z_0, c_z22z_k0, go_sem, eA, scal1, ↓optI_of g0, w1, List.all_cons, List.all_nil, h1, h2, h3, ↓frz_qcat]
      refine call0 300 hk trivial c2 (.inr rfl) (fun A eA => ?_)
      simp (disch := first | omega | (simp only [avs_len, zz1, zz2, zz3, zz4, zz5, zz6]; omega) | (simp only [cells, scal1, allSz, zz1, zz3, zz2, zz6, zz7, zz8, avs_len, zz9, zz10, zz11, zz12, zz13, reduceCtorEq, *]; done) | fail) only [c_z22z, wl_z22z_0, s_z22z_0, c_z22z_l0, wb_z22z_0, c_z22z_k0, go_sem, eA, scal1, ↓optI_of g0, w1]
      exact ih _
    | false =>
      cases hkp : kpB l a with
      | false =>
        rw [hkn] at c2
        rw [hkp] at c3
        have hst : stay ltV (kpB l) (a :: post) out = stay ltV (kpB l) post out := by simp only [stay, hkn, hkp, Bool.not_false, Bool.and_false, Bool.false_eq_true, if_false]
        rw [hst] at h
        have ih := ih out e he (by omega) h hee
        cases e with
        | none =>
          simp only [accV, accE] at ih hS ⊢
          refine round (its := [.blk 0 wb_z22z_0]) (k0 := k) 300 hk trivial (fun A eA => ?_)
          simp (disch := first | omega | (simp only [avs_len, zz1, zz2, zz3, zz4, zz5, zz6]; omega) | (simp only [cells, scal1, allSz, zz1, zz3, zz2, zz6, zz7, zz8, avs_len, zz9, zz10, zz11, zz12, zz13, reduceCtorEq, *]; done) | fail) only [c_z22z, wl_z22z_0, s_z22z_0, c_z22z_l0, wb_z22z_0, c_z22z_k0, go_sem, eA, scal1, ↓optI_of g0, w1, List.all_cons, List.all_nil]
          refine call0 300 hk trivial c2n (.inr rfl) (fun A eA => ?_)
          simp (disch := first | omega | (simp only [avs_len, zz1, zz2, zz3, zz4, zz5, zz6]; omega) | (simp only [cells, scal1, allSz, zz1, zz3, zz2, zz6, zz7, zz8, avs_len, zz9, zz10, zz11, zz12, zz13, reduceCtorEq, *]; done) | fail) only [c_z22z, wl_z22z_0, s_z22z_0, c_z22z_l0, wb_z22z_0, c_z22z_k0, go_sem, eA, scal1, ↓optI_of g0, w1]
          refine call0 300 hk trivial c3 (.inr rfl) (fun A eA => ?_)
          simp (disch := first | omega | (simp only [avs_len, zz1, zz2, zz3, zz4, zz5, zz6]; omega) | (simp only [cells, scal1, allSz, zz1, zz3, zz2, zz6, zz7, zz8, avs_len, zz9, zz10, zz11, zz12, zz13, reduceCtorEq, *]; done) | fail) only [c_z22z, wl_z22z_0, s_z22z_0, c_z22z_l0, wb_z22z_0, c_z22z_k0, go_sem, eA, scal1, ↓optI_of g0, w1]
          exact ih _
        | some g =>
          have h1 := qcat_len out
          have h2 := qcat_take out
          have h3 := chunk_qcat out
          simp only [accV, accE] at ih hS ⊢
          refine round (its := [.blk 0 wb_z22z_0]) (k0 := k) 300 hk trivial (fun A eA => ?_)
          simp (disch := first | omega | (simp only [avs_len, zz1, zz2, zz3, zz4, zz5, zz6]; omega) | (simp only [cells, scal1, allSz, zz1, zz3, zz2, zz6, zz7, zz8, avs_len, zz9, zz10, zz11, zz12, zz13, reduceCtorEq, *]; done) | fail) only [c_z22z, wl_z22z_0, s_z22z_0, c_z22z_l0, wb_z22z_0, c_z22z_k0, go_sem, eA, scal1, ↓optI_of g0, w1, List.all_cons, List.all_nil, h1, h2, h3, ↓frz_qcat]
          refine call0 300 hk trivial c2 (.inr rfl) (fun A eA => ?_)
          simp (disch := first | omega | (simp only [avs_len, zz1, zz2, zz3, zz4, zz5, zz6]; omega) | (simp only [cells, scal1, allSz, zz1, zz3, zz2, zz6, zz7, zz8, avs_len, zz9, zz10, zz11, zz12, zz13, reduceCtorEq, *]; done) | fail) only [c_z22z, wl_z22z_0, s_z22z_0, c_z22z_l0, wb_z22z_0, c_z22z_k0, go_sem, eA, scal1, ↓optI_of g0, w1]
          refine call0 300 hk trivial c3 (.inr rfl) (fun A eA => ?_)
          simp (disch := first | omega | (simp only [avs_len, zz1, zz2, zz3, zz4, zz5, zz6]; omega) | (simp only [cells, scal1, allSz, zz1, zz3, zz2, zz6, zz7, zz8, avs_len, zz9, zz10, zz11, zz12, zz13, reduceCtorEq, *]; done) | fail) only [c_z22z, wl_z22z_0, s_z22z_0, c_z22z_l0, wb_z22z_0, c_z22z_k0, go_sem, eA, scal1, ↓optI_of g0, w1]
          exact ih _
      | true =>
        rw [hkn] at c2
        rw [hkp] at c3
        have hst : stay ltV (kpB l) (a :: post) out = stay ltV (kpB l) post (out ++ [a]) := by simp only [stay, hkn, hkp, Bool.not_false, Bool.and_self, if_true]
        rw [hst] at h
        have ih := fun g nx => ih (out ++ [a]) (some g) (fun q => by cases q) (by simp; omega) h ⟨fun q => (by cases q), fun q => (by simp at q)⟩ nx
        rw [show (out ++ [a]).length = out.length + 1 by simp] at ih
        cases e with
        | none =>
          simp only [accV, accE] at ih hS hA ⊢
          refine round (its := [.blk 0 wb_z22z_0]) (k0 := k) 300 hk trivial (fun A eA => ?_)
          simp (disch := first | omega | (simp only [avs_len, zz1, zz2, zz3, zz4, zz5, zz6]; omega) | (simp only [cells, scal1, allSz, zz1, zz3, zz2, zz6, zz7, zz8, avs_len, zz9, zz10, zz11, zz12, zz13, reduceCtorEq, *]; done) | fail) only [c_z22z, wl_z22z_0, s_z22z_0, c_z22z_l0, wb_z22z_0, c_z22z_k0, go_sem, eA, scal1, ↓optI_of g0, w1, List.all_cons, List.all_nil]
          refine call0 300 hk trivial c2n (.inr rfl) (fun A eA => ?_)
          simp (disch := first | omega | (simp only [avs_len, zz1, zz2, zz3, zz4, zz5, zz6]; omega) | (simp only [cells, scal1, allSz, zz1, zz3, zz2, zz6, zz7, zz8, avs_len, zz9, zz10, zz11, zz12, zz13, reduceCtorEq, *]; done) | fail) only [c_z22z, wl_z22z_0, s_z22z_0, c_z22z_l0, wb_z22z_0, c_z22z_k0, go_sem, eA, scal1, ↓optI_of g0, w1]
          refine call0 300 hk trivial c3 (.inr rfl) (fun A eA => ?_)
          simp (disch := first | omega | (simp only [avs_len, zz1, zz2, zz3, zz4, zz5, zz6]; omega) | (simp only [cells, scal1, allSz, zz1, zz3, zz2, zz6, zz7, zz8, avs_len, zz9, zz10, zz11, zz12, zz13, reduceCtorEq, *]; done) | fail) only [c_z22z, wl_z22z_0, s_z22z_0, c_z22z_l0, wb_z22z_0, c_z22z_k0, go_sem, eA, scal1, ↓optI_of g0, w1, List.all_cons, List.all_nil]
          refine call0 300 hk trivial c1 (.inl rfl) (fun A eA => ?_)
          simp (disch := first | omega | (simp only [avs_len, zz1, zz2, zz3, zz4, zz5, zz6]; omega) | (simp only [cells, scal1, allSz, zz1, zz3, zz2, zz6, zz7, zz8, avs_len, zz9, zz10, zz11, zz12, zz13, reduceCtorEq, *]; done) | fail) only [c_z22z, wl_z22z_0, s_z22z_0, c_z22z_l0, wb_z22z_0, c_z22z_k0, go_sem, eA, scal1, w1, allSz, List.all_cons, List.all_nil, ↓hA]
          exact ih _ _
        | some g =>
          have h1 := qcat_len out
          have h2 := qcat_take out
          have h3 := chunk_qcat out
          simp only [accV, accE] at ih hS hA ⊢
          refine round (its := [.blk 0 wb_z22z_0]) (k0 := k) 300 hk trivial (fun A eA => ?_)
          simp (disch := first | omega | (simp only [avs_len, zz1, zz2, zz3, zz4, zz5, zz6]; omega) | (simp only [cells, scal1, allSz, zz1, zz3, zz2, zz6, zz7, zz8, avs_len, zz9, zz10, zz11, zz12, zz13, reduceCtorEq, *]; done) | fail) only [c_z22z, wl_z22z_0, s_z22z_0, c_z22z_l0, wb_z22z_0, c_z22z_k0, go_sem, eA, scal1, ↓optI_of g0, w1, List.all_cons, List.all_nil, h1, h2, h3, ↓frz_qcat]
          refine call0 300 hk trivial c2 (.inr rfl) (fun A eA => ?_)
          simp (disch := first | omega | (simp only [avs_len, zz1, zz2, zz3, zz4, zz5, zz6]; omega) | (simp only [cells, scal1, allSz, zz1, zz3, zz2, zz6, zz7, zz8, avs_len, zz9, zz10, zz11, zz12, zz13, reduceCtorEq, *]; done) | fail) only [c_z22z, wl_z22z_0, s_z22z_0, c_z22z_l0, wb_z22z_0, c_z22z_k0, go_sem, eA, scal1, ↓optI_of g0, w1]
          refine call0 300 hk trivial c3 (.inr rfl) (fun A eA => ?_)
          simp (disch := first | omega | (simp only [avs_len, zz1, zz2, zz3, zz4, zz5, zz6]; omega) | (simp only [cells, scal1, allSz, zz1, zz3, zz2, zz6, zz7, zz8, avs_len, zz9, zz10, zz11, zz12, zz13, reduceCtorEq, *]; done) | fail) only [c_z22z, wl_z22z_0, s_z22z_0, c_z22z_l0, wb_z22z_0, c_z22z_k0, go_sem, eA, scal1, ↓optI_of g0, w1, List.all_cons, List.all_nil]
          refine call0 300 hk trivial c1 (.inl rfl) (fun A eA => ?_)
          simp (disch := first | omega | (simp only [avs_len, zz1, zz2, zz3, zz4, zz5, zz6]; omega) | (simp only [cells, scal1, allSz, zz1, zz3, zz2, zz6, zz7, zz8, avs_len, zz9, zz10, zz11, zz12, zz13, reduceCtorEq, *]; done) | fail) only [c_z22z, wl_z22z_0, s_z22z_0, c_z22z_l0, wb_z22z_0, c_z22z_k0, go_sem, eA, scal1, w1, allSz, List.all_cons, List.all_nil, ↓hA]
          exact ih _ _
end Go.Proofs.Ytmokhopjnjecbac
/- Versions, beside one another: the program's Merge, whole. -/
-- short
-- fuel 300
namespace Go.Proofs.Ytmokhopjnjecbac
open Go.Ev
set_option linter.unusedVariables false
set_option linter.unusedSimpArgs false
set_option maxRecDepth 100000
set_option maxHeartbeats 3200000
/-- What stays, in order. -/
noncomputable def mrgL (l : List Ver) : List Ver := refM ltV (kpB l) l []
theorem one_rt {l : List Ver} (h : oneB l = true) : ∀ v ∈ l, VRt v := by
  cases l with
  | nil => intro v hv; cases hv
  | cons v0 l =>
    intro v hv
    have := List.all_eq_true.1 h v hv
    simp only [okV, Bool.and_eq_true] at this
    exact vrtb_true.1 this.1
theorem one_xrt {l : List Ver} (h : oneB l = true) : ∀ v ∈ l, XRt v.event := fun v hv => (one_rt h v hv).2.2.2.2.2.2.2.2.1
theorem stay_len (keep : Ver → Bool) : ∀ (l out : List Ver), (stay ltV keep l out).length ≤ out.length + l.length
  | [], out => by simp [stay]
  | a :: l, out => by
    unfold stay
    split
    · have := stay_len keep l (out ++ [a]); simp at this ⊢; omega
    · have := stay_len keep l out; simp; omega
theorem mrg_perm (l : List Ver) : (stay ltV (kpB l) l []).Perm (mrgL l) := (stay_ref ltV_swo (kpB l) l [] [] (.refl _) .nil).1
theorem mrg_sorted (l : List Ver) : (mrgL l).Pairwise (fun x y => ltV x y = true) := (stay_ref ltV_swo (kpB l) l [] [] (.refl _) .nil).2
theorem mrg_len (l : List Ver) : (mrgL l).length ≤ l.length := by
  rw [← (mrg_perm l).length_eq]
  have := stay_len (kpB l) l []
  simpa using this
noncomputable def mrgR (l : List Ver) : AV := if oneB l = false then .tup [qv [], .int .i64 1] else if 16 < (mrgL l).length then .tup [qv [], .int .i64 11] else .tup [qv (mrgL l), .int .i64 0]
theorem wk_nil2 (x : AV) : Wk1 (.tup [.nils, x]) (.tup [qv [], x]) := by
  refine Wk1.tup rfl (fun j a b ha hb => ?_)
  match j with
  | 0 => simp at ha hb; subst ha hb; exact Wk1.nils 7
  | 1 => simp at ha hb; subst ha hb; exact Wk1.refl _
  | j + 2 => simp at ha
theorem vmerge_calls (l : List Ver) (hl : l.length ≤ 1000) (hm50 : (mrgL l).length < 50) : PCalls Try.prog F_z22z [qv l] (mrgR l) := by
  have c0 := one_calls l (by omega)
  cases h1 : oneB l with
  | false =>
    rw [h1] at c0
    have e : mrgR l = .tup [qv [], .int .i64 1] := by unfold mrgR; rw [if_pos h1]
    rw [e]
    refine PCalls.wk ?_ (wk_nil2 _)
    refine calls_z22z (walk0 300 trivial (fun A eA => ?_))
    simp (disch := first | omega | (simp only [avs_len, zz1, zz2, zz3, zz4, zz5, zz6]; omega) | (simp only [cells, scal1, allSz, zz1, zz3, zz2, zz6, zz7, zz8, avs_len, zz9, zz10, zz11, zz12, zz13, reduceCtorEq, *]; done) | fail) only [c_z22z, wl_z22z_0, s_z22z_0, c_z22z_l0, wb_z22z_0, c_z22z_k0, go_sem, eA, scal1]
    refine call0 300 trivial trivial c0 (.inl rfl) (fun A eA => ?_)
    simp (disch := first | omega | (simp only [avs_len, zz1, zz2, zz3, zz4, zz5, zz6]; omega) | (simp only [cells, scal1, allSz, zz1, zz3, zz2, zz6, zz7, zz8, avs_len, zz9, zz10, zz11, zz12, zz13, reduceCtorEq, *]; done) | fail) only [c_z22z, wl_z22z_0, s_z22z_0, c_z22z_l0, wb_z22z_0, c_z22z_k0, go_sem, eA, scal1]
    exact doneG rfl
  | true =>
    rw [h1] at c0
    have e : mrgR l = if 16 < (mrgL l).length then .tup [qv [], .int .i64 11] else .tup [qv (mrgL l), .int .i64 0] := by unfold mrgR; rw [if_neg (by rw [h1]; simp)]
    have hperm := mrg_perm l
    have hlen := mrg_len l
    have hsort := sort_stay ltV_swo (kpB l) l
    have hle := hperm.length_eq
    rw [show refM ltV (kpB l) l [] = mrgL l from rfl] at hsort
    by_cases h0 : stay ltV (kpB l) l [] = []
    · -- nothing stays
      have hm : mrgL l = [] := by rw [h0] at hle; exact List.eq_nil_of_length_eq_zero hle.symm
      rw [e, hm, if_neg (by simp)]
      refine PCalls.wk ?_ (wk_nil2 _)
      refine calls_z22z (walk0 300 trivial (fun A eA => ?_))
      simp (disch := first | omega | (simp only [avs_len, zz1, zz2, zz3, zz4, zz5, zz6]; omega) | (simp only [cells, scal1, allSz, zz1, zz3, zz2, zz6, zz7, zz8, avs_len, zz9, zz10, zz11, zz12, zz13, reduceCtorEq, *]; done) | fail) only [c_z22z, wl_z22z_0, s_z22z_0, c_z22z_l0, wb_z22z_0, c_z22z_k0, go_sem, eA, scal1]
      refine call0 300 trivial trivial c0 (.inl rfl) (fun A eA => ?_)
      simp (disch := first | omega | (simp only [avs_len, zz1, zz2, zz3, zz4, zz5, zz6]; omega) | (simp only [cells, scal1, allSz, zz1, zz3, zz2, zz6, zz7, zz8, avs_len, zz9, zz10, zz11, zz12, zz13, reduceCtorEq, *]; done) | fail) only [c_z22z, wl_z22z_0, s_z22z_0, c_z22z_l0, wb_z22z_0, c_z22z_k0, go_sem, eA, scal1, List.length_map]
      refine vmerge_loop l hl (one_xrt h1) (k := [.c c_z22z_k0]) trivial l [] rfl [] none (fun _ => rfl) (Nat.le_refl _) (fun e nx hee hl2 => ?_) ⟨fun _ => rfl, fun _ => rfl⟩ _
      rw [hee.2 h0, h0]
      simp only [accV, accE]
      refine walk0 (its := [.c c_z22z_k0]) 300 trivial (fun A eA => ?_)
      simp (disch := first | omega | (simp only [avs_len, zz1, zz2, zz3, zz4, zz5, zz6]; omega) | (simp only [cells, scal1, allSz, zz1, zz3, zz2, zz6, zz7, zz8, avs_len, zz9, zz10, zz11, zz12, zz13, reduceCtorEq, *]; done) | fail) only [c_z22z, wl_z22z_0, s_z22z_0, c_z22z_l0, wb_z22z_0, c_z22z_k0, go_sem, eA, scal1]
      refine call2 300 trivial trivial [] rfl rfl ((vssort_nil F_version_order).h _ rfl) (.inl rfl) (fun A eA => ?_)
      simp (disch := first | omega | (simp only [avs_len, zz1, zz2, zz3, zz4, zz5, zz6]; omega) | (simp only [cells, scal1, allSz, zz1, zz3, zz2, zz6, zz7, zz8, avs_len, zz9, zz10, zz11, zz12, zz13, reduceCtorEq, *]; done) | fail) only [c_z22z, wl_z22z_0, s_z22z_0, c_z22z_l0, wb_z22z_0, c_z22z_k0, go_sem, eA, scal1]
      exact doneG rfl
    · have hrow : rowC ev7 (Go.Sort.sort ltV (stay ltV (kpB l) l []).toArray) = qcat (mrgL l) := by
        rw [qcat_row, ← hsort, Array.toArray_toList]
      have cs := fun g nx => vssort_h (f := 0) (g := g) ord_cmp (show 11 < 32 by decide) (n := (mrgL l).length) (by omega) (stay ltV (kpB l) l []).toArray (by simpa using hle) nx
      rw [lt_ord] at cs
      simp only [vsH, hrow, ← qcat_row] at cs
      have hM1 := qcat_len (mrgL l)
      have hM2 := qcat_take (mrgL l)
      have hM3 := chunk_qcat (mrgL l)
      have hwalk : ∀ {r : AV}, (∀ (g : Nat) (nx : Ctr), RunsX Try.prog 0 (Gives [.t 2, .t 3] r) [.c c_z22z_k0] (e_z22z_0 (.sl 0 32 g 7 0 (mrgL l).length)) [(0, 32, g, some (qcat (stay ltV (kpB l) l [])))] nx) → PCalls Try.prog F_z22z [qv l] r := by
        intro r h
        refine calls_z22z (walk0 300 trivial (fun A eA => ?_))
        simp (disch := first | omega | (simp only [avs_len, zz1, zz2, zz3, zz4, zz5, zz6]; omega) | (simp only [cells, scal1, allSz, zz1, zz3, zz2, zz6, zz7, zz8, avs_len, zz9, zz10, zz11, zz12, zz13, reduceCtorEq, *]; done) | fail) only [c_z22z, wl_z22z_0, s_z22z_0, c_z22z_l0, wb_z22z_0, c_z22z_k0, go_sem, eA, scal1]
        refine call0 300 trivial trivial c0 (.inl rfl) (fun A eA => ?_)
        simp (disch := first | omega | (simp only [avs_len, zz1, zz2, zz3, zz4, zz5, zz6]; omega) | (simp only [cells, scal1, allSz, zz1, zz3, zz2, zz6, zz7, zz8, avs_len, zz9, zz10, zz11, zz12, zz13, reduceCtorEq, *]; done) | fail) only [c_z22z, wl_z22z_0, s_z22z_0, c_z22z_l0, wb_z22z_0, c_z22z_k0, go_sem, eA, scal1, List.length_map]
        refine vmerge_loop l hl (one_xrt h1) (k := [.c c_z22z_k0]) trivial l [] rfl [] none (fun _ => rfl) (Nat.le_refl _) (fun e nx hee hl2 => ?_) ⟨fun _ => rfl, fun _ => rfl⟩ _
        obtain ⟨g, rfl⟩ : ∃ g, e = some g := by cases e with | none => exact absurd (hee.1 rfl) h0 | some g => exact ⟨g, rfl⟩
        simp only [accV, accE, hle]
        exact h g _
      generalize hS : qcat (stay ltV (kpB l) l []) = S at *
      generalize mrgL l = M at *
      by_cases h16 : 16 < M.length
      · rw [e, if_pos h16]
        refine PCalls.wk (hwalk fun g nx => ?_) (wk_nil2 _)
        refine walk0 (its := [.c c_z22z_k0]) 300 trivial (fun A eA => ?_)
        simp (disch := first | omega | (simp only [avs_len, zz1, zz2, zz3, zz4, zz5, zz6]; omega) | (simp only [cells, scal1, allSz, zz1, zz3, zz2, zz6, zz7, zz8, avs_len, zz9, zz10, zz11, zz12, zz13, reduceCtorEq, *]; done) | fail) only [c_z22z, wl_z22z_0, s_z22z_0, c_z22z_l0, wb_z22z_0, c_z22z_k0, go_sem, eA, scal1]
        refine call2x 300 trivial trivial [(0, 32)] rfl rfl (cs _ _) (.inl rfl) (fun nx' A eA => ?_)
        simp (disch := first | omega | (simp only [avs_len, zz1, zz2, zz3, zz4, zz5, zz6]; omega) | (simp only [cells, scal1, allSz, zz1, zz3, zz2, zz6, zz7, zz8, avs_len, zz9, zz10, zz11, zz12, zz13, reduceCtorEq, *]; done) | fail) only [c_z22z, wl_z22z_0, s_z22z_0, c_z22z_l0, wb_z22z_0, c_z22z_k0, go_sem, eA, scal1]
        exact doneG rfl
      · rw [e, if_neg h16]
        refine hwalk fun g nx => ?_
        refine walk0 (its := [.c c_z22z_k0]) 300 trivial (fun A eA => ?_)
        simp (disch := first | omega | (simp only [avs_len, zz1, zz2, zz3, zz4, zz5, zz6]; omega) | (simp only [cells, scal1, allSz, zz1, zz3, zz2, zz6, zz7, zz8, avs_len, zz9, zz10, zz11, zz12, zz13, reduceCtorEq, *]; done) | fail) only [c_z22z, wl_z22z_0, s_z22z_0, c_z22z_l0, wb_z22z_0, c_z22z_k0, go_sem, eA, scal1]
        refine call2x 300 trivial trivial [(0, 32)] rfl rfl (cs _ _) (.inl rfl) (fun nx' A eA => ?_)
        simp (disch := first | omega | (simp only [avs_len, zz1, zz2, zz3, zz4, zz5, zz6]; omega) | (simp only [cells, scal1, allSz, zz1, zz3, zz2, zz6, zz7, zz8, avs_len, zz9, zz10, zz11, zz12, zz13, reduceCtorEq, *]; done) | fail) only [c_z22z, wl_z22z_0, s_z22z_0, c_z22z_l0, wb_z22z_0, c_z22z_k0, go_sem, eA, scal1]
        exact doneG (by simp (disch := first | omega | (simp only [avs_len, zz1, zz2, zz3, zz4, zz5, zz6]; omega) | (simp only [cells, scal1, allSz, zz1, zz3, zz2, zz6, zz7, zz8, avs_len, zz9, zz10, zz11, zz12, zz13, reduceCtorEq, *]; done) | fail) only [go_sem, hM1, hM2, hM3, ↓frz_qcat])
end Go.Proofs.Ytmokhopjnjecbac
