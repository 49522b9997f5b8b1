/- Operations: what the abstract evaluator tells of an operation is what the model's operation does. -/
import Derived.Test.YtmokhopjnjecbaaEvB
import Derived.Laws.Entries
import Derived.Laws.Cells
import Derived.Laws.AppendOwn
import Derived.WalkKit
namespace Go.Ev
open Go.RowKit
set_option linter.unusedVariables false
set_option linter.unusedSimpArgs false
set_option linter.unusedSectionVars false

section
variable {P : Program} {w0 : World} {O X : Nat → Prop} {bm : Nat → Nat → Nat} {H : Heap} {nx : Ctr} {w : World}

/-- An operation of the model runs and gives what 'v', 'H'' and 'nx'' stand for. -/
def OK (P : Program) (w0 : World) (O X : Nat → Prop) (bm : Nat → Nat → Nat) (H : Heap) (nx : Ctr) (w : World) (s : Sem Value) (v : AV) (H' : Heap) (nx' : Ctr) : Prop :=
  ∃ v' w' bm', s.run P w = .ok v' w' ∧ Rel w0 O X bm' H' nx' w' ∧ Move (Lof H bm) nx w (Lof H' bm') nx' w' ∧ Rep (Lof H' bm') X nx' w' false v v'

theorem OK.same (r : Rel w0 O X bm H nx w) {s : Sem Value} {v : AV} {v' : Value} (h : s.run P w = .ok v' w) (hr : Rep (Lof H bm) X nx w false v v') :
    OK P w0 O X bm H nx w s v H nx := ⟨v', w, bm, h, r, Move.refl _ _ _, hr⟩
theorem OK.grow (r : Rel w0 O X bm H nx w) {s : Sem Value} {v : AV} {v' : Value} {w' : World} (h : s.run P w = .ok v' w')
    (hos : w'.os = w.os) (htape : w'.tape = w.tape) (hout : w'.output = w.output) (hsize : w.heap.size ≤ w'.heap.size)
    (hother : ∀ b, b < w.heap.size → w'.heap[b]? = w.heap[b]?) (hr : Rep (Lof H bm) X nx w' false v v') :
    OK P w0 O X bm H nx w s v H nx := let ⟨a, b⟩ := r.grow hos htape hout hsize hother; ⟨v', w', bm, h, a, b, hr⟩
theorem OK.new (r : Rel w0 O X bm H nx w) {s : Sem Value} {v : AV} {v' : Value} {w' : World} {f d : Nat} {cs : List AV} {vs : Array Value} {E : TypeId} (h : s.run P w = .ok v' w')
    (hos : w'.os = w.os) (htape : w'.tape = w.tape) (hout : w'.output = w.output) (hh : w'.heap = w.heap.push (.cells vs E (0, 0)))
    (hlen : cs.length ≤ vs.size) (hrep : ∀ (j : Nat) x, cs[j]? = some x → Rep (Lof H bm) X nx w false x (vs.getD j undef) ∧ (vs.getD j undef).oneCell' = true)
    (hr : Rep (Lof (setB H f d (nx d) (some cs)) (bset bm f d w.heap.size)) X (bump nx d) w' false v v') :
    OK P w0 O X bm H nx w s v (setB H f d (nx d) (some cs)) (bump nx d) := let ⟨a, b⟩ := r.new f d hos htape hout hh hlen hrep; ⟨v', w', _, h, a, b, hr⟩

theorem run_sizeOf {t : TypeId} {i : TypeInfo} (h : P.info? t = some i) (w : World) : (sizeOf t).run P w = .ok i.size w := by simp [sizeOf, typeInfo, h]

/-! ### whole numbers, texts -/
theorem ok_int (r : Rel w0 O X bm H nx w) (o : BinOp) (t : TypeId) (x y : AV) (v1 v2 : Value) (h1 : Rep (Lof H bm) X nx w false x v1) (h2 : Rep (Lof H bm) X nx w false y v2)
    {v : AV} {H' : Heap} {nx' : Ctr} (h : binK o x y (fun v => some (v, H, nx)) none = some (v, H', nx')) (ox oy : Operand) :
    OK P w0 O X bm H nx w (do eqGuard o t ox oy v1 v2; binOp o t v1 v2) v H' nx' := by
  unfold binK at h
  split at h
  · rename_i k a k' b
    cases h1; cases h2
    have eg : eqGuard o t ox oy (.int k a) (.int k' b) = pure () := by cases o <;> rfl
    rw [eg]
    split at h
    · split at h
      · cases h
      · rename_i hb
        simp at h
        obtain ⟨rfl, rfl, rfl⟩ := h
        exact OK.same r (v' := .int k (ishl k a b)) (by simp [binOp, Op.shift, hb, ishl]) .int
    · split at h
      · cases h
      · rename_i hb
        simp at h
        obtain ⟨rfl, rfl, rfl⟩ := h
        exact OK.same r (v' := .int k (ishr k a b)) (by simp [binOp, Op.shift, hb, ishr]) .int
    · rename_i hshl hshr
      split at h
      · rename_i hk
        subst hk
        unfold intK at h
        split at h <;> try (simp at h; try obtain ⟨rfl, rfl, rfl⟩ := h)
        · exact OK.same r (v' := .int k (k.wrap (a + b))) (by simp [binOp, Op.intArith]) .int
        · exact OK.same r (v' := .int k (k.wrap (a - b))) (by simp [binOp, Op.intArith]) .int
        · exact OK.same r (v' := .int k (k.wrap (a * b))) (by simp [binOp, Op.intArith]) .int
        · obtain ⟨hb, rfl, rfl, rfl⟩ := h
          exact OK.same r (v' := .int k (k.wrap (a.tdiv b))) (by simp [binOp, Op.intDiv, hb]) .int
        · obtain ⟨hb, rfl, rfl, rfl⟩ := h
          exact OK.same r (v' := .int k (a.tmod b)) (by simp [binOp, Op.intDiv, hb]) .int
        · exact OK.same r (v' := .int k (ibits .and k a b)) (by simp [binOp, Op.intBits, ibits]) .int
        · exact OK.same r (v' := .int k (ibits .or k a b)) (by simp [binOp, Op.intBits, ibits]) .int
        · exact OK.same r (v' := .int k (ibits .xor k a b)) (by simp [binOp, Op.intBits, ibits]) .int
        · exact OK.same r (v' := .int k (ibits .andNot k a b)) (by simp [binOp, Op.intBits, ibits]) .int
        · exact OK.same r (v' := .bool (decide (a = b))) (by simp [binOp, Op.intCmp]; rfl) .bool
        · exact OK.same r (v' := .bool (!decide (a = b))) (by simp [binOp, Op.intCmp]; rfl) .bool
        · exact OK.same r (v' := .bool (decide (a < b))) (by simp [binOp, Op.intCmp]) .bool
        · exact OK.same r (v' := .bool (decide (a ≤ b))) (by simp [binOp, Op.intCmp]) .bool
        · exact OK.same r (v' := .bool (decide (b < a))) (by simp [binOp, Op.intCmp]) .bool
        · exact OK.same r (v' := .bool (decide (b ≤ a))) (by simp [binOp, Op.intCmp]) .bool
      · cases h
  · rename_i a b
    cases h1; cases h2
    have eg : eqGuard o t ox oy (.string a) (.string b) = pure () := by cases o <;> rfl
    rw [eg]
    unfold strK at h
    split at h <;> try (simp at h; try obtain ⟨rfl, rfl, rfl⟩ := h)
    · obtain ⟨hb, rfl, rfl, rfl⟩ := h
      exact OK.same r (v' := .string (a ++ b)) (by simp [binOp, Op.stringOp]; omega) .str
    all_goals exact OK.same r (by simp [binOp, Op.stringOp]) .bool
  · cases h

theorem ok_not (r : Rel w0 O X bm H nx w) (x : AV) (v1 : Value) (h1 : Rep (Lof H bm) X nx w false x v1) {φ : Nat}
    {v : AV} {H' : Heap} {nx' : Ctr} (h : opK .not [x] H nx φ (fun v H nx => some (v, H, nx)) none = some (v, H', nx')) : OK P w0 O X bm H nx w (Op.unary .not v1) v H' nx' := by
  simp only [opK] at h
  split at h
  · cases h1
    simp at h; obtain ⟨rfl, rfl, rfl⟩ := h
    exact OK.same r (by simp [Op.unary]) .bool
  · cases h
theorem ok_neg (r : Rel w0 O X bm H nx w) (x : AV) (v1 : Value) (h1 : Rep (Lof H bm) X nx w false x v1) {φ : Nat}
    {v : AV} {H' : Heap} {nx' : Ctr} (h : opK .neg [x] H nx φ (fun v H nx => some (v, H, nx)) none = some (v, H', nx')) : OK P w0 O X bm H nx w (Op.unary .neg v1) v H' nx' := by
  simp only [opK] at h
  split at h
  · cases h1
    simp at h; obtain ⟨rfl, rfl, rfl⟩ := h
    exact OK.same r (by simp [Op.unary, Op.intArith]) .int
  · cases h
theorem ok_cpl (r : Rel w0 O X bm H nx w) (x : AV) (v1 : Value) (h1 : Rep (Lof H bm) X nx w false x v1) {φ : Nat}
    {v : AV} {H' : Heap} {nx' : Ctr} (h : opK .cpl [x] H nx φ (fun v H nx => some (v, H, nx)) none = some (v, H', nx')) : OK P w0 O X bm H nx w (Op.unary .xor v1) v H' nx' := by
  simp only [opK] at h
  split at h
  · cases h1
    simp at h; obtain ⟨rfl, rfl, rfl⟩ := h
    exact OK.same r (by simp [Op.unary, Op.intBits, ibits]) .int
  · cases h
theorem ok_conv (r : Rel w0 O X bm H nx w) (src dst : TypeId) (k : IntKind) (hs : (P.underlying src).isSome = true) (hd : P.underlying dst = some (.int k)) (x : AV) (v1 : Value) (h1 : Rep (Lof H bm) X nx w false x v1) {φ : Nat}
    {v : AV} {H' : Heap} {nx' : Ctr} (h : opK (.conv k) [x] H nx φ (fun v H nx => some (v, H, nx)) none = some (v, H', nx')) : OK P w0 O X bm H nx w (convert src dst v1) v H' nx' := by
  simp only [opK] at h
  obtain ⟨d, hs⟩ := Option.isSome_iff_exists.mp hs
  split at h
  · cases h1
    simp at h; obtain ⟨rfl, rfl, rfl⟩ := h
    exact OK.same r (by simp [convert, run_underlying hs, run_underlying hd, Conv.intToInt]) .int
  · cases h
theorem run_equal_bool {t : TypeId} (ht : P.underlying t = some .bool) (a b : Bool) (w : World) : (Op.equal t (.bool a) (.bool b)).run P w = .ok (a == b) w := by
  show (Op.equalIn (9999 + 1) t (.bool a) (.bool b)).run P w = _
  rw [Op.equalIn]; simp only [Sem.run_bind, run_underlying ht, Result.andThen_ok]; rfl
theorem run_equal_ptr_nil {t e : TypeId} (ht : P.underlying t = some (.pointer e)) (a : Option Addr) (w : World) : (Op.equal t (.pointer a) (.pointer none)).run P w = .ok a.isNone w := by
  show (Op.equalIn (9999 + 1) t (.pointer a) (.pointer none)).run P w = _
  rw [Op.equalIn]; simp only [Sem.run_bind, run_underlying ht, Result.andThen_ok]; cases a <;> rfl
theorem run_equal_slice_nil {t e : TypeId} (ht : P.underlying t = some (.slice e)) (a : Option Addr) (l c : Nat) (w : World) : (Op.equal t (.slice a l c) (.slice none 0 0)).run P w = .ok a.isNone w := by
  show (Op.equalIn (9999 + 1) t (.slice a l c) (.slice none 0 0)).run P w = _
  rw [Op.equalIn]; simp only [Sem.run_bind, run_underlying ht, Result.andThen_ok]; cases a <;> rfl
theorem run_eqn (n : Bool) (t : TypeId) (v1 v2 : Value) (b : Bool) (h : (Op.equal t v1 v2).run P w = .ok b w) (h1 : binOp .eql t v1 v2 = (do pure (.bool (← Op.equal t v1 v2)))) (h2 : binOp .neq t v1 v2 = (do pure (.bool (!(← Op.equal t v1 v2))))) :
    (binOp (if n = true then .neq else .eql) t v1 v2).run P w = .ok (.bool (if n = true then !b else b)) w := by
  cases n
  · simp [h1, h]
  · simp [h2, h]
theorem ok_eqb (r : Rel w0 O X bm H nx w) (n : Bool) (t : TypeId) (ht : P.underlying t = some .bool) (x y : AV) (v1 v2 : Value) (h1 : Rep (Lof H bm) X nx w false x v1) (h2 : Rep (Lof H bm) X nx w false y v2) {φ : Nat}
    {v : AV} {H' : Heap} {nx' : Ctr} (h : opK (.eqb n) [x, y] H nx φ (fun v H nx => some (v, H, nx)) none = some (v, H', nx')) (ox oy : Operand) :
    OK P w0 O X bm H nx w (do eqGuard (if n = true then .neq else .eql) t ox oy v1 v2; binOp (if n = true then .neq else .eql) t v1 v2) v H' nx' := by
  simp only [opK] at h
  split at h
  · cases h1; cases h2
    simp at h; obtain ⟨rfl, rfl, rfl⟩ := h
    have eg : ∀ o a b, eqGuard o t ox oy (.bool a) (.bool b) = pure () := by intro o a b; cases o <;> rfl
    refine OK.same r ?_ .bool
    rw [eg]
    exact run_eqn n t _ _ _ (run_equal_bool ht _ _ w) rfl rfl
  · cases h
theorem ok_eqp (r : Rel w0 O X bm H nx w) (n : Bool) (t e : TypeId) (ht : P.underlying t = some (.pointer e)) (x y : AV) (v1 v2 : Value) (h1 : Rep (Lof H bm) X nx w false x v1) (h2 : Rep (Lof H bm) X nx w false y v2) {φ : Nat}
    {v : AV} {H' : Heap} {nx' : Ctr} (h : opK (.eqp n) [x, y] H nx φ (fun v H nx => some (v, H, nx)) none = some (v, H', nx')) (ox oy : Operand) :
    OK P w0 O X bm H nx w (do eqGuard (if n = true then .neq else .eql) t ox oy v1 v2; binOp (if n = true then .neq else .eql) t v1 v2) v H' nx' := by
  simp only [opK] at h
  have eg : ∀ o a b, eqGuard o t ox oy (.pointer a) (.pointer b) = pure () := by intro o a b; cases o <;> rfl
  split at h
  · cases h2
    unfold nilpK at h
    split at h <;> try (cases h; done)
    all_goals
      cases h1
      simp at h; obtain ⟨rfl, rfl, rfl⟩ := h
      refine OK.same r ?_ .bool
      rw [eg]
      exact (run_eqn n t _ _ _ (run_equal_ptr_nil ht _ w) rfl rfl).trans (by cases n <;> rfl)
  · cases h
theorem ok_eqs (r : Rel w0 O X bm H nx w) (n : Bool) (t e : TypeId) (ht : P.underlying t = some (.slice e)) (x y : AV) (v1 v2 : Value) (h1 : Rep (Lof H bm) X nx w false x v1) (h2 : Rep (Lof H bm) X nx w false y v2) {φ : Nat}
    {v : AV} {H' : Heap} {nx' : Ctr} (h : opK (.eqs n) [x, y] H nx φ (fun v H nx => some (v, H, nx)) none = some (v, H', nx')) (ox oy : Operand) :
    OK P w0 O X bm H nx w (do eqGuard (if n = true then .neq else .eql) t ox oy v1 v2; binOp (if n = true then .neq else .eql) t v1 v2) v H' nx' := by
  simp only [opK] at h
  have eg : ∀ o a l c b l' c', eqGuard o t ox oy (.slice a l c) (.slice b l' c') = pure () := by intro o a l c b l' c'; cases o <;> rfl
  split at h
  · cases h2
    unfold nilsK at h
    split at h <;> try (cases h; done)
    · cases h1
      simp at h; obtain ⟨rfl, rfl, rfl⟩ := h
      refine OK.same r ?_ .bool
      rw [eg]
      exact (run_eqn n t _ _ _ (run_equal_slice_nil ht _ _ _ w) rfl rfl).trans (by cases n <;> rfl)
    · cases h1
      simp at h; obtain ⟨rfl, rfl, rfl⟩ := h
      refine OK.same r ?_ .bool
      rw [eg]
      exact (run_eqn n t _ _ _ (run_equal_slice_nil ht _ _ _ w) rfl rfl).trans (by cases n <;> rfl)
    · cases h1
      simp at h; obtain ⟨rfl, rfl, rfl⟩ := h
      refine OK.same r ?_ .bool
      rw [eg]
      exact (run_eqn n t _ _ _ (run_equal_slice_nil ht _ _ _ w) rfl rfl).trans (by cases n <;> rfl)
    · cases h1 with
      | fz vv hne => exact absurd rfl hne
      | @fz0 _ _ _ A c hcap hA =>
        cases A with
        | none => cases (hA rfl).2
        | some A =>
          simp at h; obtain ⟨rfl, rfl, rfl⟩ := h
          refine OK.same r ?_ .bool
          rw [eg]
          exact (run_eqn n t _ _ _ (run_equal_slice_nil ht _ _ _ w) rfl rfl).trans (by cases n <;> rfl)
  · cases h

/-! ### memory that nobody writes -/
theorem alloc_heap (w : World) (o : Obj) : (w.alloc o).heap = w.heap.push o := rfl
theorem cell_new (w : World) (vs : Array Value) (E : TypeId) (j : Nat) : World.cell? { w with heap := w.heap.push (.cells vs E (0, 0)) } ⟨w.heap.size, j, none⟩ = vs[j]? := by
  simp [World.cell?]
theorem getD_of (vs : Array Value) (j : Nat) (h : j < vs.size) : vs[j]? = some (vs.getD j undef) := by simp [h]

theorem ok_box (r : Rel w0 O X bm H nx w) (t : TypeId) (x : AV) (v1 : Value) (h1 : Rep (Lof H bm) X nx w false x v1) {φ : Nat}
    {v : AV} {H' : Heap} {nx' : Ctr} (h : opK .box [x] H nx φ (fun v H nx => some (v, H, nx)) none = some (v, H', nx')) : OK P w0 O X bm H nx w (Instr.box t v1) v H' nx' := by
  simp only [opK] at h
  split at h
  · rename_i hc
    have hne : cells x ≠ [] := by
      intro e
      rcases hc with hc | hc
      · cases x <;> simp [scal1, cells] at hc e
      · exact hc (by rw [e]; rfl)
    obtain ⟨hs, hr⟩ := h1.cells hne
    simp at h; obtain ⟨rfl, rfl, rfl⟩ := h
    have hL : ∀ f d g, ¬ Lof H bm f d g w.heap.size := by
      rintro f d g ⟨⟨cs, hf⟩, e⟩
      obtain ⟨vs1, E1, h1, _⟩ := r.blk _ _ _ _ hf
      rw [← e] at h1; simp at h1
    have hX : ¬ X w.heap.size := fun hx => by have := r.xlt _ hx; have := r.size; omega
    let w' : World := { w with heap := w.heap.push (.cells v1.cells t (0, 0)) }
    obtain ⟨rr, mm⟩ := r.grow (w' := w') rfl rfl rfl (by simp [w']) (fun b hb => by simp [w', Array.getElem?_push]; omega)
    refine ⟨.pointer (some ⟨w.heap.size, 0, none⟩), w', bm, by simp [Instr.box, newVar, newRow, w'], rr, mm, ?_⟩
    refine .ro (fun j => v1.cells.getD j undef) (fun j y hj => ?_) (fun j y hj => (hr j y hj).move mm) (fun _ => ⟨hL, hX, by simp [w']⟩)
    rw [add_mk, Nat.zero_add, cell_new]
    exact getD_of _ _ (by rw [hs]; exact (List.getElem?_eq_some_iff.1 hj).1)
  · cases h
theorem ok_fa (r : Rel w0 O X bm H nx w) (t : TypeId) (fs : Array Field) (ht : P.underlying t = some (.struct fs)) (n : Nat) (f : Field) (hf : fs[n]? = some f) (i : TypeInfo) (hi : P.info? f.type = some i) (h0 : i.size ≠ 0) (x : AV) (v1 : Value) (h1 : Rep (Lof H bm) X nx w false x v1) {φ : Nat}
    {v : AV} {H' : Heap} {nx' : Ctr} (h : opK (.fa f.offset) [x] H nx φ (fun v H nx => some (v, H, nx)) none = some (v, H', nx')) : OK P w0 O X bm H nx w (Instr.fieldAt t v1 n) v H' nx' := by
  simp only [opK] at h
  have hrun : ∀ a, (Instr.fieldAt t (.pointer (some a)) n).run P w = .ok (.pointer (some (a.add f.offset))) w := by
    intro a; simp [Instr.fieldAt, run_underlying ht, hf, Instr.sureAddr, fieldPlace, run_sizeOf hi, h0]
  split at h
  · rename_i cs
    split at h
    · rename_i hlt
      cases h1 with
      | ro vv hc hr ho =>
        simp at h; obtain ⟨rfl, rfl, rfl⟩ := h
        refine OK.same r (hrun _) (.ro (fun j => vv (f.offset + j)) (fun j y hj => ?_) (fun j y hj => hr _ _ (by rw [List.getElem?_drop] at hj; exact hj)) (fun _ => ?_))
        · rw [add_add]; exact hc _ y (by rw [List.getElem?_drop] at hj; exact hj)
        · rw [add_block]; exact ho (by intro e; simp [e] at hlt)
    · cases h
  · cases h1 with
    | ptr hg hh =>
      simp at h; obtain ⟨rfl, rfl, rfl⟩ := h
      refine OK.same r (hrun _) (.ptr hg (fun b hb => ?_))
      rw [hh b hb, add_mk]
  · cases h
theorem ok_ld1' (r : Rel w0 O X bm H nx w) (t : TypeId) (D : TypeDesc) (ht : P.underlying t = some D) (hD : aggD D = false) (x : AV) (v1 : Value) (h1 : Rep (Lof H bm) X nx w false x v1) {φ : Nat}
    {v : AV} {H' : Heap} {nx' : Ctr} (h : opK .ld1 [x] H nx φ (fun v H nx => some (v, H, nx)) none = some (v, H', nx')) : ∃ v', (Instr.loadAt t v1).run P w = .ok v' w ∧ H' = H ∧ nx' = nx ∧ Rep (Lof H bm) X nx w false v v' := by
  simp only [opK] at h
  have hrun : ∀ a u, w.cell? a = some u → (Instr.loadAt t (.pointer (some a))).run P w = .ok u w := by
    intro a u hc
    have : (isAgg t).run P w = .ok false w := by
      simp only [isAgg, Sem.run_bind, run_underlying ht, Result.andThen_ok]
      cases D <;> simp [aggD] at hD ⊢
    simp [Instr.loadAt, Instr.sureAddr, loadVar, this, hc]
  split at h
  · rename_i c cs
    cases h1 with
    | ro vv hc hr ho =>
      simp at h; obtain ⟨rfl, rfl, rfl⟩ := h
      have := hc 0 c rfl
      rw [Addr.add_zero'] at this
      exact ⟨_, hrun _ _ this, rfl, rfl, hr 0 c rfl⟩
  · rename_i f d g off
    rw [getB_find] at h
    split at h
    · rename_i g' cs hf
      split at h
      · rename_i hg
        subst hg
        cases hd : cs.drop off with
        | nil => rw [hd] at h; cases h
        | cons c cs' =>
          rw [hd] at h
          simp at h; obtain ⟨rfl, rfl, rfl⟩ := h
          cases h1 with
          | ptr hg hh =>
            obtain rfl := hh _ (Lof.mk hf)
            obtain ⟨vs, E, hb, hl, hrep⟩ := r.blk _ _ _ _ hf
            have hoff : cs[off]? = some c := by have := congrArg (fun l => l[0]?) hd; simpa using this
            have hlt := (List.getElem?_eq_some_iff.1 hoff).1
            refine ⟨_, hrun _ (vs.getD off undef) ?_, rfl, rfl, (hrep _ _ hoff).1⟩
            rw [cell_of_row w _ _ vs E _ hb]; exact getD_of _ _ (by omega)
      · cases h
    · cases h
  · cases h
theorem ok_ld1 (r : Rel w0 O X bm H nx w) (t : TypeId) (D : TypeDesc) (ht : P.underlying t = some D) (hD : aggD D = false) (x : AV) (v1 : Value) (h1 : Rep (Lof H bm) X nx w false x v1) {φ : Nat}
    {v : AV} {H' : Heap} {nx' : Ctr} (h : opK .ld1 [x] H nx φ (fun v H nx => some (v, H, nx)) none = some (v, H', nx')) : OK P w0 O X bm H nx w (Instr.loadAt t v1) v H' nx' := by
  obtain ⟨v', h2, rfl, rfl, h3⟩ := ok_ld1' r t D ht hD x v1 h1 h
  exact OK.same r h2 h3
theorem run_loadCells_arr (w : World) (a : Addr) (vs : Array Value) (o n : Nat) (hn : o + n ≤ vs.size) (h : ∀ j, j < n → w.cell? (a.add j) = some (vs.getD (o + j) undef)) :
    (loadCells a n).run P w = .ok (vs.extract o (o + n)) w := by
  rw [run_loadCells w a n (fun j => vs.getD (o + j) undef) h]
  congr 1
  apply Array.ext
  · simp; omega
  · intro i h1 h2
    simp at h1
    have : o + i < vs.size := by omega
    simp [this]
theorem ok_ldn' (r : Rel w0 O X bm H nx w) (t : TypeId) (D : TypeDesc) (ht : P.underlying t = some D) (hD : aggD D = true) (i : TypeInfo) (hi : P.info? t = some i) (x : AV) (v1 : Value) (h1 : Rep (Lof H bm) X nx w false x v1) {φ : Nat}
    {v : AV} {H' : Heap} {nx' : Ctr} (h : opK (.ldn i.size) [x] H nx φ (fun v H nx => some (v, H, nx)) none = some (v, H', nx')) : ∃ v', (Instr.loadAt t v1).run P w = .ok v' w ∧ H' = H ∧ nx' = nx ∧ Rep (Lof H bm) X nx w false v v' := by
  simp only [opK] at h
  have hrun : ∀ a (f : Nat → Value), (∀ j, j < i.size → w.cell? (a.add j) = some (f j)) → (Instr.loadAt t (.pointer (some a))).run P w = .ok (.agg ((List.range i.size).map f).toArray) w := by
    intro a f hc
    have : (isAgg t).run P w = .ok true w := by
      simp only [isAgg, Sem.run_bind, run_underlying ht, Result.andThen_ok]
      cases D <;> simp [aggD] at hD ⊢
    simp [Instr.loadAt, Instr.sureAddr, loadVar, this, run_sizeOf hi, run_loadCells w a i.size f hc]
  have hget : ∀ (f : Nat → Value) j, j < i.size → (((List.range i.size).map f).toArray).getD j undef = f j := by
    intro f j hj; simp [hj]
  split at h
  · rename_i cs
    split at h
    · rename_i hle
      cases h1 with
      | ro vv hc hr ho =>
        simp at h; obtain ⟨rfl, rfl, rfl⟩ := h
        refine ⟨_, hrun _ vv (fun j hj => ?_), rfl, rfl, .agg (by simp; omega) (fun j y hj => ?_)⟩
        · have : j < cs.length := by omega
          exact hc j cs[j] (List.getElem?_eq_getElem this)
        · have hj' : j < i.size := by have := (List.getElem?_eq_some_iff.1 hj).1; simp at this; omega
          rw [hget _ _ hj']
          rw [List.getElem?_take_of_lt hj'] at hj
          exact hr _ _ hj
    · cases h
  · rename_i f d g off
    rw [getB_find] at h
    split at h
    · rename_i g' cs hf
      split at h
      · rename_i hg
        subst hg
        split at h
        · rename_i hle
          simp at h; obtain ⟨rfl, rfl, rfl⟩ := h
          cases h1 with
          | ptr hg hh =>
            obtain rfl := hh _ (Lof.mk hf)
            obtain ⟨vs, E, hb, hl, hrep⟩ := r.blk _ _ _ _ hf
            refine ⟨_, hrun _ (fun j => vs.getD (off + j) undef) (fun j hj => ?_), rfl, rfl, .agg (by simp; omega) (fun j y hj => ?_)⟩
            · rw [add_mk, cell_of_row w _ _ vs E _ hb]; exact getD_of _ _ (by omega)
            · have hj' : j < i.size := by have := (List.getElem?_eq_some_iff.1 hj).1; simp at this; omega
              rw [hget _ _ hj']
              rw [List.getElem?_take_of_lt hj', List.getElem?_drop] at hj
              exact (hrep _ _ hj).1
        · cases h
      · cases h
    · cases h
  · cases h
theorem ok_ldn (r : Rel w0 O X bm H nx w) (t : TypeId) (D : TypeDesc) (ht : P.underlying t = some D) (hD : aggD D = true) (i : TypeInfo) (hi : P.info? t = some i) (x : AV) (v1 : Value) (h1 : Rep (Lof H bm) X nx w false x v1) {φ : Nat}
    {v : AV} {H' : Heap} {nx' : Ctr} (h : opK (.ldn i.size) [x] H nx φ (fun v H nx => some (v, H, nx)) none = some (v, H', nx')) : OK P w0 O X bm H nx w (Instr.loadAt t v1) v H' nx' := by
  obtain ⟨v', h2, rfl, rfl, h3⟩ := ok_ldn' r t D ht hD i hi x v1 h1 h
  exact OK.same r h2 h3
end
end Go.Ev
