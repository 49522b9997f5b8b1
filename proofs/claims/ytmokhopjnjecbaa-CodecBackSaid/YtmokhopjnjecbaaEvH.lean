/- Operations, last part: literals, make, conversions to and from bytes, function values. -/
import Derived.Test.YtmokhopjnjecbaaEvG
import Derived.Laws.IdiomStrings
import Derived.Laws.MakeOwn
namespace Go.Ev
open Go.RowKit
set_option linter.unusedVariables false
set_option linter.unusedSimpArgs false
set_option linter.unusedSectionVars false

/-- Cells set one behind the other. -/
theorem foldl_set : ∀ (l : List Value) (s off : Nat) (cells : Array Value), off + s + l.length ≤ cells.size →
    (((l.zipIdx s).foldl (fun cs (x : Value × Nat) => cs.setIfInBounds (off + x.2) x.1) cells)).toList = cells.toList.take (off + s) ++ l ++ cells.toList.drop (off + s + l.length)
  | [], s, off, cells, h => by simp
  | v :: l, s, off, cells, h => by
    simp only [List.zipIdx_cons, List.foldl_cons]
    rw [foldl_set l (s + 1) off _ (by simp at h ⊢; omega)]
    simp only [List.length_cons] at h
    apply List.ext_getElem?
    intro q
    simp only [Array.toList_setIfInBounds, List.getElem?_append, List.length_append, List.length_take, List.length_set, Array.length_toList, List.length_cons, List.getElem?_drop, List.getElem?_take, List.getElem?_set]
    have e1 : min (off + (s + 1)) cells.size = off + s + 1 := by omega
    have e2 : min (off + s) cells.size = off + s := by omega
    rw [e1, e2]
    by_cases h1 : q < off + s
    · have a1 : q < off + s + 1 + l.length := by omega
      have a2 : q < off + s + 1 := by omega
      have a3 : q < off + s + (l.length + 1) := by omega
      have a4 : q < off + (s + 1) := by omega
      have a5 : ¬ (off + s = q) := by omega
      simp [a1, a2, a3, a4, a5, h1]
    · by_cases h2 : q = off + s
      · subst h2
        have a1 : off + s < off + s + 1 + l.length := by omega
        have a3 : off + s < off + (s + 1) := by omega
        have a4 : off + s < cells.size := by omega
        simp [a1, a3, a4]
      · have a2 : ¬ q < off + s + 1 := by omega
        have a4 : ¬ q < off + (s + 1) := by omega
        obtain ⟨k, rfl⟩ : ∃ k, q = off + s + 1 + k := ⟨q - (off + s + 1), by omega⟩
        have b1 : ¬ (off + s + 1 + k < off + s) := by omega
        have b2 : off + s + 1 + k - (off + s) = k + 1 := by omega
        have b3 : off + s + 1 + k - (off + s + 1) = k := by omega
        by_cases h3 : k < l.length
        · have c1 : off + s + 1 + k < off + s + 1 + l.length := by omega
          have c2 : off + s + 1 + k < off + s + (l.length + 1) := by omega
          simp [c1, c2, a2, b1, b2, b3]
        · have c1 : ¬ (off + s + 1 + k < off + s + 1 + l.length) := by omega
          have c2 : ¬ (off + s + 1 + k < off + s + (l.length + 1)) := by omega
          have c3 : off + (s + 1) + l.length + (off + s + 1 + k - (off + s + 1 + l.length)) = off + s + 1 + k := by omega
          have c4 : off + s + (l.length + 1) + (off + s + 1 + k - (off + s + (l.length + 1))) = off + s + 1 + k := by omega
          have c5 : ¬ (off + s = off + s + 1 + k) := by omega
          simp [c1, c2, c3, c4, c5]

theorem fill_step (place : Nat → Option (Nat × Nat)) (cells : Array Value) (i : Nat) (v : Value) (rest : List (Nat × Value)) (off sz : Nat) (hp : place i = some (off, sz)) (hs : v.cells.size = sz) (hle : off + sz ≤ cells.size) :
    ∃ cells' : Array Value, Instr.fill place cells ((i, v) :: rest) = Instr.fill place cells' rest ∧ cells'.toList = cells.toList.take off ++ v.cells.toList ++ cells.toList.drop (off + sz) := by
  refine ⟨v.cells.zipIdx.foldl (fun cs (c, j) => cs.setIfInBounds (off + j) c) cells, ?_, ?_⟩
  · simp only [Instr.fill, hp]
    rw [if_neg (by rw [hs]; simp; omega)]
  · have := foldl_set v.cells.toList 0 off cells (by simp; omega)
    rw [← Array.foldl_toList, Array.toList_zipIdx]
    simp only [Nat.add_zero, Array.length_toList, hs] at this
    exact this

section
variable {P : Program} {w0 : World} {O X : Nat → Prop} {bm : Nat → Nat → Nat} {H : Heap} {nx : Ctr} {w : World}

theorem Reps.append {L : Loc} {p : Bool} {xs ys : List AV} {vs us : List Value} (h : Reps L X nx w p xs vs) (k : Reps L X nx w p ys us) : Reps L X nx w p (xs ++ ys) (vs ++ us) := by
  induction h with
  | nil => exact k
  | cons h _ ih => exact .cons h ih
theorem Reps.take {L : Loc} {p : Bool} {xs : List AV} {vs : List Value} (h : Reps L X nx w p xs vs) : ∀ n, Reps L X nx w p (xs.take n) (vs.take n) := by
  induction h with
  | nil => intro n; simp; exact .nil
  | cons h _ ih =>
    intro n
    cases n with
    | zero => exact .nil
    | succ n => exact .cons h (ih n)
theorem Reps.drop {L : Loc} {p : Bool} {xs : List AV} {vs : List Value} (h : Reps L X nx w p xs vs) : ∀ n, Reps L X nx w p (xs.drop n) (vs.drop n) := by
  induction h with
  | nil => intro n; simp; exact .nil
  | cons h t ih =>
    intro n
    cases n with
    | zero => exact .cons h t
    | succ n => exact ih n
theorem Rep.cellsR {L : Loc} {p : Bool} {x : AV} {v : Value} (h : Rep L X nx w p x v) (hx : Ev.cells x ≠ []) : Reps L X nx w p (Ev.cells x) v.cells.toList :=
  Reps.of _ _ (by have := (h.cells hx).1; simpa using this) (fun j y hj => by have := (h.cells hx).2 j y hj; simpa [List.getD] using this)
theorem Reps.move {L L' : Loc} {nx' : Ctr} {w' : World} {p : Bool} {xs : List AV} {vs : List Value} (m : Move L nx w L' nx' w') (h : Reps L X nx w p xs vs) : Reps L' X nx' w' p xs vs := by
  induction h with
  | nil => exact .nil
  | cons h _ ih => exact .cons (h.move m) ih

/-- Parts laid over cells: as the abstract ones are. -/
theorem fill_ok {L : Loc} (place : Nat → Option (Nat × Nat)) {α : Type} {ok : List AV → Option α} {r : α} : ∀ (ps : List (Nat × Nat)) (is : List Nat) (xs : List AV) (vs : List Value) (cs : List AV) (arr : Array Value),
    ps.length = is.length → (∀ (k : Nat) i, is[k]? = some i → place i = ps[k]?) → (∀ q ∈ ps, q.2 ≠ 0) → Reps L X nx w false xs vs → Reps L X nx w false cs arr.toList → fillK ps xs cs ok none = some r →
    ∃ out cs', Instr.fill place arr (is.zip vs) = some out ∧ ok cs' = some r ∧ Reps L X nx w false cs' out.toList
  | [], is, xs, vs, cs, arr, hl, hp, h0, hx, hc, h => by
    have : is = [] := List.eq_nil_of_length_eq_zero (by simpa using hl.symm)
    subst this
    cases xs with
    | nil => exact ⟨arr, cs, rfl, h, hc⟩
    | cons x xs => cases h
  | (off, n) :: ps, is, xs, vs, cs, arr, hl, hp, h0, hx, hc, h => by
    cases is with
    | nil => simp at hl
    | cons i is =>
      cases xs with
      | nil => cases h
      | cons x xs =>
        obtain ⟨v, vs, rfl, h1, t⟩ := hx.inv
        simp only [fillK] at h
        split at h
        · rename_i hcnd
          have hn : cells x ≠ [] := by intro e; rw [e] at hcnd; exact h0 _ (List.mem_cons_self) hcnd.1.symm
          have hv := h1.cellsR hn
          have hvs : v.cells.size = n := by have := (h1.cells hn).1; omega
          have hcl := hc.len
          obtain ⟨arr', e1, e2⟩ := fill_step place arr i v (is.zip vs) off n (hp 0 i rfl) hvs (by simp at hcl; omega)
          have hc' : Reps L X nx w false (cs.take off ++ cells x ++ cs.drop (off + n)) arr'.toList := by
            rw [e2]; exact ((hc.take off).append hv).append (hc.drop (off + n))
          obtain ⟨out, cs', g1, g2, g3⟩ := fill_ok place ps is xs vs _ arr' (by simpa using hl) (fun k i hk => by have := hp (k + 1) i hk; simpa using this) (fun q hq => h0 q (List.mem_cons_of_mem _ hq)) t hc' h
          exact ⟨out, cs', by rw [List.zip_cons_cons, e1]; exact g1, g2, g3⟩
        · cases h

theorem ok_nck (r : Rel w0 O X bm H nx w) (x : AV) (v1 : Value) (h1 : Rep (Lof H bm) X nx w false x v1) {φ : Nat}
    {v : AV} {H' : Heap} {nx' : Ctr} (h : opK .nck [x] H nx φ (fun v H nx => some (v, H, nx)) none = some (v, H', nx')) (o : Oper) (ρ : Operand → Value) (y : Operand) (ho : o.op = .nilCheck y) (hy : ρ y = v1) :
    ∃ w' bm', (execOp ρ o).run P w = .ok (.value v1) w' ∧ Rel w0 O X bm' H' nx' w' ∧ Move (Lof H bm) nx w (Lof H' bm') nx' w' ∧ Rep (Lof H' bm') X nx' w' false v v1 := by
  simp only [opK] at h
  split at h <;> try (cases h; done)
  all_goals
    simp at h; obtain ⟨rfl, rfl, rfl⟩ := h
    refine ⟨w, bm, ?_, r, Move.refl _ _ _, h1⟩
    cases h1 <;> simp [execOp, ho, hy]
theorem ok_ifc (r : Rel w0 O X bm H nx w) (t : TypeId) (D : TypeDesc) (ht : P.underlying t = some D) (hD : ifaceD D = false) (x : AV) (v1 : Value) (h1 : Rep (Lof H bm) X nx w false x v1) {φ : Nat}
    {v : AV} {H' : Heap} {nx' : Ctr} (h : opK (.ifc t) [x] H nx φ (fun v H nx => some (v, H, nx)) none = some (v, H', nx')) : OK P w0 O X bm H nx w (Instr.makeInterface t v1) v H' nx' := by
  simp only [opK] at h
  simp at h; obtain ⟨rfl, rfl, rfl⟩ := h
  refine OK.same r (v' := .iface t v1) ?_ (.ifc h1)
  cases D <;> simp [ifaceD] at hD <;> simp [Instr.makeInterface, run_underlying ht]
theorem ok_b2s (r : Rel w0 O X bm H nx w) (src dst e : TypeId) (hs : P.underlying src = some (.slice e)) (he : P.underlying e = some (.int .u8)) (hd : P.underlying dst = some .string) (x : AV) (v1 : Value) (h1 : Rep (Lof H bm) X nx w false x v1) {φ : Nat}
    {v : AV} {H' : Heap} {nx' : Ctr} (h : opK .b2s [x] H nx φ (fun v H nx => some (v, H, nx)) none = some (v, H', nx')) : OK P w0 O X bm H nx w (convert src dst v1) v H' nx' := by
  have hbl : ∀ (l : List AV), isBytes l = true → (bytesOf l).length = l.length ∧ ∀ j (hj : j < (bytesOf l).length), l[j]? = some (.int .u8 (((bytesOf l)[j]).toNat : Int)) := by
    intro l
    induction l with
    | nil => intro _; exact ⟨rfl, fun j hj => by simp [bytesOf] at hj⟩
    | cons a l ih =>
      intro hb
      simp only [isBytes, List.all_cons, Bool.and_eq_true] at hb
      obtain ⟨ha, hb⟩ := hb
      obtain ⟨i1, i2⟩ := ih hb
      split at ha
      · rename_i n
        have hn := of_decide_eq_true ha
        refine ⟨by simp [bytesOf, i1], fun j hj => ?_⟩
        cases j with
        | zero =>
          have e1 : (UInt8.ofNat n.toNat).toNat = n.toNat := by rw [UInt8.toNat_ofNat']; omega
          simp [bytesOf, e1]; omega
        | succ j => simp [bytesOf] at hj ⊢; exact i2 j (by omega)
      · cases ha
  simp only [opK] at h
  split at h
  · cases h1
    simp at h; obtain ⟨rfl, rfl, rfl⟩ := h
    exact OK.same r (v' := .string .empty) (by rw [run_convert_bytes_string w src dst e none 0 0 hs he hd]; rfl) .str
  · rename_i sz es cap
    split at h
    · rename_i hc
      obtain ⟨rfl, hb⟩ := hc
      simp at h; obtain ⟨rfl, rfl, rfl⟩ := h
      obtain ⟨b1, b2⟩ := hbl es hb
      cases h1 with
      | fz0 hcap hA =>
        rename_i A c
        cases A with
        | none => exact OK.same r (v' := .string ⟨(bytesOf []).toArray⟩) (by rw [run_convert_bytes_string w src dst e none 0 _ hs he hd]; rfl) .str
        | some a => exact OK.same r (run_convert_bytes_back w src dst e a c [] hs he hd (fun j hj => by simp at hj)) .str
      | fz vv hne hl hcap hsz hcc hr ho1 ho =>
        rename_i a c
        have := run_convert_bytes_back (P := P) w src dst e a c (bytesOf es) hs he hd (fun j hj => by
          have h2 := b2 j hj
          have h3 := hcc _ _ 0 _ h2 rfl
          have h4 := hr _ _ 0 _ h2 rfl
          rw [Nat.mul_one, Nat.add_zero] at h3
          rw [h3]; generalize vv j 0 = u at h4; cases h4; rfl)
        rw [b1] at this
        exact OK.same r this .str
    · cases h
  · rename_i f d g sz off len
    rw [getB_find] at h
    split at h
    · rename_i g' cs hf
      split at h
      · rename_i hg
        subst hg
        split at h
        · rename_i hc
          obtain ⟨rfl, hle, hb⟩ := hc
          simp at h; obtain ⟨rfl, rfl, rfl⟩ := h
          obtain ⟨b1, b2⟩ := hbl _ hb
          have hlen : ((cs.drop off).take len).length = len := by simp; omega
          have hs' := srcO_sl r hf (by simpa using hle) (by omega) h1
          simp only [Nat.mul_one] at hs'
          rcases hs' with ⟨rfl, _, A, c, rfl⟩ | ⟨hpos, _, a, c, u, rfl, hu⟩
          · have : bytesOf ((cs.drop off).take 0) = [] := by simp [bytesOf]
            rw [this]
            cases A with
            | none => exact OK.same r (v' := .string ⟨#[]⟩) (by rw [run_convert_bytes_string w src dst e none 0 _ hs he hd]; rfl) .str
            | some a => exact OK.same r (run_convert_bytes_back w src dst e a c [] hs he hd (fun j hj => by simp at hj)) .str
          · have := run_convert_bytes_back (P := P) w src dst e a c (bytesOf ((cs.drop off).take len)) hs he hd (fun j hj => by
              have h2 := b2 j hj
              obtain ⟨k1, k2, _⟩ := hu j _ h2
              rw [k1]; generalize u j = u1 at k2; cases k2; rfl)
            rw [b1, hlen] at this
            exact OK.same r this .str
        · cases h
      · cases h
    · cases h
  · cases h

theorem hole (r : Rel w0 O X bm H nx w) : (∀ f d g, ¬ Lof H bm f d g w.heap.size) ∧ ¬ X w.heap.size := by
  refine ⟨?_, fun hx => by have := r.xlt _ hx; have := r.size; omega⟩
  rintro f d g ⟨⟨cs, hf⟩, e⟩
  obtain ⟨vs1, E1, h1, _⟩ := r.blk _ _ _ _ hf
  rw [← e] at h1; simp at h1

theorem ok_s2b (r : Rel w0 O X bm H nx w) (src dst e : TypeId) (hs : P.underlying src = some .string) (hd : P.underlying dst = some (.slice e)) (he : P.underlying e = some (.int .u8)) (x : AV) (v1 : Value) (h1 : Rep (Lof H bm) X nx w false x v1) {φ : Nat}
    {v : AV} {H' : Heap} {nx' : Ctr} (h : opK .s2b [x] H nx φ (fun v H nx => some (v, H, nx)) none = some (v, H', nx')) : OK P w0 O X bm H nx w (convert src dst v1) v H' nx' := by
  simp only [opK] at h
  split at h
  · rename_i s
    cases h1
    split at h
    · simp at h; obtain ⟨rfl, rfl, rfl⟩ := h
      have hrun := run_bytes_of_string (P := P) w src dst e s hs hd he
      have hcap := grownCap_ge w s.size 0 e
      obtain ⟨rr, mm⟩ := r.grow (w' := w.drew.alloc (.cells (bytesRow s (grownCap w s.size 0 e)) e ((bytesRow s (grownCap w s.size 0 e)).size, (bytesRow s (grownCap w s.size 0 e)).size + 1))) rfl rfl rfl (by simp [alloc_heap]) (fun b hb => heap_alloc_old w.drew _ hb)
      refine ⟨_, _, bm, hrun, rr, mm, ?_⟩
      have hlen : (avBytes s).length = s.size := by simp [avBytes]
      by_cases hz : avBytes s = []
      · have : s.size = 0 := by rw [← hlen, hz]; rfl
        rw [hz, this]; exact .fz0 (by simp) (fun e => by cases e)
      · have hsl : ∀ c, (Value.slice (some ⟨w.heap.size, 0, none⟩) s.size c) = .slice (some ⟨w.heap.size, 0, none⟩) (avBytes s).length c := by rw [hlen]; intro c; rfl
        rw [hsl]
        have hcell : ∀ (i : Nat) y, (avBytes s)[i]? = some y → ∃ b, s.data.toList[i]? = some b ∧ y = .int .u8 b.toNat := by
          intro i y hi
          simp only [avBytes, List.getElem?_map] at hi
          cases hb : s.data.toList[i]? with
          | none => rw [hb] at hi; cases hi
          | some b => rw [hb] at hi; simp at hi; exact ⟨b, rfl, hi.symm⟩
        refine .fz (fun i _ => ((bytesRow s (grownCap w s.size 0 e))).getD i undef) hz (by rw [hlen]; exact hcap) (by simp) (fun i y hi => ?_) (fun i y j z hi hj => ?_) (fun i y j z hi hj => ?_) (fun i y j z hi hj => ?_) ⟨?_, ?_, ?_⟩
        · obtain ⟨b, _, rfl⟩ := hcell i y hi; rfl
        · obtain ⟨b, hb, rfl⟩ := hcell i y hi
          have hlt : i < s.size := by have := (List.getElem?_eq_some_iff.1 hb).1; simpa using this
          cases j with
          | succ j => simp [cells] at hj
          | zero =>
            rw [add_mk, Nat.mul_one, Nat.add_zero, Nat.zero_add]
            refine (World.cell?_alloc_mark w.drew _ _ _ _).trans ?_
            exact getD_of _ _ (by simp [bytesRow]; omega)
        · obtain ⟨b, hb, rfl⟩ := hcell i y hi
          cases j with
          | succ j => simp [cells] at hj
          | zero =>
            simp [cells] at hj; subst hj
            have hlt : i < s.size := by have := (List.getElem?_eq_some_iff.1 hb).1; simpa using this
            have : (bytesRow s (grownCap w s.size 0 e)).getD i undef = .int .u8 b.toNat := by
              have h3 : (bytesRow s (grownCap w s.size 0 e))[i]? = some (.int .u8 b.toNat) := by
                simp only [bytesRow]
                rw [Array.getElem?_append_left (by simp; exact hlt)]
                have h4 : s.data[i]? = some b := by simpa using hb
                simp [h4]
              rw [Array.getD_eq_getD_getElem?, h3]; rfl
            rw [this]; exact .int
        · obtain ⟨b, hb, rfl⟩ := hcell i y hi
          have hlt : i < s.size := by have := (List.getElem?_eq_some_iff.1 hb).1; simpa using this
          have h3 : (bytesRow s (grownCap w s.size 0 e))[i]? = some (.int .u8 b.toNat) := by
            simp only [bytesRow]
            rw [Array.getElem?_append_left (by simp; exact hlt)]
            have h4 : s.data[i]? = some b := by simpa using hb
            simp [h4]
          rw [Array.getD_eq_getD_getElem?, h3]; rfl
        · exact (hole r).1
        · exact (hole r).2
        · simp [alloc_heap]
    · cases h
  · cases h

/-- A new row of elements, whole. -/
theorem fill_row (sz : Nat) : ∀ (vals : List Value) (k : Nat) (arr : Array Value), (∀ v ∈ vals, v.cells.size = sz) → (k + vals.length) * sz ≤ arr.size →
    ∃ out, Instr.fill (fun i => some (i * sz, sz)) arr ((List.range' k vals.length).zip vals) = some out ∧ out.toList = arr.toList.take (k * sz) ++ (vals.map fun v => v.cells.toList).flatten ++ arr.toList.drop ((k + vals.length) * sz)
  | [], k, arr, _, _ => ⟨arr, rfl, by simp⟩
  | v :: vals, k, arr, hv, hle => by
    have hv0 := hv v (List.mem_cons_self)
    have hm : (k + (vals.length + 1)) * sz = k * sz + sz + vals.length * sz := by rw [← Nat.add_assoc, Nat.add_mul, Nat.add_mul]; omega
    simp only [List.length_cons] at hle
    obtain ⟨arr', e1, e2⟩ := fill_step (fun i => some (i * sz, sz)) arr k v ((List.range' (k + 1) vals.length).zip vals) (k * sz) sz rfl hv0 (by omega)
    have hsz : arr'.size = arr.size := by
      have := congrArg List.length e2
      simp only [Array.length_toList, List.length_append, List.length_take, List.length_drop] at this
      omega
    obtain ⟨out, g1, g2⟩ := fill_row sz vals (k + 1) arr' (fun u hu => hv u (List.mem_cons_of_mem _ hu)) (by rw [hsz]; rw [show k + 1 + vals.length = k + (vals.length + 1) by omega]; exact hle)
    refine ⟨out, ?_, ?_⟩
    · simp only [List.length_cons, List.range'_succ, List.zip_cons_cons]; rw [e1]; exact g1
    · rw [g2, e2]
      have hm1 : (k + 1) * sz = k * sz + sz := by rw [Nat.add_mul]; omega
      have hm2 : (k + 1 + vals.length) * sz = k * sz + sz + vals.length * sz := by rw [Nat.add_mul, hm1]
      have l1 : (arr.toList.take (k * sz)).length = k * sz := by simp; omega
      have l2 : v.cells.toList.length = sz := by simp [hv0]
      have t1 : (arr.toList.take (k * sz) ++ v.cells.toList ++ arr.toList.drop (k * sz + sz)).take ((k + 1) * sz) = arr.toList.take (k * sz) ++ v.cells.toList := by
        rw [List.take_append_of_le_length (by simp only [List.length_append, l1, l2]; omega)]
        exact List.take_of_length_le (by simp only [List.length_append, l1, l2]; omega)
      have t2 : (arr.toList.take (k * sz) ++ v.cells.toList ++ arr.toList.drop (k * sz + sz)).drop ((k + 1 + vals.length) * sz) = arr.toList.drop ((k + (vals.length + 1)) * sz) := by
        rw [List.drop_append, List.drop_eq_nil_of_le (by simp only [List.length_append, l1, l2]; omega), List.nil_append, List.drop_drop]
        congr 1
        simp only [List.length_append, l1, l2]; omega
      rw [t1, t2]
      simp only [List.map_cons, List.flatten_cons, List.length_cons, List.append_assoc]

theorem allSz_spec {sz : Nat} : ∀ {l : List AV}, allSz sz l = true → ∀ e ∈ l, (cells e).length = sz ∧ (cells e).all scal1 = true
  | [], _, e, he => by cases he
  | a :: l, h, e, he => by
    simp only [allSz, Bool.and_eq_true, beq_iff_eq] at h
    rcases List.mem_cons.1 he with rfl | he
    · exact ⟨h.1.1, h.1.2⟩
    · exact allSz_spec h.2 e he

/-- A row of elements: its cells. -/
theorem row_cells {L : Loc} {p : Bool} {sz : Nat} (h0 : sz ≠ 0) : ∀ {xs : List AV} {vals : List Value}, Reps L X nx w p xs vals → (∀ e ∈ xs, (cells e).length = sz) →
    Reps L X nx w p (catCells xs) (vals.map fun v => v.cells.toList).flatten ∧ (∀ v ∈ vals, v.cells.size = sz)
  | _, _, .nil, _ => ⟨.nil, fun v hv => by cases hv⟩
  | _, _, .cons (x := x) (v := v) h t, hx => by
    have hc := hx x (List.mem_cons_self)
    have hne : cells x ≠ [] := by intro e; rw [e] at hc; exact h0 hc.symm
    obtain ⟨i1, i2⟩ := row_cells h0 t (fun e he => hx e (List.mem_cons_of_mem _ he))
    refine ⟨(h.cellsR hne).append i1, fun u hu => ?_⟩
    rcases List.mem_cons.1 hu with rfl | hu
    · rw [(h.cells hne).1, hc]
    · exact i2 u hu

theorem run_lit (t e : TypeId) (ht : P.underlying t = some (.slice e)) (i : TypeInfo) (hi : P.info? e = some i) (z : Value) (hz : i.zero = some z) (h0 : i.size ≠ 0) (vals : List Value) (hv : ∀ v ∈ vals, v.cells.size = i.size) (hbig : vals.length * i.size ≤ 16777216) (w : World) :
    (Instr.buildSlice t vals.length ((List.range vals.length).zip vals).toArray).run P w = .ok (.slice (some ⟨w.heap.size, 0, none⟩) vals.length vals.length) { w with heap := w.heap.push (.cells (vals.map fun v => v.cells.toList).flatten.toArray e (0, 0)) } := by
  have hfl : ∀ (l : List Value), (∀ v ∈ l, v.cells.size = i.size) → ((l.map fun v => v.cells.toList).flatten).length = l.length * i.size := by
    intro l
    induction l with
    | nil => intro _; simp
    | cons v l ih => intro h; simp only [List.map_cons, List.flatten_cons, List.length_append, Array.length_toList, h v (List.mem_cons_self), ih (fun u hu => h u (List.mem_cons_of_mem _ hu)), List.length_cons, Nat.add_mul]; omega
  have key : ∀ (zero : Array Value), Instr.fill (fun j => some (j * i.size, i.size)) ((Array.range (vals.length * i.size)).map (zero[· % zero.size]!)) ((List.range vals.length).zip vals) = some (vals.map fun v => v.cells.toList).flatten.toArray := by
    intro zero
    obtain ⟨out, g1, g2⟩ := fill_row i.size vals 0 ((Array.range (vals.length * i.size)).map (zero[· % zero.size]!)) hv (by simp)
    rw [← List.range_eq_range'] at g1
    rw [g1]
    congr 1
    apply Array.ext'
    rw [g2]
    simp
  have hbig' : ¬ (vals.length * i.size > 2 ^ 24) := by omega
  unfold Instr.buildSlice
  simp only [Sem.run_bind, run_underlying ht, Result.andThen_ok, run_sizeOf hi]
  rw [if_neg hbig']
  have hk0 := key #[]
  have hk := key z.cells
  split
  · simp only [Sem.run_bind, Sem.run_pure, Result.andThen_ok]
    rw [hk0]
    simp [newRow]
  · have hzr : (zeroValue e).run P w = .ok z w := by simp [zeroValue, typeInfo, hi, hz]
    simp only [Sem.run_bind, hzr, Sem.run_pure, Result.andThen_ok]
    rw [hk]
    simp [newRow]

theorem Reps.getR {L : Loc} {p : Bool} {xs : List AV} {vs : List Value} (h : Reps L X nx w p xs vs) {j : Nat} {x : AV} (hj : xs[j]? = some x) : ∃ v, vs[j]? = some v ∧ Rep L X nx w p x v := by
  have h1 := h.get j x hj
  have hl := h.len
  have hlt := (List.getElem?_eq_some_iff.1 hj).1
  refine ⟨vs[j], List.getElem?_eq_getElem (by omega), ?_⟩
  have : vs.getD j undef = vs[j] := by simp [List.getD, show j < vs.length by omega]
  rwa [this] at h1

theorem ok_lit (r : Rel w0 O X bm H nx w) (t e : TypeId) (ht : P.underlying t = some (.slice e)) (i : TypeInfo) (hi : P.info? e = some i) (z : Value) (hz : i.zero = some z) (h0 : i.size ≠ 0) (len : Nat) (hbig : len * i.size ≤ 16777216) (xs : List AV) (vals : List Value) (hx : Reps (Lof H bm) X nx w false xs vals) {φ : Nat}
    {v : AV} {H' : Heap} {nx' : Ctr} (h : opK (.lit i.size len) xs H nx φ (fun v H nx => some (v, H, nx)) none = some (v, H', nx')) : OK P w0 O X bm H nx w (Instr.buildSlice t len ((List.range len).zip vals).toArray) v H' nx' := by
  simp only [opK] at h
  split at h
  · rename_i hc
    obtain ⟨hl, hsz⟩ := hc
    have hsp := allSz_spec hsz
    obtain ⟨xs', ids, h, g1, g2, g3⟩ := frz_map (fun v val α ok r1 h1 h2 => frz_ok r 9 v val ok r1 h1 h2) xs vals _ _ hx h
    split at h
    · simp only [Option.some.injEq, Prod.mk.injEq] at h; obtain ⟨rfl, rfl, rfl⟩ := h
      have hfr := g3 (Lof H bm) nx (fun f d g b hb => ⟨hb, by simp⟩)
      have hvl := hx.len
      obtain ⟨_, hvs⟩ := row_cells h0 hx (fun e he => (hsp e he).1)
      have hln : len = vals.length := by omega
      subst hln
      have hrun := run_lit (P := P) t e ht i hi z hz h0 vals hvs hbig w
      obtain ⟨rr, mm⟩ := r.grow (w' := { w with heap := w.heap.push (.cells (vals.map fun v => v.cells.toList).flatten.toArray e (0, 0)) }) rfl rfl rfl (by simp) (fun b hb => by simp [Array.getElem?_push]; omega)
      refine ⟨_, _, bm, hrun, rr, mm, ?_⟩
      have hsz' : ∀ (q : Nat) e1, xs'[q]? = some e1 → (cells e1).length = i.size := by
        intro q e1 hq
        have hlt := (List.getElem?_eq_some_iff.1 hq).1
        obtain ⟨u, hu, hrep⟩ := hfr.getR hq
        obtain ⟨u', hu', hrep'⟩ := hx.getR (List.getElem?_eq_getElem (show q < xs.length by omega))
        rw [hu] at hu'; cases hu'
        have hxl := (hsp _ (List.getElem_mem (show q < xs.length by omega))).1
        have hcs := (hrep'.cells (by intro e; rw [e] at hxl; exact h0 hxl.symm)).1
        rw [hxl] at hcs
        by_cases hne : cells e1 = []
        · have := g2 q e1 hq
          cases hrep with
          | any => exact absurd rfl this
          | agg ha _ => simp only [cells] at hne; subst hne; simp only [Value.cells, List.length_nil] at hcs ha; omega
          | _ => simp [cells] at hne
        · rw [← hcs]; exact ((hrep.cells hne).1).symm
      obtain ⟨hrc, _⟩ := row_cells h0 hfr (fun e1 he1 => by obtain ⟨q, hq⟩ := List.mem_iff_getElem?.1 he1; exact hsz' q e1 hq)
      have hrl := hrc.len
      have hxl' : vals.length = xs'.length := hfr.len.trans rfl
      by_cases hnil : xs' = []
      · rw [hnil] at hxl' ⊢
        have : vals.length = 0 := hxl'
        rw [this]
        exact .fz0 (by simp) (fun e => by cases e)
      · have hsl : (Value.slice (some ⟨w.heap.size, 0, none⟩) vals.length vals.length) = .slice (some ⟨w.heap.size, 0, none⟩) xs'.length vals.length := by rw [hxl']
        rw [hsl]
        have hpos : 0 < i.size := by omega
        have hidx : ∀ (q : Nat) e1 j y, xs'[q]? = some e1 → (cells e1)[j]? = some y → (catCells xs')[q * i.size + j]? = some y := by
          intro q e1 j y hq hj
          have hj' : j < i.size := by have := (List.getElem?_eq_some_iff.1 hj).1; rw [hsz' q e1 hq] at this; exact this
          rw [catCells_get hpos xs' hsz']
          have d1 : (q * i.size + j) / i.size = q := by rw [Nat.add_comm, Nat.add_mul_div_right _ _ hpos, Nat.div_eq_of_lt hj', Nat.zero_add]
          have d2 : (q * i.size + j) % i.size = j := by rw [Nat.add_comm, Nat.add_mul_mod_self_right, Nat.mod_eq_of_lt hj']
          rw [d1, d2, hq]; exact hj
        refine .fz (fun q j => ((vals.map fun v => v.cells.toList).flatten).getD (q * i.size + j) undef) hnil (by omega) (by rintro c' ⟨⟩; rfl) hsz' (fun q e1 j y hq hj => ?_) (fun q e1 j y hq hj => ?_) (fun q e1 j y hq hj => ?_) ⟨(hole r).1, (hole r).2, by simp⟩
        · have h1 := hidx q e1 j y hq hj
          obtain ⟨u, hu, _⟩ := hrc.getR h1
          rw [add_mk, Nat.zero_add, cell_new]
          simp [List.getD, hu]
        · exact ((hrc.get _ _ (hidx q e1 j y hq hj)).sub (fun _ _ _ _ h => h)).move mm
        · -- what lies in a cell is no aggregate: so it was in the parts
          have h1 := hidx q e1 j y hq hj
          have hq' : q < xs.length := by have := (List.getElem?_eq_some_iff.1 hq).1; omega
          have hxe := hsp _ (List.getElem_mem hq')
          have hj' : j < i.size := by have := (List.getElem?_eq_some_iff.1 hj).1; rw [hsz' q e1 hq] at this; exact this
          obtain ⟨hrc0, _⟩ := row_cells h0 hx (fun e he => (hsp e he).1)
          have h2 : (catCells xs)[q * i.size + j]? = some ((cells xs[q])[j]'(by rw [hxe.1]; exact hj')) := by
            rw [catCells_get hpos xs (fun q1 e2 he2 => (hsp e2 (List.mem_of_getElem? he2)).1)]
            have d1 : (q * i.size + j) / i.size = q := by rw [Nat.add_comm, Nat.add_mul_div_right _ _ hpos, Nat.div_eq_of_lt hj', Nat.zero_add]
            have d2 : (q * i.size + j) % i.size = j := by rw [Nat.add_comm, Nat.add_mul_mod_self_right, Nat.mod_eq_of_lt hj']
            rw [d1, d2, List.getElem?_eq_getElem hq']
            exact List.getElem?_eq_getElem _
          exact one_of_scal1 (hrc0.get _ _ h2) (List.all_eq_true.1 hxe.2 _ (List.getElem_mem _))
    · cases h
  · cases h
theorem ok_litm (r : Rel w0 O X bm H nx w) (t e : TypeId) (ht : P.underlying t = some (.slice e)) (i : TypeInfo) (hi : P.info? e = some i) (z : Value) (hz : i.zero = some z) (h0 : i.size ≠ 0) (len key : Nat) (hbig : len * i.size ≤ 16777216) (xs : List AV) (vals : List Value) (hx : Reps (Lof H bm) X nx w false xs vals) {φ : Nat}
    {v : AV} {H' : Heap} {nx' : Ctr} (h : opK (.litm i.size len key) xs H nx φ (fun v H nx => some (v, H, nx)) none = some (v, H', nx')) : OK P w0 O X bm H nx w (Instr.buildSlice t len ((List.range len).zip vals).toArray) v H' nx' := by
  simp only [opK] at h
  split at h
  · rename_i hc
    obtain ⟨hl, hsz⟩ := hc
    have hsp := allSz_spec hsz
    have hvl := hx.len
    obtain ⟨hrc, hvs⟩ := row_cells h0 hx (fun e he => (hsp e he).1)
    have hln : len = vals.length := by omega
    subst hln
    have hrun := run_lit (P := P) t e ht i hi z hz h0 vals hvs hbig w
    simp only [Option.some.injEq, Prod.mk.injEq] at h; obtain ⟨rfl, rfl, rfl⟩ := h
    have hrl := hrc.len
    have hcl := catCells_len xs (fun (q : Nat) e1 he1 => (hsp e1 (List.mem_of_getElem? he1)).1)
    have hsc : ∀ {l : List AV}, (∀ e ∈ l, (cells e).all scal1 = true) → ∀ x ∈ catCells l, scal1 x = true := by
      intro l
      induction l with
      | nil => intro _ x hx; cases hx
      | cons a l ih =>
        intro h1 x hx
        rcases List.mem_append.1 hx with hx | hx
        · exact List.all_eq_true.1 (h1 a (List.mem_cons_self)) x hx
        · exact ih (fun e he => h1 e (List.mem_cons_of_mem _ he)) x hx
    refine OK.new r (vs := (vals.map fun v => v.cells.toList).flatten.toArray) (E := e) hrun rfl rfl rfl rfl (by simp only [List.size_toArray]; omega) (fun j x hj => ?_) (.sl (by simp [bump]) (Nat.le_refl _) ?_)
    · have h1 := hrc.get j x hj
      have h2 : (vals.map fun v => v.cells.toList).flatten.toArray.getD j undef = (vals.map fun v => v.cells.toList).flatten.getD j undef := by simp [List.getD]
      rw [h2]
      exact ⟨h1, one_of_scal1 h1 (hsc (fun e he => (hsp e he).2) x (List.mem_of_getElem? hj))⟩
    · rintro b ⟨_, rfl⟩
      rw [bset_same]
      refine ⟨fun _ => by simp, ?_, (vals.map fun v => v.cells.toList).flatten.toArray, e, by simp, by simp only [List.size_toArray, Nat.zero_add]; rw [hrl, hcl, hl]⟩
      have : vals.length ≤ vals.length * i.size := Nat.le_mul_of_pos_right _ (by omega)
      simp only [maxLen]; omega
  · cases h
theorem ok_bld (r : Rel w0 O X bm H nx w) (t : TypeId) (i : TypeInfo) (hi : P.info? t = some i) (zv : Value) (hz : i.zero = some zv) (z : List AV) (hzl : z.length = zv.cells.size) (hzr : ∀ (j : Nat) x, z[j]? = some x → Closed x (zv.cells.getD j undef) ∧ scal1 x = true)
    (fs : Array Field) (ht : P.underlying t = some (.struct fs)) (szs : Array Nat) (hszs : (fs.mapM fun f => do pure (f.offset, ← sizeOf f.type) : Sem (Array (Nat × Nat))).run P w = .ok ((fs.map (·.offset)).zip szs) w)
    (ps : List (Nat × Nat)) (is : List Nat) (hpl : ps.length = is.length) (hps : ∀ (k : Nat) q, is[k]? = some q → ((fs.map (·.offset)).zip szs)[q]? = ps[k]?) (hp0 : ∀ q ∈ ps, q.2 ≠ 0)
    (xs : List AV) (vals : List Value) (hx : Reps (Lof H bm) X nx w false xs vals) {φ : Nat}
    {v : AV} {H' : Heap} {nx' : Ctr} (h : opK (.bld z ps) xs H nx φ (fun v H nx => some (v, H, nx)) none = some (v, H', nx')) : OK P w0 O X bm H nx w (Instr.build t (is.zip vals).toArray) v H' nx' := by
  simp only [opK] at h
  have hzc : Reps (Lof H bm) X nx w false z zv.cells.toList := Reps.of _ _ (by simp [hzl]) (fun j x hj => by have := (hzr j x hj).1 (Lof H bm) X nx w false; simpa [List.getD] using this)
  obtain ⟨out, cs', g1, g2, g3⟩ := fill_ok (((fs.map (·.offset)).zip szs)[·]?) ps is xs vals z zv.cells hpl hps hp0 hx hzc h
  simp only [Option.some.injEq, Prod.mk.injEq] at g2; obtain ⟨rfl, rfl, rfl⟩ := g2
  have hzrun : (zeroValue t).run P w = .ok zv w := by simp [zeroValue, typeInfo, hi, hz]
  refine OK.same r (v' := .agg out) ?_ (.agg (by have := g3.len; simpa using this) (fun j x hj => by have := g3.get j x hj; simpa [List.getD] using this))
  simp only [Instr.build, Sem.run_bind, hzrun, Result.andThen_ok, run_underlying ht, hszs, g1, Sem.run_pure]
theorem ok_mk (r : Rel w0 O X bm H nx w) (t e : TypeId) (ht : P.underlying t = some (.slice e)) (i : TypeInfo) (hi : P.info? e = some i) (zv : Value) (hz : i.zero = some zv) (hs1 : i.size = 1) (z : AV) (hzl : zv.cells.size = 1) (hzr : Closed z (zv.cells.getD 0 undef) ∧ scal1 z = true) (key : Nat)
    (x : AV) (v1 : Value) (h1 : Rep (Lof H bm) X nx w false x v1) {φ : Nat}
    {v : AV} {H' : Heap} {nx' : Ctr} (h : opK (.mk z i.bytes key) [x] H nx φ (fun v H nx => some (v, H, nx)) none = some (v, H', nx')) : OK P w0 O X bm H nx w (Instr.makeSlice t v1 v1) v H' nx' := by
  simp only [opK] at h
  split at h
  · rename_i n
    cases h1
    split at h
    · rename_i hc
      obtain ⟨h0, hb, hn⟩ := hc
      have hb : n * (i.bytes : Int) ≤ 1099511627776 := hb
      simp only [Option.some.injEq, Prod.mk.injEq] at h; obtain ⟨rfl, rfl, rfl⟩ := h
      have hrun := run_make (P := P) w t e i zv ht hi hz .i64 .i64 n n h0 (Int.le_refl _) (by rw [Int.mul_comm]; omega) (by omega)
      rw [hs1, Nat.mul_one] at hrun
      have hcell : ∀ j, j < n.toNat → (madeCells zv.cells n.toNat).getD j undef = zv.cells.getD 0 undef := by
        intro j hj
        simp [madeCells, hj, hzl, Nat.mod_one]
      refine OK.new r (vs := madeCells zv.cells n.toNat) (E := e) hrun rfl rfl rfl rfl (by simp [size_madeCells]) (fun j y hj => ?_) (.sl (by simp [bump]) (Nat.le_refl _) ?_)
      · have hj' : j < n.toNat := by have := (List.getElem?_eq_some_iff.1 hj).1; simpa using this
        simp [hj'] at hj
        subst hj
        rw [hcell j hj']
        exact ⟨hzr.1 _ _ _ _ _, one_of_scal1 (hzr.1 (Lof H bm) X nx w false) hzr.2⟩
      · rintro b ⟨_, rfl⟩
        rw [bset_same]
        exact ⟨fun _ => by simp, by simp only [maxLen]; omega, madeCells zv.cells n.toNat, e, heap_alloc_new w _, by simp [size_madeCells]⟩
    · cases h
  · cases h
theorem keyIn_mem {f d : Nat} : ∀ {ids : List (Nat × Nat)}, keyIn ids f d = false → (f, d) ∉ ids
  | [], _ => by simp
  | (f', d') :: ids, h => by
    simp only [keyIn] at h
    split at h
    · cases h
    · rename_i e
      intro hm
      rcases List.mem_cons.1 hm with hm | hm
      · simp at hm; exact e ⟨hm.2.symm, hm.1.symm⟩
      · exact keyIn_mem h hm
theorem find_kill0 (ids : List (Nat × Nat)) : ∀ (H : Heap) (f d g : Nat) (b : Option (List AV)), find (kill ids H) f d = some (g, b) → find H f d = some (g, b) ∧ keyIn ids f d = false
  | [], f, d, g, b, h => by simp [kill, find] at h
  | (f1, d1, g1, b1) :: H, f, d, g, b, h => by
    simp only [kill] at h
    split at h
    · rename_i hk
      obtain ⟨h2, h3⟩ := find_kill0 ids H f d g b h
      refine ⟨?_, h3⟩
      simp only [find]
      rw [if_neg (fun e => by obtain ⟨rfl, rfl⟩ := e; rw [hk] at h3; cases h3)]
      exact h2
    · rename_i hk
      simp only [find] at h ⊢
      split at h
      · rename_i e
        rw [if_pos e]
        obtain ⟨rfl, rfl⟩ := e
        exact ⟨h, by simpa using hk⟩
      · rename_i e
        rw [if_neg e]
        exact find_kill0 ids H f d g b h
theorem find_kill (ids : List (Nat × Nat)) (H : Heap) (f d g : Nat) (cs : List AV) (h : find (kill ids H) f d = some (g, some cs)) : find H f d = some (g, some cs) ∧ (f, d) ∉ ids :=
  ⟨(find_kill0 ids H f d g _ h).1, keyIn_mem (find_kill0 ids H f d g _ h).2⟩
theorem find_kill_gen (ids : List (Nat × Nat)) (H : Heap) (f d g : Nat) (b : Option (List AV)) (h : find (kill ids H) f d = some (g, b)) : ∃ b', find H f d = some (g, b') := ⟨b, (find_kill0 ids H f d g b h).1⟩
theorem Rel.kill (r : Rel w0 O X bm H nx w) (ids : List (Nat × Nat)) : Rel w0 O X bm (Ev.kill ids H) nx w ∧ Move (Lof H bm) nx w (Lof (Ev.kill ids H) bm) nx w := by
  have sub : ∀ f d g b, Lof (Ev.kill ids H) bm f d g b → Lof H bm f d g b := by
    rintro f d g b ⟨⟨cs, h⟩, rfl⟩
    exact Lof.mk (find_kill ids _ _ _ _ _ h).1
  have m : Move (Lof H bm) nx w (Lof (Ev.kill ids H) bm) nx w :=
    ⟨fun _ => Nat.le_refl _, Nat.le_refl _, fun f d g b h _ => sub _ _ _ _ h, fun f d g b h _ => .inr ⟨f, d, g, sub _ _ _ _ h⟩, fun _ _ h _ => h, fun _ _ _ _ vs _ _ _ h => ⟨vs, h, rfl⟩⟩
  refine ⟨⟨?_, ?_, ?_, ?_, r.os, r.tape, r.output, r.size, r.keep, r.xlt⟩, m⟩
  · intro f d g cs h
    obtain ⟨vs, E, h1, h2, h3⟩ := r.blk _ _ _ _ (find_kill ids _ _ _ _ _ h).1
    exact ⟨vs, E, h1, h2, fun j x hx => ⟨(h3 j x hx).1.move m, (h3 j x hx).2⟩⟩
  · intro f d g cs f' d' g' cs' h h'
    exact r.inj _ _ _ _ _ _ _ _ (find_kill ids _ _ _ _ _ h).1 (find_kill ids _ _ _ _ _ h').1
  · intro f d g b h
    obtain ⟨b', h'⟩ := find_kill_gen ids _ _ _ _ _ h
    exact r.gen _ _ _ _ h'
  · intro f d g cs h
    exact r.own _ _ _ _ (find_kill ids _ _ _ _ _ h).1


/-- A block of which the abstract heap tells nothing may change its mark. -/
theorem Rel.mark (r : Rel w0 O X bm H nx w) {w' : World} {b : Nat} (hos : w'.os = w.os) (htape : w'.tape = w.tape) (hout : w'.output = w.output) (hsize : w'.heap.size = w.heap.size)
    (hother : ∀ b', b' ≠ b → w'.heap[b']? = w.heap[b']?) (hcell : ∀ a u, w.cell? a = some u → w'.cell? a = some u) (hb : w0.heap.size ≤ b ∨ O b) (hL : ∀ f d g, ¬ Lof H bm f d g b) :
    Rel w0 O X bm H nx w' ∧ Move (Lof H bm) nx w (Lof H bm) nx w' := by
  have hne : ∀ f1 d1 g1 cs1, find H f1 d1 = some (g1, some cs1) → bm f1 d1 ≠ b := by
    intro f1 d1 g1 cs1 h e
    exact hL f1 d1 g1 (by rw [← e]; exact Lof.mk h)
  have m : Move (Lof H bm) nx w (Lof H bm) nx w' := by
    refine ⟨fun _ => Nat.le_refl _, Nat.le_of_eq hsize.symm, fun _ _ _ _ h _ => h, fun f d g b h _ => .inr ⟨f, d, g, h⟩, fun a u hc _ => hcell a u hc, ?_⟩
    rintro f d g b' vs E ⟨⟨cs, h⟩, rfl⟩ _ hbb
    exact ⟨vs, by rw [hother _ (hne _ _ _ _ h)]; exact hbb, rfl⟩
  refine ⟨⟨?_, r.inj, r.gen, r.own, hos.trans r.os, htape.trans r.tape, hout.trans r.output, by rw [hsize]; exact r.size, ?_, r.xlt⟩, m⟩
  · intro f d g cs h
    obtain ⟨vs, E, h1, h2, h3⟩ := r.blk _ _ _ _ h
    exact ⟨vs, E, by rw [hother _ (hne _ _ _ _ h)]; exact h1, h2, fun j x hx => ⟨(h3 j x hx).1.move m, (h3 j x hx).2⟩⟩
  · intro b' hb' hO
    rw [hother b' (fun e => by subst e; exact hb.elim (fun h => by omega) hO)]
    exact r.keep b' hb' hO
theorem freeze_heap (w : World) (a : Addr) (b : Nat) (h : b ≠ a.block) : (w.freeze a 1).heap[b]? = w.heap[b]? := by
  simp only [World.freeze, if_neg (show ¬ (1 : Nat) = 0 by omega), Array.getElem?_modify]
  rw [if_neg (fun e => h e.symm)]
theorem freeze_cell (w : World) (a p : Addr) {u : Value} (h : w.cell? p = some u) : (w.freeze a 1).cell? p = some u := by
  by_cases e : p.block = a.block
  · unfold World.cell? at h ⊢
    simp only [World.freeze, if_neg (show ¬ (1 : Nat) = 0 by omega), Array.getElem?_modify, e, if_true]
    rw [e] at h
    cases hb : w.heap[a.block]? with
    | none => rw [hb] at h; cases h
    | some o => rw [hb] at h; cases o <;> simp_all
  · rw [World.cell?_of_block (w := w) (freeze_heap w a _ e)]; exact h
theorem ok_s2s (r : Rel w0 O X bm H nx w) (src e : TypeId) (hs : P.underlying src = some (.slice e)) (he : P.underlying e = some (.int .u8)) (x : AV) (v1 : Value) (h1 : Rep (Lof H bm) X nx w false x v1) {φ : Nat}
    {v : AV} {H' : Heap} {nx' : Ctr} (h : opK .s2s [x] H nx φ (fun v H nx => some (v, H, nx)) none = some (v, H', nx')) : OK P w0 O X bm H nx w (convert src src v1) v H' nx' := by
  simp only [opK] at h
  split at h
  · rename_i f d g sz off len
    rw [getB_find] at h
    split at h
    · rename_i g' cs hf
      split at h
      · rename_i hg
        subst hg
        split at h
        · rename_i hc
          obtain ⟨rfl, hpos, hle, hbytes⟩ := hc
          simp only [Option.some.injEq, Prod.mk.injEq] at h; obtain ⟨rfl, rfl, rfl⟩ := h
          cases h1 with
          | @sl _ _ _ _ _ _ a c hg2 hl hh =>
            obtain ⟨k1, k2, vs1, E1, k3, k4⟩ := hh _ (Lof.mk hf)
            obtain rfl := k1 (by omega)
            obtain ⟨vs, E, hb, hle2, hrep⟩ := r.blk _ _ _ _ hf
            have hblk : bm f d < w.heap.size := by
              rcases Nat.lt_or_ge (bm f d) w.heap.size with h5 | h5
              · exact h5
              · rw [Array.getElem?_eq_none h5] at hb; cases hb
            obtain ⟨rk, mk⟩ := r.kill [(f, d)]
            have hno : ∀ f1 d1 g1, ¬ Lof (Ev.kill [(f, d)] H) bm f1 d1 g1 (bm f d) := by
              rintro f1 d1 g1 ⟨⟨cs1, h5⟩, h6⟩
              obtain ⟨h7, h8⟩ := find_kill _ _ _ _ _ _ h5
              obtain ⟨rfl, rfl⟩ := r.inj _ _ _ _ _ _ _ _ hf h7 h6
              exact h8 (List.mem_cons_self)
            obtain ⟨rr, mm⟩ := rk.mark (w' := w.freeze ⟨bm f d, vs.size, none⟩ 1) (b := bm f d) rfl rfl rfl (by simp [World.freeze]) (fun b' hb' => freeze_heap w _ b' hb') (fun a u => freeze_cell w _ a) (r.own _ _ _ _ hf).1 hno
            have hsh : w.shape? (bm f d) = some (E, vs.size) := by simp [World.shape?, hb]
            refine ⟨.slice (some ⟨bm f d, off * 1, none⟩) len c, w.freeze ⟨bm f d, vs.size, none⟩ 1, bm, ?_, rr, ⟨mk.hnx, mm.size, fun f d g b h hg => mk.old _ _ _ _ (mm.old _ _ _ _ h hg) hg, fun f d g b h hg => .inr ⟨f, d, g, mk.old _ _ _ _ h (by obtain ⟨⟨cs, h⟩, _⟩ := h; exact rk.gen _ _ _ _ h)⟩, fun a u hc _ => freeze_cell w _ a hc, ?_⟩, ?_⟩
            · simp [convert, run_underlying hs, run_underlying he, markStringish, hsh]
            · intro f1 d1 g1 b1 vs2 E2 hL hg3 hb2
              exact mm.blk _ _ _ _ _ _ hL hg3 hb2
            · have hlen : ((cs.drop off).take len).length = len := by simp; omega
              have hsl : (Value.slice (some ⟨bm f d, off * 1, none⟩) len c) = .slice (some ⟨bm f d, off * 1, none⟩) ((cs.drop off).take len).length c := by rw [hlen]
              rw [hsl]
              have hget : ∀ (q : Nat) y, ((cs.drop off).take len)[q]? = some y → q < len ∧ cs[off + q]? = some y ∧ ∃ n, y = .int .u8 n := by
                intro q y hq
                have hq' : q < len := by have := (List.getElem?_eq_some_iff.1 hq).1; omega
                have hm : y ∈ (cs.drop off).take len := List.mem_of_getElem? hq
                have h5 := List.all_eq_true.1 hbytes y hm
                rw [List.getElem?_take_of_lt hq', List.getElem?_drop] at hq
                refine ⟨hq', hq, ?_⟩
                split at h5
                · exact ⟨_, rfl⟩
                · cases h5
              have hlt : ∀ q, q < len → off + q < vs.size := by intro q hq; omega
              refine .fz (fun i _ => vs.getD (off + i) undef) (fun e => by rw [e] at hlen; simp at hlen; omega) (by omega) (by simp) (fun i y hi => ?_) (fun i y j z hi hj => ?_) (fun i y j z hi hj => ?_) (fun i y j z hi hj => ?_) ⟨hno, (r.own _ _ _ _ hf).2, by simpa [World.freeze] using hblk⟩
              · obtain ⟨_, _, n, rfl⟩ := hget i y hi; rfl
              · obtain ⟨h5, h6, n, rfl⟩ := hget i y hi
                cases j with
                | succ j => simp [cells] at hj
                | zero =>
                  rw [add_mk]
                  refine freeze_cell w _ _ ?_
                  rw [cell_of_row w _ _ vs E _ hb, Nat.mul_one, Nat.mul_one, Nat.add_zero]
                  exact getD_of _ _ (hlt i h5)
              · obtain ⟨h5, h6, n, rfl⟩ := hget i y hi
                cases j with
                | succ j => simp [cells] at hj
                | zero =>
                  simp [cells] at hj; subst hj
                  have h7 := (hrep _ _ h6).1
                  show Rep _ _ _ _ _ _ (vs.getD (off + i) undef)
                  generalize vs.getD (off + i) undef = u at h7 ⊢
                  cases h7; exact .int
              · obtain ⟨h5, h6, n, rfl⟩ := hget i y hi
                exact (hrep _ _ h6).2
        · cases h
      · cases h
    · cases h
  · cases h
theorem ok_ixA1 (r : Rel w0 O X bm H nx w) (t e : TypeId) (len : Nat) (ht : P.underlying t = some (.array len e)) (i : TypeInfo) (hi : P.info? e = some i) (hs : i.size = 1) (D : TypeDesc) (hte : P.underlying e = some D) (hD : aggD D = false) (x y : AV) (v1 v2 : Value) (h1 : Rep (Lof H bm) X nx w false x v1) (h2 : Rep (Lof H bm) X nx w false y v2) {φ : Nat}
    {v : AV} {H' : Heap} {nx' : Ctr} (h : opK (.ixA1 len) [x, y] H nx φ (fun v H nx => some (v, H, nx)) none = some (v, H', nx')) : OK P w0 O X bm H nx w (Instr.index t v1 v2) v H' nx' := by
  simp only [opK] at h
  split at h
  · rename_i cs k n
    cases h2
    split at h
    · rename_i hn
      split at h
      · rename_i c hc
        simp at h; obtain ⟨rfl, rfl, rfl⟩ := h
        cases h1 with
        | agg hl hr =>
          rename_i vs
          have hlt := (List.getElem?_eq_some_iff.1 hc).1
          have hagg : (isAgg e).run P w = .ok false w := by
            simp only [isAgg, Sem.run_bind, run_underlying hte, Result.andThen_ok]
            cases D <;> simp [aggD] at hD ⊢
          refine OK.same r ?_ (hr _ _ hc)
          have hv : vs[n.toNat]? = some (vs.getD n.toNat undef) := getD_of _ _ (by omega)
          simp only [Instr.index, asIntOf, Sem.run_bind, Sem.run_pure, run_underlying ht, Result.andThen_ok, if_pos hn, run_sizeOf hi, hs, Nat.mul_one, part, hagg, Bool.false_eq_true, if_false, hv]
      · cases h
    · cases h
  · cases h
theorem ok_bldA (r : Rel w0 O X bm H nx w) (t : TypeId) (i : TypeInfo) (hi : P.info? t = some i) (zv : Value) (hz : i.zero = some zv) (z : List AV) (hzl : z.length = zv.cells.size) (hzr : ∀ (j : Nat) x, z[j]? = some x → Closed x (zv.cells.getD j undef) ∧ scal1 x = true)
    (len : Nat) (e : TypeId) (ht : P.underlying t = some (.array len e)) (ie : TypeInfo) (hie : P.info? e = some ie) (h0 : ie.size ≠ 0) (is : List Nat)
    (xs : List AV) (vals : List Value) (hx : Reps (Lof H bm) X nx w false xs vals) {φ : Nat}
    {v : AV} {H' : Heap} {nx' : Ctr} (h : opK (.bld z (is.map fun q => (q * ie.size, ie.size))) xs H nx φ (fun v H nx => some (v, H, nx)) none = some (v, H', nx')) : OK P w0 O X bm H nx w (Instr.build t (is.zip vals).toArray) v H' nx' := by
  simp only [opK] at h
  have hzc : Reps (Lof H bm) X nx w false z zv.cells.toList := Reps.of _ _ (by simp [hzl]) (fun j x hj => by have := (hzr j x hj).1 (Lof H bm) X nx w false; simpa [List.getD] using this)
  obtain ⟨out, cs', g1, g2, g3⟩ := fill_ok (fun q => some (q * ie.size, ie.size)) (is.map fun q => (q * ie.size, ie.size)) is xs vals z zv.cells (by simp) (fun k q hq => by simp [hq]) (fun q hq => by obtain ⟨q', _, rfl⟩ := List.mem_map.1 hq; exact h0) hx hzc h
  simp only [Option.some.injEq, Prod.mk.injEq] at g2; obtain ⟨rfl, rfl, rfl⟩ := g2
  have hzrun : (zeroValue t).run P w = .ok zv w := by simp [zeroValue, typeInfo, hi, hz]
  refine OK.same r (v' := .agg out) ?_ (.agg (by have := g3.len; simpa using this) (fun j x hj => by have := g3.get j x hj; simpa [List.getD] using this))
  simp only [Instr.build, Sem.run_bind, hzrun, Result.andThen_ok, run_underlying ht, run_sizeOf hie, g1, Sem.run_pure]

/-- What freezes with no heap at hand freezes with any. -/
theorem mapF_nil {n : Nat} (ih : ∀ (H : Heap) (v : AV) {α : Type} (ok : AV → List (Nat × Nat) → Option α) (r : α), frzK n [] v ok none = some r → frzK n H v ok none = some r) (H : Heap) : ∀ (l : List AV) {α : Type} (ok : List AV → List (Nat × Nat) → Option α) (r : α), mapK (frzK n []) l ok none = some r → mapK (frzK n H) l ok none = some r
  | [], α, ok, r, h => h
  | a :: l, α, ok, r, h => by
    simp only [mapK] at h ⊢
    have h1 := ih H a _ _ h
    have e := frzK_nat n H (fun x : Option (AV × List (Nat × Nat)) => match x with | some (v, i) => mapK (frzK n []) l (fun cs' j => ok (v :: cs') (i ++ j)) none | none => none) a (fun v i => some (v, i)) none
    have e2 := frzK_nat n H (fun x : Option (AV × List (Nat × Nat)) => match x with | some (v, i) => mapK (frzK n H) l (fun cs' j => ok (v :: cs') (i ++ j)) none | none => none) a (fun v i => some (v, i)) none
    simp only at e e2
    rw [← e] at h1
    rw [← e2]
    cases hq : frzK n H a (fun v i => some (v, i)) none with
    | none => rw [hq] at h1; cases h1
    | some q => obtain ⟨v, i⟩ := q; rw [hq] at h1; exact mapF_nil ih H l _ _ h1
theorem frzK_nil : ∀ (n : Nat) (H : Heap) (v : AV) {α : Type} (ok : AV → List (Nat × Nat) → Option α) (r : α), frzK n [] v ok none = some r → frzK n H v ok none = some r
  | 0, _, _, _, _, _, h => by cases h
  | n + 1, H, v, α, ok, r, h => by
    have ih := fun (l : List AV) (ok : List AV → List (Nat × Nat) → Option α) (r : α) => mapF_nil (fun H v α ok r => frzK_nil n H v ok r) H l ok r
    cases v <;> simp only [frzK] at h ⊢ <;> first | exact h | exact ih _ _ _ h | exact frzK_nil n H _ _ _ h | skip
    simp only [getB] at h; cases h
theorem ok_litr (r : Rel w0 O X bm H nx w) (t e : TypeId) (ht : P.underlying t = some (.slice e)) (i : TypeInfo) (hi : P.info? e = some i) (z : Value) (hz : i.zero = some z) (h0 : i.size ≠ 0) (len : Nat) (hbig : len * i.size ≤ 16777216) (xs : List AV) (vals : List Value) (hx : Reps (Lof H bm) X nx w false xs vals) {φ : Nat}
    {v : AV} {H' : Heap} {nx' : Ctr} (h : opK (.litr i.size len) xs H nx φ (fun v H nx => some (v, H, nx)) none = some (v, H', nx')) : OK P w0 O X bm H nx w (Instr.buildSlice t len ((List.range len).zip vals).toArray) v H' nx' := by
  refine ok_lit r t e ht i hi z hz h0 len hbig xs vals hx (φ := φ) ?_
  simp only [opK] at h ⊢
  split at h
  · rename_i hc
    rw [if_pos hc]
    exact mapF_nil (fun H v α ok r => frzK_nil 9 H v ok r) H xs _ _ h
  · cases h
end
end Go.Ev
