/- Operations, second part: what writes and makes memory; indexes, cuts, append. -/
import Derived.Test.YtmokhopjnjecbaaEvC
import Derived.Laws.MakeOwn
import Derived.Laws.Slices
namespace Go.Ev
open Go.RowKit
set_option linter.unusedVariables false
set_option linter.unusedSimpArgs false
set_option linter.unusedSectionVars false

section
variable {P : Program} {w0 : World} {O X : Nat → Prop} {bm : Nat → Nat → Nat} {H : Heap} {nx : Ctr} {w : World}

theorem one_of_scal1 {L : Loc} {p : Bool} {x : AV} {v : Value} (h : Rep L X nx w p x v) (hs : scal1 x = true) : v.oneCell' = true := by
  cases h <;> first | rfl | simp [scal1] at hs

/-- A value that is the same in whatever world. -/
def Closed (x : AV) (v : Value) : Prop := ∀ (L : Loc) (X : Nat → Prop) (nx : Ctr) (w : World) (p : Bool), Rep L X nx w p x v

theorem ok_boxm (r : Rel w0 O X bm H nx w) (t : TypeId) (key : Nat) (x : AV) (v1 : Value) (h1 : Rep (Lof H bm) X nx w false x v1) {φ : Nat}
    {v : AV} {H' : Heap} {nx' : Ctr} (h : opK (.boxm key) [x] H nx φ (fun v H nx => some (v, H, nx)) none = some (v, H', nx')) : OK P w0 O X bm H nx w (Instr.box t v1) v H' nx' := by
  simp only [opK] at h
  split at h
  · rename_i hc
    obtain ⟨hs, hr⟩ := h1.cells (by intro e; rw [e] at hc; exact hc.1 rfl)
    simp at h; obtain ⟨rfl, rfl, rfl⟩ := h
    refine OK.new r (vs := v1.cells) (E := t) (w' := { w with heap := w.heap.push (.cells v1.cells t (0, 0)) }) (v' := .pointer (some ⟨w.heap.size, 0, none⟩))
      (by simp [Instr.box, newVar, newRow]) rfl rfl rfl rfl (by omega) (fun j x hj => ⟨hr j x hj, one_of_scal1 (hr j x hj) (List.all_eq_true.1 hc.2 _ (List.mem_of_getElem? hj))⟩) (.ptr (by simp [bump]) ?_)
    rintro b ⟨_, rfl⟩
    rw [bset_same]
  · cases h
theorem ok_new (r : Rel w0 O X bm H nx w) (t : TypeId) (i : TypeInfo) (hi : P.info? t = some i) (zv : Value) (hz : i.zero = some zv) (z : List AV) (hl : z.length = zv.cells.size)
    (hzr : ∀ (j : Nat) x, z[j]? = some x → Closed x (zv.cells.getD j undef) ∧ scal1 x = true) (key : Nat) {φ : Nat}
    {v : AV} {H' : Heap} {nx' : Ctr} (h : opK (.new z key) [] H nx φ (fun v H nx => some (v, H, nx)) none = some (v, H', nx')) : OK P w0 O X bm H nx w (Instr.alloc t true (.tuple #[])) v H' nx' := by
  simp only [opK] at h
  simp at h; obtain ⟨rfl, rfl, rfl⟩ := h
  refine OK.new r (vs := zv.cells) (E := t) (w' := { w with heap := w.heap.push (.cells zv.cells t (0, 0)) }) (v' := .pointer (some ⟨w.heap.size, 0, none⟩))
    (by simp [Instr.alloc, zeroValue, typeInfo, hi, hz, newVar, newRow]) rfl rfl rfl rfl (by omega) (fun j x hx => ⟨(hzr j x hx).1 _ _ _ _ _, one_of_scal1 ((hzr j x hx).1 (Lof H bm) X nx w false) (hzr j x hx).2⟩) (.ptr (by simp [bump]) ?_)
  rintro b ⟨_, rfl⟩
  rw [bset_same]
theorem ok_st (r : Rel w0 O X bm H nx w) (t : TypeId) (i : TypeInfo) (hi : P.info? t = some i) (x y : AV) (v1 v2 : Value) (h1 : Rep (Lof H bm) X nx w false x v1) (h2 : Rep (Lof H bm) X nx w false y v2) (h0 : i.size ≠ 0) {φ : Nat}
    {v : AV} {H' : Heap} {nx' : Ctr} (h : opK (.st i.size) [x, y] H nx φ (fun v H nx => some (v, H, nx)) none = some (v, H', nx')) :
    ∃ w' bm', (Instr.storeAt t v1 v2).run P w = .ok () w' ∧ Rel w0 O X bm' H' nx' w' ∧ Move (Lof H bm) nx w (Lof H' bm') nx' w' ∧ v = .any := by
  simp only [opK] at h
  split at h
  · rename_i f d g off
    rw [getB_find] at h
    split at h
    · rename_i g' cs hf
      split at h
      · rename_i hg
        subst hg
        split at h
        · rename_i hc
          obtain ⟨hc1, hc2, hc3⟩ := hc
          simp only [Option.some.injEq, Prod.mk.injEq] at h; obtain ⟨rfl, rfl, rfl⟩ := h
          cases h1 with
          | ptr hg hh =>
            obtain rfl := hh _ (Lof.mk hf)
            obtain ⟨hs, hr⟩ := h2.cells (by intro e; rw [e] at hc1; exact h0 hc1.symm)
            obtain ⟨vs, E, hb, hl, hrep⟩ := r.blk _ _ _ _ hf
            have hone : ∀ u ∈ v2.cells.toList, u.oneCell' = true := by
              intro u hu
              obtain ⟨j, hj, rfl⟩ := List.mem_iff_getElem.1 hu
              have hj' : j < (cells y).length := by simpa [hs] using hj
              have := hr j _ (List.getElem?_eq_getElem hj')
              have hsc := (List.all_eq_true.1 hc2) _ (List.getElem_mem hj')
              have h3 := one_of_scal1 this hsc
              simpa [hs, hj', Array.getD] using h3
            have hst := run_storeCells_at P (bm f d) off E v2.cells.toList 0 vs w hb (by simp only [Array.length_toList]; omega) hone
            refine ⟨_, bset bm f d (bm f d), by simp only [Instr.storeAt, Instr.sureAddr, storeVar, Sem.run_bind, Sem.run_pure, Result.andThen_ok, run_sizeOf hi]; rw [if_neg (by rw [hs]; exact fun h => h hc1)]; exact hst, ?_⟩
            simp only [Nat.add_zero]
            have := r.set (w' := w.setRow (bm f d) (vs.toList.take off ++ v2.cells.toList ++ vs.toList.drop (off + v2.cells.toList.length)).toArray) (f := f) (d := d) (g' := g') (nx' := nx) (b' := bm f d)
              (cs' := cs.take off ++ cells y ++ cs.drop (off + i.size)) rfl rfl rfl (by simp) (fun b hb1 _ => setRow_other _ _ _ _ hb1) (setRow_heap _ _ _ _ _ _ hb) (.inr ⟨rfl, _, _, hf⟩)
              (.inr ⟨rfl, rfl, ⟨_, hf⟩, fun vs0 E0 h0 => by rw [hb] at h0; simp at h0; obtain ⟨rfl, rfl⟩ := h0; exact ⟨by simp; omega, rfl⟩⟩)
              (by simp; omega) ?_
            · exact ⟨this.1, this.2, trivial⟩
            · intro j u hj
              have hlen : v2.cells.toList.length = i.size := by simp [hs, hc1]
              have e1 : (vs.toList.take off ++ v2.cells.toList ++ vs.toList.drop (off + v2.cells.toList.length)).toArray.getD j undef = ((vs.toList.take off ++ v2.cells.toList ++ vs.toList.drop (off + v2.cells.toList.length))[j]?).getD undef := by simp
              rw [e1]
              rw [List.append_assoc, List.getElem?_append] at hj ⊢
              have l1 : (cs.take off).length = off := by simp; omega
              have l2 : (vs.toList.take off).length = off := by simp; omega
              rw [l1] at hj
              rw [l2]
              split at hj
              · rename_i hlt
                rw [if_pos hlt, List.getElem?_take_of_lt hlt]
                rw [List.getElem?_take_of_lt hlt] at hj
                have := hrep _ _ hj
                simpa using this
              · rename_i hge
                rw [if_neg hge]
                rw [List.getElem?_append] at hj ⊢
                rw [hc1] at hj
                rw [hlen]
                split at hj
                · rename_i hlt
                  rw [if_pos hlt]
                  have h3 := hr _ _ hj
                  have h4 := one_of_scal1 h3 (List.all_eq_true.1 hc2 _ (List.mem_of_getElem? hj))
                  exact ⟨by simpa using h3, by simpa using h4⟩
                · rename_i hge2
                  rw [if_neg hge2]
                  rw [List.getElem?_drop] at hj ⊢
                  have := hrep _ _ hj
                  simpa using this
        · cases h
      · cases h
    · cases h
  · cases h

/-! ### parts, indexes -/
theorem ok_fld1 (r : Rel w0 O X bm H nx w) (t : TypeId) (fs : Array Field) (ht : P.underlying t = some (.struct fs)) (n : Nat) (f : Field) (hf : fs[n]? = some f) (D : TypeDesc) (htf : P.underlying f.type = some D) (hD : aggD D = false) (x : AV) (v1 : Value) (h1 : Rep (Lof H bm) X nx w false x v1) {φ : Nat}
    {v : AV} {H' : Heap} {nx' : Ctr} (h : opK (.fld1 f.offset) [x] H nx φ (fun v H nx => some (v, H, nx)) none = some (v, H', nx')) : OK P w0 O X bm H nx w (Instr.field t v1 n) v H' nx' := by
  simp only [opK] at h
  split at h
  · rename_i cs
    cases hd : cs.drop f.offset with
    | nil => rw [hd] at h; cases h
    | cons c cs' =>
      rw [hd] at h
      simp at h; obtain ⟨rfl, rfl, rfl⟩ := h
      cases h1 with
      | agg hl hr =>
        rename_i vs
        have hoff : cs[f.offset]? = some c := by have := congrArg (fun l => l[0]?) hd; simpa using this
        have hlt := (List.getElem?_eq_some_iff.1 hoff).1
        have : (isAgg f.type).run P w = .ok false w := by
          simp only [isAgg, Sem.run_bind, run_underlying htf, Result.andThen_ok]
          cases D <;> simp [aggD] at hD ⊢
        refine OK.same r ?_ (hr _ _ hoff)
        have hv : vs[f.offset]? = some (vs.getD f.offset undef) := getD_of _ _ (by omega)
        simp only [Instr.field, Sem.run_bind, run_underlying ht, Result.andThen_ok, hf, asAgg, Sem.run_pure, part, this, Bool.false_eq_true, if_false, hv]
  · cases h
theorem ok_fldn (r : Rel w0 O X bm H nx w) (t : TypeId) (fs : Array Field) (ht : P.underlying t = some (.struct fs)) (n : Nat) (f : Field) (hf : fs[n]? = some f) (i : TypeInfo) (hi : P.info? f.type = some i) (D : TypeDesc) (htf : P.underlying f.type = some D) (hD : aggD D = true) (x : AV) (v1 : Value) (h1 : Rep (Lof H bm) X nx w false x v1) {φ : Nat}
    {v : AV} {H' : Heap} {nx' : Ctr} (h : opK (.fldn f.offset i.size) [x] H nx φ (fun v H nx => some (v, H, nx)) none = some (v, H', nx')) : OK P w0 O X bm H nx w (Instr.field t v1 n) v H' nx' := by
  simp only [opK] at h
  split at h
  · rename_i cs
    split at h
    · rename_i hle
      simp at h; obtain ⟨rfl, rfl, rfl⟩ := h
      cases h1 with
      | agg hl hr =>
        rename_i vs
        have : (isAgg f.type).run P w = .ok true w := by
          simp only [isAgg, Sem.run_bind, run_underlying htf, Result.andThen_ok]
          cases D <;> simp [aggD] at hD ⊢
        refine OK.same r (v' := .agg (vs.extract f.offset (f.offset + i.size))) ?_ (.agg (by simp; omega) (fun j y hj => ?_))
        · simp only [Instr.field, Sem.run_bind, run_underlying ht, Result.andThen_ok, hf, asAgg, Sem.run_pure, part, this, if_true, run_sizeOf hi]
        · have hj' : j < i.size := by have := (List.getElem?_eq_some_iff.1 hj).1; simp at this; omega
          rw [List.getElem?_take_of_lt hj', List.getElem?_drop] at hj
          have := hr _ _ hj
          have hlt : f.offset + j < vs.size := by omega
          have h2 : j < min (f.offset + i.size) vs.size - f.offset := by omega
          simpa [hlt, hj', h2, Array.getElem?_extract] using this
    · cases h
  · cases h
theorem ok_ixS (r : Rel w0 O X bm H nx w) (t e : TypeId) (ht : P.underlying t = some (.slice e)) (i : TypeInfo) (hi : P.info? e = some i) (x y : AV) (v1 v2 : Value) (h1 : Rep (Lof H bm) X nx w false x v1) (h2 : Rep (Lof H bm) X nx w false y v2) {φ : Nat} (h0 : i.size ≠ 0)
    {v : AV} {H' : Heap} {nx' : Ctr} (h : opK (.ixS i.size) [x, y] H nx φ (fun v H nx => some (v, H, nx)) none = some (v, H', nx')) : OK P w0 O X bm H nx w (Instr.indexAt t v1 v2) v H' nx' := by
  simp only [opK] at h
  have hrun : ∀ a (len c : Nat) k (n : Int), 0 ≤ n → n < len → (Instr.indexAt t (.slice (some a) len c) (.int k n)).run P w = .ok (.pointer (some (a.add (n.toNat * i.size)))) w := by
    intro a len c k n h0 h1
    simp [Instr.indexAt, asIntOf, run_underlying ht, run_sizeOf hi, h0, h1]
  split at h
  · rename_i k n
    cases h2
    split at h
    · cases h
    · rename_i hn
      split at h
      · rename_i sz es cap
        split at h
        · rename_i hsz0
          subst hsz0
          cases hes : es[n.toNat]? with
          | none => rw [hes] at h; cases h
          | some e1 =>
            rw [hes] at h
            simp at h; obtain ⟨rfl, rfl, rfl⟩ := h
            have hlt := (List.getElem?_eq_some_iff.1 hes).1
            cases h1 with
            | fz0 => simp at hes
            | fz vv hne hl hcap hsz hc hr h1 ho =>
              refine OK.same r (hrun _ _ _ _ _ (by omega) (by omega)) (.ro (fun j => vv n.toNat j) (fun j z hj => ?_) (fun j z hj => (hr _ _ _ _ hes hj).weak) (fun _ => ?_))
              · rw [add_add]; exact hc _ _ _ _ hes hj
              · rw [add_block]; exact ho
        · cases h
      · rename_i f d g sz off len
        split at h
        · rename_i hc
          obtain ⟨rfl, hlt⟩ := hc
          simp at h; obtain ⟨rfl, rfl, rfl⟩ := h
          cases h1 with
          | sl hg hl hh =>
            refine OK.same r (hrun _ _ _ _ _ (by omega) (by omega)) (.ptr hg (fun b hb => ?_))
            obtain ⟨h3, _⟩ := hh b hb
            rw [h3 (by omega), add_mk, Nat.add_mul]
        · cases h
      · cases h
  · cases h
theorem ok_ixP (r : Rel w0 O X bm H nx w) (t e : TypeId) (len : Nat) (ht : P.underlying t = some (.array len e)) (i : TypeInfo) (hi : P.info? e = some i) (x y : AV) (v1 v2 : Value) (h1 : Rep (Lof H bm) X nx w false x v1) (h2 : Rep (Lof H bm) X nx w false y v2) {φ : Nat}
    {v : AV} {H' : Heap} {nx' : Ctr} (h : opK (.ixP len i.size) [x, y] H nx φ (fun v H nx => some (v, H, nx)) none = some (v, H', nx')) : OK P w0 O X bm H nx w (Instr.indexAt t v1 v2) v H' nx' := by
  simp only [opK] at h
  have hrun : ∀ a k (n : Int), 0 ≤ n → n < len → (Instr.indexAt t (.pointer (some a)) (.int k n)).run P w = .ok (.pointer (some (a.add (n.toNat * i.size)))) w := by
    intro a k n h0 h1
    simp [Instr.indexAt, asIntOf, run_underlying ht, run_sizeOf hi, h0, h1, Instr.sureAddr]
  split at h
  · rename_i k n
    cases h2
    split at h
    · rename_i hn
      split at h
      · rename_i cs
        split at h
        · rename_i hlt
          simp at h; obtain ⟨rfl, rfl, rfl⟩ := h
          cases h1 with
          | ro vv hc hr ho =>
            refine OK.same r (hrun _ _ _ hn.1 hn.2) (.ro (fun j => vv (n.toNat * i.size + j)) (fun j z hj => ?_) (fun j z hj => ?_) (fun _ => ?_))
            · rw [add_add]; exact hc _ z (by rw [List.getElem?_drop] at hj; exact hj)
            · exact hr _ _ (by rw [List.getElem?_drop] at hj; exact hj)
            · rw [add_block]; exact ho (by intro e; simp [e] at hlt)
        · cases h
      · simp at h; obtain ⟨rfl, rfl, rfl⟩ := h
        cases h1 with
        | ptr hg hh =>
          refine OK.same r (hrun _ _ _ hn.1 hn.2) (.ptr hg (fun b hb => ?_))
          rw [hh b hb, add_mk]
      · cases h
    · cases h
  · cases h
theorem ok_ixT (r : Rel w0 O X bm H nx w) (t : TypeId) (ht : P.underlying t = some .string) (x y : AV) (v1 v2 : Value) (h1 : Rep (Lof H bm) X nx w false x v1) (h2 : Rep (Lof H bm) X nx w false y v2) {φ : Nat}
    {v : AV} {H' : Heap} {nx' : Ctr} (h : opK .ixT [x, y] H nx φ (fun v H nx => some (v, H, nx)) none = some (v, H', nx')) : OK P w0 O X bm H nx w (Instr.index t v1 v2) v H' nx' := by
  simp only [opK] at h
  split at h
  · rename_i s k n
    cases h1; cases h2
    split at h
    · cases h
    · rename_i hn
      cases hb : s.data.toList[n.toNat]? with
      | none => rw [hb] at h; cases h
      | some b =>
        rw [hb] at h
        simp at h; obtain ⟨rfl, rfl, rfl⟩ := h
        have h0 : 0 ≤ n := by omega
        have hsb : s[n.toNat]? = some b := by
          obtain ⟨h1, h2⟩ := List.getElem?_eq_some_iff.1 hb
          have h1' : n.toNat < s.size := by simpa using h1
          rw [getElem?_pos s n.toNat h1']
          rw [← h2]; rfl
        refine OK.same r (v' := .int .u8 b.toNat) ?_ .int
        simp [Instr.index, asIntOf, run_underlying ht, h0, hsb]
  · cases h
theorem ok_lenT (r : Rel w0 O X bm H nx w) (t ty : TypeId) (ht : P.underlying t = some .string) (x : AV) (v1 : Value) (h1 : Rep (Lof H bm) X nx w false x v1) {φ : Nat}
    {v : AV} {H' : Heap} {nx' : Ctr} (h : opK .lenT [x] H nx φ (fun v H nx => some (v, H, nx)) none = some (v, H', nx')) : OK P w0 O X bm H nx w (Builtin.len_ #[t] ty #[v1]) v H' nx' := by
  simp only [opK] at h
  split at h
  · rename_i s
    cases h1
    simp at h; obtain ⟨rfl, rfl, rfl⟩ := h
    exact OK.same r (v' := .int .i64 s.size) (by simp [Builtin.len_, run_underlying ht, goInt]) .int
  · cases h
theorem ok_len (r : Rel w0 O X bm H nx w) (t ty e : TypeId) (ht : P.underlying t = some (.slice e)) (x : AV) (v1 : Value) (h1 : Rep (Lof H bm) X nx w false x v1) {φ : Nat}
    {v : AV} {H' : Heap} {nx' : Ctr} (h : opK .len [x] H nx φ (fun v H nx => some (v, H, nx)) none = some (v, H', nx')) : OK P w0 O X bm H nx w (Builtin.len_ #[t] ty #[v1]) v H' nx' := by
  simp only [opK] at h
  have hrun : ∀ a n c, (Builtin.len_ #[t] ty #[.slice a n c]).run P w = .ok (.int .i64 n) w := by intro a n c; simp [Builtin.len_, run_underlying ht, goInt]
  split at h <;> try (cases h; done)
  all_goals
    cases h1 <;> simp at h <;> obtain ⟨rfl, rfl, rfl⟩ := h <;> exact OK.same r (hrun _ _ _) .int
theorem ok_ext (r : Rel w0 O X bm H nx w) (i : Nat) (x : AV) (v1 : Value) (h1 : Rep (Lof H bm) X nx w false x v1) {φ : Nat}
    {v : AV} {H' : Heap} {nx' : Ctr} (h : opK (.ext i) [x] H nx φ (fun v H nx => some (v, H, nx)) none = some (v, H', nx')) : OK P w0 O X bm H nx w (Instr.extract v1 i) v H' nx' := by
  simp only [opK] at h
  split at h
  · rename_i cs
    cases hd : cs.drop i with
    | nil => rw [hd] at h; cases h
    | cons c cs' =>
      rw [hd] at h
      simp at h; obtain ⟨rfl, rfl, rfl⟩ := h
      cases h1 with
      | tup hl hr =>
        rename_i vs
        have hoff : cs[i]? = some c := by have := congrArg (fun l => l[0]?) hd; simpa using this
        have hlt := (List.getElem?_eq_some_iff.1 hoff).1
        refine OK.same r ?_ (hr _ _ hoff)
        have hv : vs[i]? = some (vs.getD i undef) := getD_of _ _ (by omega)
        simp only [Instr.extract, hv, Sem.run_pure]
  · cases h
theorem ok_mn (r : Rel w0 O X bm H nx w) (ts : Array TypeId) (ty : TypeId) (x y : AV) (v1 v2 : Value) (h1 : Rep (Lof H bm) X nx w false x v1) (h2 : Rep (Lof H bm) X nx w false y v2) {φ : Nat}
    {v : AV} {H' : Heap} {nx' : Ctr} (h : opK .mn [x, y] H nx φ (fun v H nx => some (v, H, nx)) none = some (v, H', nx')) : OK P w0 O X bm H nx w (Builtin.min_ ts ty #[v1, v2]) v H' nx' := by
  simp only [opK] at h
  split at h
  · cases h1; cases h2
    simp at h; obtain ⟨rfl, rfl, rfl⟩ := h
    exact OK.same r (by simp [Builtin.min_, Builtin.min2]) .int
  · cases h
theorem ok_mx (r : Rel w0 O X bm H nx w) (ts : Array TypeId) (ty : TypeId) (x y : AV) (v1 v2 : Value) (h1 : Rep (Lof H bm) X nx w false x v1) (h2 : Rep (Lof H bm) X nx w false y v2) {φ : Nat}
    {v : AV} {H' : Heap} {nx' : Ctr} (h : opK .mx [x, y] H nx φ (fun v H nx => some (v, H, nx)) none = some (v, H', nx')) : OK P w0 O X bm H nx w (Builtin.max_ ts ty #[v1, v2]) v H' nx' := by
  simp only [opK] at h
  split at h
  · cases h1; cases h2
    simp at h; obtain ⟨rfl, rfl, rfl⟩ := h
    exact OK.same r (by simp [Builtin.max_, Builtin.max2]) .int
  · cases h
end
end Go.Ev
