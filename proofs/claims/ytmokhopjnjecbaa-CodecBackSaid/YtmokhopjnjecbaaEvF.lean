/- Operations, fourth part: append, literals, make, conversions, function values. -/
import Derived.Test.YtmokhopjnjecbaaEvE
import Derived.Deep.AppendSrc
namespace Go.Ev
open Go.RowKit
set_option linter.unusedVariables false
set_option linter.unusedSimpArgs false
set_option linter.unusedSectionVars false

section
variable {P : Program} {w0 : World} {O X : Nat → Prop} {bm : Nat → Nat → Nat} {H : Heap} {nx : Ctr} {w : World}

theorem run_app_none {t tx ty e : TypeId} {i : TypeInfo} (ht : P.underlying t = some (.slice e)) (hi : P.info? e = some i) (B : Option Addr) (n c : Nat) (hn : n ≤ c) {v2 : Value} (hs : Go.Src P i.size tx v2 0 [] w) :
    (Builtin.append_ #[t, tx] ty #[.slice B n c, v2]).run P w = .ok (.slice B n c) w := by
  rcases hs.kind with ⟨e', hk⟩ | hk <;> cases B <;> simp [Builtin.append_, run_underlying ht, run_underlying hk, sizeOf, typeInfo, hi, hs.len, hn, hs.cells, storeCells]
theorem run_app_room {t tx ty e : TypeId} {E0 : TypeId} {i : TypeInfo} (ht : P.underlying t = some (.slice e)) (hi : P.info? e = some i)
    (g sLen sCap : Nat) (cur : Array Value) (hg : w.heap[g]? = some (.cells cur E0 (0, 0)))
    (m : Nat) (news : List Value) {v2 : Value} (hs : Go.Src P i.size tx v2 m news w)
    (hroom : sLen + m ≤ sCap) (hfit : sLen * i.size + news.length ≤ cur.size) :
    (Builtin.append_ #[t, tx] ty #[.slice (some ⟨g, 0, none⟩) sLen sCap, v2]).run P w =
      .ok (.slice (some ⟨g, 0, none⟩) (sLen + m) sCap) (w.setRow g (cur.toList.take (sLen * i.size) ++ news ++ cur.toList.drop (sLen * i.size + news.length)).toArray) := by
  have hst := run_storeCells_at P g (sLen * i.size) E0 news 0 cur w hg (by simpa using hfit) hs.one
  simp only [Nat.add_zero] at hst
  rcases hs.kind with ⟨e', hk⟩ | hk <;> simp [Builtin.append_, run_underlying ht, run_underlying hk, sizeOf, typeInfo, hi, hs.len, hroom, hs.cells, Addr.add_lit, hst]

/-- What is appended. -/
def SrcA (P : Program) (tx : TypeId) (H : Heap) (bm : Nat → Nat → Nat) (X : Nat → Prop) (nx : Ctr) (w : World) (sz m : Nat) (ns : List AV) (v2 : Value) : Prop :=
  ns.length = m * sz ∧ ∃ u : Nat → Value, Go.Src P sz tx v2 m ((List.range (m * sz)).map u) w ∧ ∀ (q : Nat) x, ns[q]? = some x → Rep (Lof H bm) X nx w false x (u q)
theorem srcA_nil {tx e' : TypeId} (hk : P.underlying tx = some (.slice e')) (sz : Nat) (A : Option Addr) (c : Nat) : SrcA P tx H bm X nx w sz 0 [] (.slice A 0 c) := by
  refine ⟨by simp, fun _ => undef, ?_, by simp⟩
  rw [Nat.zero_mul, List.range_zero, List.map_nil]
  cases A with
  | none => exact Go.Src.ofNil w hk c
  | some a => exact Go.Src.ofSlice w hk a 0 c [] (by simp) (by simp) (by simp)
theorem srcA_cells {tx e' : TypeId} (hk : P.underlying tx = some (.slice e')) {sz m : Nat} {ns : List AV} (hl : ns.length = m * sz) (a : Addr) (c : Nat) (u : Nat → Value)
    (h : ∀ (q : Nat) x, ns[q]? = some x → w.cell? (a.add q) = some (u q) ∧ Rep (Lof H bm) X nx w false x (u q) ∧ (u q).oneCell' = true) : SrcA P tx H bm X nx w sz m ns (.slice (some a) m c) := by
  refine ⟨hl, u, ?_, fun q x hq => (h q x hq).2.1⟩
  have key : ∀ j, j < m * sz → w.cell? (a.add j) = some (u j) ∧ (u j).oneCell' = true := by
    intro j hj
    have := h j ns[j] (List.getElem?_eq_getElem (by omega))
    exact ⟨this.1, this.2.2⟩
  refine Go.Src.ofSlice w hk a m c _ (by simp) (fun j w1 hj => ?_) (fun w1 hw1 => ?_)
  · have hj' : j < m * sz := by have := (List.getElem?_eq_some_iff.1 hj).1; simpa using this
    have : ((List.range (m * sz)).map u)[j]? = some (u j) := by simp [hj']
    rw [this] at hj; cases hj
    exact (key j hj').1
  · obtain ⟨j, hj, rfl⟩ := List.mem_map.1 hw1
    exact (key j (List.mem_range.1 hj)).2
theorem src_fz {tx e' : TypeId} (hk : P.underlying tx = some (.slice e')) {sz : Nat} (h0 : 0 < sz) {es : List AV} {cap : Option Nat} {v2 : Value} (h : Rep (Lof H bm) X nx w false (.fz sz es cap) v2) : SrcA P tx H bm X nx w sz es.length (catCells es) v2 := by
  cases h with
  | fz0 => exact srcA_nil hk sz _ _
  | fz vv hne hl hcap hsz hc hr h1 ho =>
    refine srcA_cells hk (catCells_len es hsz) _ _ (fun q => vv (q / sz) (q % sz)) (fun q x hq => ?_)
    rw [catCells_get h0 es hsz] at hq
    cases he : es[q / sz]? with
    | none => rw [he] at hq; cases hq
    | some e =>
      rw [he] at hq
      have hq : (cells e)[q % sz]? = some x := hq
      refine ⟨?_, (hr _ _ _ _ he hq).weak, h1 _ _ _ _ he hq⟩
      have := hc _ _ _ _ he hq
      rwa [Nat.div_add_mod' q sz] at this
theorem src_sl {tx e' : TypeId} (hk : P.underlying tx = some (.slice e')) (r : Rel w0 O X bm H nx w) {f d g sz off len : Nat} {cs : List AV} (hf : find H f d = some (g, some cs)) (hle : (off + len) * sz ≤ cs.length) (h0 : 0 < sz)
    {v2 : Value} (h : Rep (Lof H bm) X nx w false (.sl f d g sz off len) v2) : SrcA P tx H bm X nx w sz len ((cs.drop (off * sz)).take (len * sz)) v2 := by
  cases h with
  | sl hg hl hh =>
    rename_i a c
    by_cases hz : len = 0
    · subst hz
      simp only [Nat.zero_mul, List.take_zero]
      exact srcA_nil hk sz _ _
    · obtain ⟨k1, k2, vs1, E1, k3, k4⟩ := hh _ (Lof.mk hf)
      obtain rfl := k1 (by omega)
      obtain ⟨vs, E, hb, hle2, hrep⟩ := r.blk _ _ _ _ hf
      have hmul : (off + len) * sz = off * sz + len * sz := Nat.add_mul _ _ _
      refine srcA_cells hk (by simp; omega) _ _ (fun q => vs.getD (off * sz + q) undef) (fun q x hq => ?_)
      have hq' : q < len * sz := by have := (List.getElem?_eq_some_iff.1 hq).1; simp at this; omega
      rw [List.getElem?_take_of_lt hq', List.getElem?_drop] at hq
      refine ⟨?_, hrep _ _ hq⟩
      rw [add_mk, cell_of_row w _ _ vs E _ hb]
      exact getD_of _ _ (by omega)
/-- A text's bytes. -/
theorem src_str {tx : TypeId} (hk : P.underlying tx = some .string) (s : ByteArray) : SrcA P tx H bm X nx w 1 s.size (avBytes s) (.string s) := by
  have hl : s.data.toList.length = s.size := by rw [Array.length_toList]; rfl
  refine ⟨by simp only [avBytes, List.length_map, Nat.mul_one]; exact hl, fun q => (Go.byteCells s).getD q undef, ?_, fun q x hq => ?_⟩
  · have : (List.range (s.size * 1)).map (fun q => (Go.byteCells s).getD q undef) = Go.byteCells s := by
      apply List.ext_getElem?
      intro j
      by_cases hj : j < s.size
      · rw [List.getElem?_map, List.getElem?_range (by omega)]
        have hjl : j < (Go.byteCells s).length := by rw [Go.byteCells_length]; exact hj
        have : (Go.byteCells s)[j]? = some (Go.byteCells s)[j] := List.getElem?_eq_getElem hjl
        simp [List.getD, this]
      · rw [List.getElem?_eq_none (by simp; omega), List.getElem?_eq_none (by rw [Go.byteCells_length]; omega)]
    rw [this]
    exact Go.Src.ofString w hk s
  · simp only [avBytes, List.getElem?_map, Option.map_eq_some_iff] at hq
    obtain ⟨b, hb, rfl⟩ := hq
    have : (Go.byteCells s).getD q undef = Value.int .u8 b.toNat := by simp [Go.byteCells, List.getD, hb]
    simp only [this]
    exact .int

/-- Nothing, or cells at an address. -/
def SrcO (H : Heap) (bm : Nat → Nat → Nat) (X : Nat → Prop) (nx : Ctr) (w : World) (sz m : Nat) (ns : List AV) (v2 : Value) : Prop :=
  (m = 0 ∧ ns = [] ∧ ∃ A c, v2 = .slice A 0 c) ∨
  (0 < m ∧ ns.length = m * sz ∧ ∃ a c, ∃ u : Nat → Value, v2 = .slice (some a) m c ∧ ∀ (q : Nat) x, ns[q]? = some x → w.cell? (a.add q) = some (u q) ∧ Rep (Lof H bm) X nx w false x (u q) ∧ (u q).oneCell' = true)

theorem srcO_sl (r : Rel w0 O X bm H nx w) {f d g sz off len : Nat} {cs : List AV} (hf : find H f d = some (g, some cs)) (hle : (off + len) * sz ≤ cs.length) (h0 : 0 < sz)
    {v2 : Value} (h : Rep (Lof H bm) X nx w false (.sl f d g sz off len) v2) : SrcO H bm X nx w sz len ((cs.drop (off * sz)).take (len * sz)) v2 := by
  cases h with
  | sl hg hl hh =>
    rename_i a c
    by_cases hz : len = 0
    · subst hz; exact .inl ⟨rfl, by simp, _, _, rfl⟩
    · obtain ⟨k1, k2, vs1, E1, k3, k4⟩ := hh _ (Lof.mk hf)
      obtain rfl := k1 (by omega)
      obtain ⟨vs, E, hb, hle2, hrep⟩ := r.blk _ _ _ _ hf
      have hmul : (off + len) * sz = off * sz + len * sz := Nat.add_mul _ _ _
      refine .inr ⟨by omega, by simp; omega, _, _, fun q => vs.getD (off * sz + q) undef, rfl, fun q x hq => ?_⟩
      have hq' : q < len * sz := by have := (List.getElem?_eq_some_iff.1 hq).1; simp at this; omega
      rw [List.getElem?_take_of_lt hq', List.getElem?_drop] at hq
      refine ⟨?_, hrep _ _ hq⟩
      rw [add_mk, cell_of_row w _ _ vs E _ hb]
      exact getD_of _ _ (by omega)

theorem getD_append_left (l m : List Value) (j : Nat) (h : j < l.length) : ((l ++ m).toArray.getD j undef) = l.getD j undef := by
  simp [List.getElem?_append_left h, List.getD]
theorem getD_range_map (n : Nat) (u : Nat → Value) (j : Nat) (h : j < n) : ((List.range n).map u).getD j undef = u j := by
  simp [List.getD, h]
theorem zero_size (z : Array Value) (n : Nat) : (Builtin.zeroCells z n).size = n * z.size := by simp [Builtin.zeroCells]

theorem app_dst (r : Rel w0 O X bm H nx w) (t tx ty e : TypeId) (i : TypeInfo) (ht : P.underlying t = some (.slice e)) (hi : P.info? e = some i) (z : Value) (hz : i.zero = some z) (hzs : z.cells.size = i.size) (h0 : 0 < i.size) (key : Nat) {φ : Nat}
    (x : AV) (v1 v2 : Value) (h1 : Rep (Lof H bm) X nx w false x v1) (m : Nat) (ns : List AV) (hs : SrcA P tx H bm X nx w i.size m ns v2)
    {v : AV} {H' : Heap} {nx' : Ctr}
    (h : (match (generalizing := false) x with
      | .nils => if m = 0 then some (.nils, H, nx) else if m * i.bytes ≤ 1099511627776 ∧ m ≤ 1099511627776 then some (.sl φ key (nx key) i.size 0 m, setB H φ key (nx key) (some ns), bump nx key) else none
      | .fz sz' es c' => if m = 0 then some (.fz sz' es c', H, nx) else (match (generalizing := false) c' with
        | some c => if c < es.length + m ∧ sz' = i.size ∧ (es.length + m) * i.bytes ≤ 1099511627776 ∧ es.length + m ≤ 1099511627776 then some (.sl φ key (nx key) i.size 0 (es.length + m), setB H φ key (nx key) (some (catCells es ++ ns)), bump nx key) else none
        | none => none)
      | .sl f d g sz' off len => if sz' = i.size ∧ off = 0 ∧ (len + m) * i.bytes ≤ 1099511627776 ∧ len + m ≤ 1099511627776 then
          getB H f d g (fun cs => if cs.length = len * i.size then some (.sl f d (nx d) i.size 0 (len + m), setB H f d (nx d) (some (cs ++ ns)), bump nx d) else none) none else none
      | _ => none) = some (v, H', nx')) :
    OK P w0 O X bm H nx w (Builtin.append_ #[t, tx] ty #[v1, v2]) v H' nx' := by
  -- a new row of olds and news
  have grown : ∀ (olds : List AV) (ov : Nat → Value) (n : Nat) (A : Option Addr) (c f d : Nat), olds.length = n * i.size → (∀ (q : Nat) x, olds[q]? = some x → Rep (Lof H bm) X nx w false x (ov q) ∧ (ov q).oneCell' = true) →
      v1 = .slice A n c → (A = none → n = 0 ∧ c = 0) → (∀ b, A = some b → ∀ q, q < n * i.size → w.cell? (b.add q) = some (ov q)) → n ≤ c → c < n + m → (n + m) * i.bytes ≤ 1099511627776 → n + m ≤ 1099511627776 →
      v = .sl f d (nx d) i.size 0 (n + m) → H' = setB H f d (nx d) (some (olds ++ ns)) → nx' = bump nx d → OK P w0 O X bm H nx w (Builtin.append_ #[t, tx] ty #[v1, v2]) v H' nx' := by
    intro olds ov n A c f d hlo hor hv1 hA hcell hnc hcap hby hbd hv hH hnx
    obtain ⟨hlen, u, hsrc, hu⟩ := hs
    · have hm : 0 < m := by omega
      let news : List Value := (List.range (m * i.size)).map u
      have hln : news.length = m * i.size := by simp [news]
      let oldv : List Value := (List.range (n * i.size)).map ov
      have hlov : oldv.length = n * i.size := by simp [oldv]
      have hold : (Builtin.firstCells i.size n (.slice A n c)).run P w.drew = .ok oldv.toArray w.drew := by
        cases A with
        | none =>
          obtain ⟨rfl, rfl⟩ := hA rfl
          have := run_firstCells_none (P := P) w.drew i.size 0 0 0
          simpa [oldv] using this
        | some b =>
          refine run_firstCells_some w.drew i.size n b n c oldv hlov (fun j w1 hj => ?_)
          have hj' : j < n * i.size := by have := (List.getElem?_eq_some_iff.1 hj).1; omega
          have h3 : oldv[j]? = some (ov j) := by simp [oldv, hj']
          rw [h3] at hj; cases hj
          simpa using hcell b rfl j hj'
      have hone : ∀ j, j < m * i.size → (u j).oneCell' = true := fun j hj => hsrc.one _ (List.mem_map.2 ⟨j, List.mem_range.2 hj, rfl⟩)
      have hrun : (Builtin.append_ #[t, tx] ty #[v1, v2]).run P w = .ok (.slice (some ⟨w.heap.size, 0, none⟩) (n + m) (grownCap w (n + m) c e)) (w.drew.alloc (.cells (oldv.toArray ++ news.toArray ++ Builtin.zeroCells z.cells (grownCap w (n + m) c e - (n + m))) e)) := by
        rw [hv1]
        have := run_append_grow_src (P := P) w t tx ty e i z ht hi hz A n c oldv hold v2 m news hsrc hcap (by omega) (growslice_fits hcap (by omega))
        rw [this]
        have h9 : (oldv ++ news).toArray = oldv.toArray ++ news.toArray := by simp
        rw [h9]
      subst hv hH hnx
      have hge := grownCap_ge w (n + m) c e
      refine OK.new r (vs := oldv.toArray ++ news.toArray ++ Builtin.zeroCells z.cells (grownCap w (n + m) c e - (n + m))) (E := e) hrun rfl rfl rfl rfl ?_ ?_ (.sl (by simp [bump]) hge ?_)
      · simp only [List.length_append, Array.size_append, List.size_toArray, hlo, hlen, hln, hlov]; omega
      · intro j y hj
        have e1 : (oldv.toArray ++ news.toArray ++ Builtin.zeroCells z.cells (grownCap w (n + m) c e - (n + m))).getD j undef = if j < n * i.size then ov j else u (j - n * i.size) := by
          have hlt : j < n * i.size + m * i.size := by have := (List.getElem?_eq_some_iff.1 hj).1; simp [hlo, hlen] at this; omega
          have h3 : j < (oldv.toArray ++ news.toArray).size := by simp [hln, hlov]; omega
          have h4 : (oldv.toArray ++ news.toArray ++ Builtin.zeroCells z.cells (grownCap w (n + m) c e - (n + m)))[j]? = (oldv.toArray ++ news.toArray)[j]? := Array.getElem?_append_left h3
          rw [Array.getD_eq_getD_getElem?, h4]
          split
          · rename_i hl
            rw [Array.getElem?_append_left (by simp [hlov]; exact hl)]
            simp [oldv, hl]
          · rename_i hl
            rw [Array.getElem?_append_right (by simp [hlov]; omega)]
            have h5 : j - n * i.size < m * i.size := by omega
            simp [news, hlov, h5]
        rw [e1]
        rw [List.getElem?_append] at hj
        rw [hlo] at hj
        split at hj
        · rename_i hl; rw [if_pos hl]; exact hor _ _ hj
        · rename_i hl; rw [if_neg hl]; exact ⟨hu _ _ hj, hone _ (by have := (List.getElem?_eq_some_iff.1 hj).1; omega)⟩
      · rintro b ⟨_, rfl⟩
        rw [bset_same]
        refine ⟨fun _ => by simp, grownCap_le_maxLen w _ _ _ (by simp only [maxLen]; omega), _, e, heap_alloc_new w.drew _, ?_⟩
        simp only [Array.size_append, List.size_toArray, hln, hlov, zero_size, hzs]
        rw [Nat.zero_add, ← Nat.add_mul, ← Nat.add_mul]
        congr 1; omega
  cases x with
  | nils =>
    cases h1
    simp only at h
    split at h
    · rename_i hm
      simp at h; obtain ⟨rfl, rfl, rfl⟩ := h
      obtain ⟨_, u, hsrc, _⟩ := hs
      subst hm
      simp only [Nat.zero_mul, List.range_zero, List.map_nil] at hsrc
      exact OK.same r (run_app_none ht hi none 0 0 (Nat.le_refl _) hsrc) .nils
    · rename_i hm
      split at h
      · rename_i hc
        simp at h; obtain ⟨h3, h4, h5⟩ := h
        exact grown [] (fun _ => undef) 0 none 0 φ key (by simp) (by simp) rfl (fun _ => ⟨rfl, rfl⟩) (by simp) (Nat.le_refl _) (by omega) (by simpa using hc.1) (by simpa using hc.2) (by simp [← h3]) (by simp [← h4]) h5.symm
      · cases h
  | fz sz' es cap =>
    simp only at h
    split at h
    · rename_i hm
      simp only [Option.some.injEq, Prod.mk.injEq] at h; obtain ⟨rfl, rfl, rfl⟩ := h
      obtain ⟨_, u, hsrc, _⟩ := hs
      subst hm
      simp only [Nat.zero_mul, List.range_zero, List.map_nil] at hsrc
      have h1' := h1
      cases h1 with
      | fz0 hcap hA => exact OK.same r (run_app_none ht hi _ _ _ (Nat.zero_le _) hsrc) h1'
      | fz vv hne hl hcap hsz hcc hr ho1 ho => exact OK.same r (run_app_none ht hi _ _ _ hl hsrc) h1'
    cases cap with
    | none => cases h
    | some c0 =>
      simp only at h
      split at h
      · rename_i hc
        obtain ⟨hc1, rfl, hc3, hc4⟩ := hc
        simp only [Option.some.injEq, Prod.mk.injEq] at h; obtain ⟨h3, h4, h5⟩ := h
        cases h1 with
        | fz0 hcap hA =>
          rename_i A c
          have := hcap c0 rfl; subst this
          cases A with
          | none => exact grown [] (fun _ => undef) 0 none _ φ key (by simp) (by simp) rfl (fun _ => ⟨rfl, (hA rfl).1⟩) (by simp) (Nat.zero_le _) (by simpa using hc1) (by simpa using hc3) (by simpa using hc4) (by simpa using h3.symm) (by simp [← h4, catCells]) h5.symm
          | some b => exact grown [] (fun _ => undef) 0 (some b) _ φ key (by simp) (by simp) rfl (fun e => by cases e) (by simp) (Nat.zero_le _) (by simpa using hc1) (by simpa using hc3) (by simpa using hc4) (by simpa using h3.symm) (by simp [← h4, catCells]) h5.symm
        | fz vv hne hl hcap hsz hcc hr ho1 ho =>
          have := hcap c0 rfl; subst this
          have hlen := catCells_len es hsz
          have hall : ∀ (q : Nat) y, (catCells es)[q]? = some y → ∃ e1, es[q / i.size]? = some e1 ∧ (cells e1)[q % i.size]? = some y := by
            intro q y hq
            rw [catCells_get h0 es hsz] at hq
            cases he : es[q / i.size]? with
            | none => rw [he] at hq; cases hq
            | some e1 => rw [he] at hq; exact ⟨e1, rfl, hq⟩
          refine grown (catCells es) (fun q => vv (q / i.size) (q % i.size)) es.length (some _) _ φ key hlen (fun q y hq => ?_) rfl (fun e => by cases e) (fun b hb q hq => ?_) hl hc1 hc3 hc4 h3.symm h4.symm h5.symm
          · obtain ⟨e1, k1, k2⟩ := hall q y hq
            exact ⟨(hr _ _ _ _ k1 k2).weak, ho1 _ _ _ _ k1 k2⟩
          · cases hb
            obtain ⟨e1, k1, k2⟩ := hall q _ (List.getElem?_eq_getElem (by omega))
            have := hcc _ _ _ _ k1 k2
            rwa [Nat.div_add_mod' q i.size] at this
      · cases h
  | sl f d g sz' off len =>
    simp only at h
    split at h
    · rename_i hc
      obtain ⟨rfl, rfl, hc3, hc4⟩ := hc
      rw [getB_find] at h
      split at h
      · rename_i g' cs hf
        split at h
        · rename_i hg
          subst hg
          split at h
          · rename_i hcl
            simp only [Option.some.injEq, Prod.mk.injEq] at h; obtain ⟨h3, h4, h5⟩ := h
            cases h1 with
            | sl hg hl hh =>
              rename_i a c
              obtain ⟨k1, k2, vs1, E1, k3, k4⟩ := hh _ (Lof.mk hf)
              obtain ⟨vs, E, hb, hle2, hrep⟩ := r.blk _ _ _ _ hf
              rw [hb] at k3; simp only [Option.some.injEq, Obj.cells.injEq] at k3; obtain ⟨rfl, rfl, _⟩ := k3
              rw [Nat.zero_add] at k4
              by_cases hroom : len + m ≤ c
              · by_cases hc0 : c = 0
                · -- nothing is there, nothing comes
                  have hl0 : len = 0 := by omega
                  have hm0 : m = 0 := by omega
                  subst hl0 hm0 hc0
                  obtain ⟨hns, u, hsrc, _⟩ := hs
                  simp only [Nat.zero_mul, List.range_zero, List.map_nil] at hsrc hns
                  obtain rfl := List.eq_nil_of_length_eq_zero hns
                  · have hcs : cs = [] := List.eq_nil_of_length_eq_zero (by simpa using hcl)
                    subst hcs
                    have := r.set (w' := w) (f := f) (d := d) (g' := nx d) (nx' := bump nx d) (b' := bm f d) (cs' := []) rfl rfl rfl (Nat.le_refl _) (fun _ _ _ => rfl) hb (.inr ⟨rfl, _, _, hf⟩) (.inl ⟨rfl, rfl⟩) (by simp) (by simp)
                    subst h3 h4 h5
                    refine ⟨_, w, _, run_app_none ht hi (some a) 0 0 (Nat.le_refl _) hsrc, this.1, this.2, .sl (by simp [bump]) (by omega) ?_⟩
                    rintro b ⟨_, rfl⟩
                    rw [bset_same]
                    exact ⟨fun h => absurd rfl h, k2, _, _, hb, by simpa using k4⟩
                · obtain rfl := k1 hc0
                  rw [Nat.zero_mul] at *
                  have hmul := Nat.add_mul len m i.size
                  have hmul2 : (len + m) * i.size ≤ c * i.size := Nat.mul_le_mul_right _ hroom
                  obtain ⟨hlen, u, hsrc, hu⟩ := hs
                  · let news : List Value := (List.range (m * i.size)).map u
                    have hln : news.length = m * i.size := by simp [news]
                    have hone : ∀ j, j < m * i.size → (u j).oneCell' = true := fun j hj => hsrc.one _ (List.mem_map.2 ⟨j, List.mem_range.2 hj, rfl⟩)
                    have hrun := run_app_room (P := P) (w := w) (ty := ty) ht hi (bm f d) len c vs hb m news hsrc hroom (by omega)
                    have := r.set (w' := w.setRow (bm f d) (vs.toList.take (len * i.size) ++ news ++ vs.toList.drop (len * i.size + news.length)).toArray) (f := f) (d := d) (g' := nx d) (nx' := bump nx d) (b' := bm f d)
                      (cs' := cs ++ ns) rfl rfl rfl (by simp) (fun b hb1 _ => setRow_other _ _ _ _ hb1) (setRow_heap _ _ _ _ _ _ hb) (.inr ⟨rfl, _, _, hf⟩) (.inl ⟨rfl, rfl⟩) (by simp; omega) ?_
                    · subst h3 h4 h5
                      refine ⟨_, _, _, hrun, this.1, this.2, .sl (by simp [bump]) (by omega) ?_⟩
                      rintro b ⟨_, rfl⟩
                      rw [bset_same]
                      exact ⟨fun _ => by simp, k2, _, _, setRow_heap _ _ _ _ _ _ hb, by simp; omega⟩
                    · intro j y hj
                      have hlt : j < cs.length + ns.length := by have := (List.getElem?_eq_some_iff.1 hj).1; simpa using this
                      have e1 : (vs.toList.take (len * i.size) ++ news ++ vs.toList.drop (len * i.size + news.length)).toArray.getD j undef = if j < len * i.size then vs.getD j undef else u (j - len * i.size) := by
                        have e2 : (vs.toList.take (len * i.size) ++ news ++ vs.toList.drop (len * i.size + news.length)).toArray.getD j undef = ((vs.toList.take (len * i.size) ++ news ++ vs.toList.drop (len * i.size + news.length))[j]?).getD undef := by simp
                        rw [e2, List.append_assoc, List.getElem?_append]
                        have l2 : (vs.toList.take (len * i.size)).length = len * i.size := by simp; omega
                        rw [l2]
                        split
                        · rename_i hl2
                          rw [List.getElem?_take_of_lt hl2]; simp
                        · rename_i hl2
                          rw [List.getElem?_append_left (by rw [hln]; omega)]
                          have h5 : j - len * i.size < m * i.size := by omega
                          simp [news, h5]
                      rw [e1]
                      rw [List.getElem?_append, hcl] at hj
                      split at hj
                      · rename_i hl2; rw [if_pos hl2]; exact hrep _ _ hj
                      · rename_i hl2; rw [if_neg hl2]; exact ⟨hu _ _ hj, hone _ (by have := (List.getElem?_eq_some_iff.1 hj).1; omega)⟩
              · have hbc : a = ⟨bm f d, 0, none⟩ ∨ len = 0 := by
                  by_cases hc0 : c = 0
                  · right; omega
                  · left; rw [k1 hc0, Nat.zero_mul]
                refine grown cs (fun q => vs.getD q undef) len (some a) c f d hcl hrep rfl (fun e => by cases e) (fun b hb1 q hq => ?_) hl (by omega) hc3 hc4 h3.symm h4.symm h5.symm
                cases hb1
                rcases hbc with rfl | rfl
                · rw [add_mk, Nat.zero_add, cell_of_row w _ _ vs E _ hb]; exact getD_of _ _ (by omega)
                · simp at hq
          · cases h
        · cases h
      · cases h
    · cases h
  | _ => cases h

theorem ok_apps (r : Rel w0 O X bm H nx w) (t tx ty e : TypeId) (i : TypeInfo) (ht : P.underlying t = some (.slice e)) (htx : P.underlying tx = some .string) (hi : P.info? e = some i) (z : Value) (hz : i.zero = some z) (hzs : z.cells.size = i.size) (h1s : i.size = 1) (h1b : i.bytes = 1) (key : Nat) {φ : Nat}
    (x y : AV) (v1 v2 : Value) (h1 : Rep (Lof H bm) X nx w false x v1) (h2 : Rep (Lof H bm) X nx w false y v2)
    {v : AV} {H' : Heap} {nx' : Ctr} (h : opK (.apps key) [x, y] H nx φ (fun v H nx => some (v, H, nx)) none = some (v, H', nx')) :
    OK P w0 O X bm H nx w (Builtin.append_ #[t, tx] ty #[v1, v2]) v H' nx' := by
  simp only [opK] at h
  split at h
  · rename_i s
    cases h2
    have hs : SrcA P tx H bm X nx w i.size s.size (avBytes s) (.string s) := by rw [h1s]; exact src_str htx s
    have e1 : (avBytes s).length = s.size := by simp only [avBytes, List.length_map, Array.length_toList]; rfl
    have e2 : ∀ l : List UInt8, catCells (l.map fun b => AV.int .u8 b.toNat) = l.map fun b => AV.int .u8 b.toNat := by
      intro l; induction l with
      | nil => rfl
      | cons b l ih => simp only [List.map_cons, catCells, cells, ih, List.cons_append, List.nil_append]
    have e3 : catCells (avBytes s) = avBytes s := e2 _
    refine app_dst r (φ := φ) t tx ty e i ht hi z hz hzs (by omega) key x v1 _ h1 _ _ hs ?_
    rw [h1s, h1b]
    simp only [appK, if_true, e1, e3] at h
    exact h
  · cases h
theorem ok_app (r : Rel w0 O X bm H nx w) (t ty e : TypeId) (i : TypeInfo) (ht : P.underlying t = some (.slice e)) (hi : P.info? e = some i) (z : Value) (hz : i.zero = some z) (hzs : z.cells.size = i.size) (h0 : 0 < i.size) (key : Nat) {φ : Nat}
    (x y : AV) (v1 v2 : Value) (h1 : Rep (Lof H bm) X nx w false x v1) (h2 : Rep (Lof H bm) X nx w false y v2)
    {v : AV} {H' : Heap} {nx' : Ctr} (h : opK (.app i.size i.bytes key) [x, y] H nx φ (fun v H nx => some (v, H, nx)) none = some (v, H', nx')) :
    OK P w0 O X bm H nx w (Builtin.append_ #[t, t] ty #[v1, v2]) v H' nx' := by
  simp only [opK, appK] at h
  cases y with
  | nils =>
    cases h2
    exact app_dst r (φ := φ) t t ty e i ht hi z hz hzs h0 key x v1 _ h1 0 [] (srcA_nil ht _ _ _) (by cases x <;> first | (simp at h; done) | (simp at h ⊢; exact h))
  | fz sz' es cap =>
    simp only at h
    split at h
    · rename_i hc
      subst hc
      exact app_dst r t t ty e i ht hi z hz hzs h0 key x v1 _ h1 _ _ (src_fz ht h0 h2) h
    · cases h
  | sl f d g sz' off len =>
    simp only at h
    split at h
    · rename_i hc
      subst hc
      rw [getB_find] at h
      split at h
      · rename_i g' cs hf
        split at h
        · rename_i hg
          subst hg
          split at h
          · rename_i hle
            exact app_dst r t t ty e i ht hi z hz hzs h0 key x v1 _ h1 _ _ (src_sl ht r hf hle h0 h2) h
          · cases h
        · cases h
      · cases h
    · cases h
  | _ => cases h
end
end Go.Ev
