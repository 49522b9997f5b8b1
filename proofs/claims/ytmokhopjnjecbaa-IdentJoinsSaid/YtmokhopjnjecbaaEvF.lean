/- Operations, fourth part: append, literals, make, conversions, function values. -/
import Derived.Test.YtmokhopjnjecbaaEvE
namespace Go.Ev
open Go.RowKit
set_option linter.unusedVariables false
set_option linter.unusedSimpArgs false
set_option linter.unusedSectionVars false

section
variable {P : Program} {w0 : World} {O X : Nat → Prop} {bm : Nat → Nat → Nat} {H : Heap} {nx : Ctr} {w : World}

theorem run_app_none (t ty e : TypeId) (i : TypeInfo) (ht : P.underlying t = some (.slice e)) (hi : P.info? e = some i) (B A : Option Addr) (n c c' : Nat) (hn : n ≤ c) :
    (Builtin.append_ #[t, t] ty #[.slice B n c, .slice A 0 c']).run P w = .ok (.slice B n c) w := by
  have h1 : ∀ A, (Builtin.firstCells i.size 0 (.slice A 0 c')).run P w = .ok #[] w := by
    intro A; cases A <;> simp [Builtin.firstCells, loadCells, loadCellsFrom]
  cases B <;> simp [Builtin.append_, run_underlying ht, sizeOf, typeInfo, hi, Builtin.lenOf, hn, h1, storeCells]
theorem run_app_room (t ty e E0 : TypeId) (i : TypeInfo) (ht : P.underlying t = some (.slice e)) (hi : P.info? e = some i)
    (g sLen sCap : Nat) (cur : Array Value) (hg : w.heap[g]? = some (.cells cur E0 (0, 0)))
    (a : Addr) (m c : Nat) (news : List Value) (hl : news.length = m * i.size) (hnews : ∀ (j : Nat) u, news[j]? = some u → w.cell? (a.add j) = some u) (h1 : ∀ u ∈ news, u.oneCell' = true)
    (hroom : sLen + m ≤ sCap) (hfit : sLen * i.size + news.length ≤ cur.size) :
    (Builtin.append_ #[t, t] ty #[.slice (some ⟨g, 0, none⟩) sLen sCap, .slice (some a) m c]).run P w =
      .ok (.slice (some ⟨g, 0, none⟩) (sLen + m) sCap) (w.setRow g (cur.toList.take (sLen * i.size) ++ news ++ cur.toList.drop (sLen * i.size + news.length)).toArray) := by
  have hf := run_firstCells_some (P := P) w i.size m a m c news hl hnews
  have hst := run_storeCells_at P g (sLen * i.size) E0 news 0 cur w hg (by simpa using hfit) h1
  simp only [Nat.add_zero] at hst
  simp [Builtin.append_, run_underlying ht, sizeOf, typeInfo, hi, Builtin.lenOf, hroom, hf, Addr.add_lit, hst]

/-- What is appended: nothing, or cells at an address. -/
def Src (H : Heap) (bm : Nat → Nat → Nat) (X : Nat → Prop) (nx : Ctr) (w : World) (sz m : Nat) (ns : List AV) (v2 : Value) : Prop :=
  (m = 0 ∧ ns = [] ∧ ∃ A c, v2 = .slice A 0 c) ∨
  (0 < m ∧ ns.length = m * sz ∧ ∃ a c, ∃ u : Nat → Value, v2 = .slice (some a) m c ∧ ∀ (q : Nat) x, ns[q]? = some x → w.cell? (a.add q) = some (u q) ∧ Rep (Lof H bm) X nx w false x (u q) ∧ (u q).oneCell' = true)

theorem src_fz {sz : Nat} (h0 : 0 < sz) {es : List AV} {cap : Option Nat} {v2 : Value} (h : Rep (Lof H bm) X nx w false (.fz sz es cap) v2) : Src H bm X nx w sz es.length (catCells es) v2 := by
  cases h with
  | fz0 => exact .inl ⟨rfl, rfl, _, _, rfl⟩
  | fz vv hne hl hcap hsz hc hr h1 ho =>
    refine .inr ⟨List.length_pos_iff.2 hne, catCells_len es hsz, _, _, fun q => vv (q / sz) (q % sz), rfl, fun q x hq => ?_⟩
    rw [catCells_get h0 es hsz] at hq
    cases he : es[q / sz]? with
    | none => rw [he] at hq; cases hq
    | some e =>
      rw [he] at hq
      have hq : (cells e)[q % sz]? = some x := hq
      refine ⟨?_, (hr _ _ _ _ he hq).weak, h1 _ _ _ _ he hq⟩
      have := hc _ _ _ _ he hq
      rwa [Nat.div_add_mod' q sz] at this
theorem src_sl (r : Rel w0 O X bm H nx w) {f d g sz off len : Nat} {cs : List AV} (hf : find H f d = some (g, some cs)) (hle : (off + len) * sz ≤ cs.length) (h0 : 0 < sz)
    {v2 : Value} (h : Rep (Lof H bm) X nx w false (.sl f d g sz off len) v2) : Src H bm X nx w sz len ((cs.drop (off * sz)).take (len * sz)) v2 := by
  cases h with
  | sl hg hl hh =>
    rename_i a c
    by_cases hz : len = 0
    · subst hz; exact .inl ⟨rfl, by simp, _, _, rfl⟩
    · obtain ⟨k1, k2, vs1, E1, k3, k4⟩ := hh _ (Lof.mk hf)
      obtain rfl := k1 (by omega)
      obtain ⟨vs, E, hb, hle2, hrep⟩ := r.blk _ _ _ _ hf
      have hmul : (off + len) * sz = off * sz + len * sz := Nat.add_mul _ _ _
      refine .inr ⟨by omega, by simp; omega, _, _, fun q => vs.getD (off * sz + q) undef, rfl, fun q x hq => ?_⟩
      have hq' : q < len * sz := by have := (List.getElem?_eq_some_iff.1 hq).1; simp at this; omega
      rw [List.getElem?_take_of_lt hq', List.getElem?_drop] at hq
      refine ⟨?_, hrep _ _ hq⟩
      rw [add_mk, cell_of_row w _ _ vs E _ hb]
      exact getD_of _ _ (by omega)

theorem getD_append_left (l m : List Value) (j : Nat) (h : j < l.length) : ((l ++ m).toArray.getD j undef) = l.getD j undef := by
  simp [List.getElem?_append_left h, List.getD]
theorem getD_range_map (n : Nat) (u : Nat → Value) (j : Nat) (h : j < n) : ((List.range n).map u).getD j undef = u j := by
  simp [List.getD, h]
theorem zero_size (z : Array Value) (n : Nat) : (Builtin.zeroCells z n).size = n * z.size := by simp [Builtin.zeroCells]

theorem app_dst (r : Rel w0 O X bm H nx w) (t ty e : TypeId) (i : TypeInfo) (ht : P.underlying t = some (.slice e)) (hi : P.info? e = some i) (z : Value) (hz : i.zero = some z) (hzs : z.cells.size = i.size) (h0 : 0 < i.size) (key : Nat) {φ : Nat}
    (x : AV) (v1 v2 : Value) (h1 : Rep (Lof H bm) X nx w false x v1) (m : Nat) (ns : List AV) (hs : Src H bm X nx w i.size m ns v2)
    {v : AV} {H' : Heap} {nx' : Ctr}
    (h : (match (generalizing := false) x with
      | .nils => if m = 0 then some (.nils, H, nx) else if m * i.bytes ≤ 1099511627776 ∧ m ≤ 1099511627776 then some (.sl φ key (nx key) i.size 0 m, setB H φ key (nx key) (some ns), bump nx key) else none
      | .fz sz' es c' => if m = 0 then some (.fz sz' es c', H, nx) else (match (generalizing := false) c' with
        | some c => if c < es.length + m ∧ sz' = i.size ∧ (es.length + m) * i.bytes ≤ 1099511627776 ∧ es.length + m ≤ 1099511627776 then some (.sl φ key (nx key) i.size 0 (es.length + m), setB H φ key (nx key) (some (catCells es ++ ns)), bump nx key) else none
        | none => none)
      | .sl f d g sz' off len => if sz' = i.size ∧ off = 0 ∧ (len + m) * i.bytes ≤ 1099511627776 ∧ len + m ≤ 1099511627776 then
          getB H f d g (fun cs => if cs.length = len * i.size then some (.sl f d (nx d) i.size 0 (len + m), setB H f d (nx d) (some (cs ++ ns)), bump nx d) else none) none else none
      | _ => none) = some (v, H', nx')) :
    OK P w0 O X bm H nx w (Builtin.append_ #[t, t] ty #[v1, v2]) v H' nx' := by
  -- a new row of olds and news
  have grown : ∀ (olds : List AV) (ov : Nat → Value) (n : Nat) (A : Option Addr) (c f d : Nat), olds.length = n * i.size → (∀ (q : Nat) x, olds[q]? = some x → Rep (Lof H bm) X nx w false x (ov q) ∧ (ov q).oneCell' = true) →
      v1 = .slice A n c → (A = none → n = 0 ∧ c = 0) → (∀ b, A = some b → ∀ q, q < n * i.size → w.cell? (b.add q) = some (ov q)) → n ≤ c → c < n + m → (n + m) * i.bytes ≤ 1099511627776 → n + m ≤ 1099511627776 →
      v = .sl f d (nx d) i.size 0 (n + m) → H' = setB H f d (nx d) (some (olds ++ ns)) → nx' = bump nx d → OK P w0 O X bm H nx w (Builtin.append_ #[t, t] ty #[v1, v2]) v H' nx' := by
    intro olds ov n A c f d hlo hor hv1 hA hcell hnc hcap hby hbd hv hH hnx
    rcases hs with ⟨hm, hns, _⟩ | ⟨hm, hlen, a, c2, u, rfl, hu⟩
    · omega
    · let news : List Value := (List.range (m * i.size)).map u
      have hln : news.length = m * i.size := by simp [news]
      have hnews : ∀ (j : Nat) w1, news[j]? = some w1 → w.cell? (a.add j) = some w1 := by
        intro j w1 hj
        have hj' : j < m * i.size := by have := (List.getElem?_eq_some_iff.1 hj).1; omega
        have : news[j]? = some (u j) := by simp [news, hj']
        rw [this] at hj; cases hj
        exact (hu j ns[j] (List.getElem?_eq_getElem (by omega))).1
      let oldv : List Value := (List.range (n * i.size)).map ov
      have hlov : oldv.length = n * i.size := by simp [oldv]
      have hrun : (Builtin.append_ #[t, t] ty #[v1, .slice (some a) m c2]).run P w = .ok (.slice (some ⟨w.heap.size, 0, none⟩) (n + m) (grownCap w (n + m) c e)) (w.drew.alloc (.cells (oldv.toArray ++ news.toArray ++ Builtin.zeroCells z.cells (grownCap w (n + m) c e - (n + m))) e)) := by
        cases A with
        | none =>
          obtain ⟨rfl, rfl⟩ := hA rfl
          rw [hv1]
          have := run_append_nil (P := P) w t ty e i z ht hi hz a m c2 news hln hnews hm (by omega) (by have h9 : m * i.bytes ≤ 1099511627776 := (by simpa using hby); omega)
          simp only [oldv, Nat.zero_mul, List.range_zero, List.map_nil, Nat.zero_add] at this ⊢
          simpa using this
        | some b =>
          rw [hv1]
          exact run_append_grow (P := P) w t ty e i z ht hi hz b n c oldv hlov (fun j w1 hj => by
            have hj' : j < n * i.size := by have := (List.getElem?_eq_some_iff.1 hj).1; omega
            have h3 : oldv[j]? = some (ov j) := by simp [oldv, hj']
            rw [h3] at hj; cases hj
            exact hcell b rfl j hj') a m c2 news hln hnews hcap (by omega) (growslice_fits hcap (by omega))
      subst hv hH hnx
      have hge := grownCap_ge w (n + m) c e
      refine OK.new r (vs := oldv.toArray ++ news.toArray ++ Builtin.zeroCells z.cells (grownCap w (n + m) c e - (n + m))) (E := e) hrun rfl rfl rfl rfl ?_ ?_ (.sl (by simp [bump]) hge ?_)
      · simp only [List.length_append, Array.size_append, List.size_toArray, hlo, hlen, hln, hlov]; omega
      · intro j y hj
        have e1 : (oldv.toArray ++ news.toArray ++ Builtin.zeroCells z.cells (grownCap w (n + m) c e - (n + m))).getD j undef = if j < n * i.size then ov j else u (j - n * i.size) := by
          have hlt : j < n * i.size + m * i.size := by have := (List.getElem?_eq_some_iff.1 hj).1; simp [hlo, hlen] at this; omega
          have h3 : j < (oldv.toArray ++ news.toArray).size := by simp [hln, hlov]; omega
          have h4 : (oldv.toArray ++ news.toArray ++ Builtin.zeroCells z.cells (grownCap w (n + m) c e - (n + m)))[j]? = (oldv.toArray ++ news.toArray)[j]? := Array.getElem?_append_left h3
          rw [Array.getD_eq_getD_getElem?, h4]
          split
          · rename_i hl
            rw [Array.getElem?_append_left (by simp [hlov]; exact hl)]
            simp [oldv, hl]
          · rename_i hl
            rw [Array.getElem?_append_right (by simp [hlov]; omega)]
            have h5 : j - n * i.size < m * i.size := by omega
            simp [news, hlov, h5]
        rw [e1]
        rw [List.getElem?_append] at hj
        rw [hlo] at hj
        split at hj
        · rename_i hl; rw [if_pos hl]; exact hor _ _ hj
        · rename_i hl; rw [if_neg hl]; exact (hu _ _ hj).2
      · rintro b ⟨_, rfl⟩
        rw [bset_same]
        refine ⟨fun _ => by simp, grownCap_le_maxLen w _ _ _ (by simp only [maxLen]; omega), _, e, heap_alloc_new w.drew _, ?_⟩
        simp only [Array.size_append, List.size_toArray, hln, hlov, zero_size, hzs]
        rw [Nat.zero_add, ← Nat.add_mul, ← Nat.add_mul]
        congr 1; omega
  cases x with
  | nils =>
    cases h1
    simp only at h
    split at h
    · rename_i hm
      simp at h; obtain ⟨rfl, rfl, rfl⟩ := h
      rcases hs with ⟨_, _, A, c, rfl⟩ | ⟨h3, _⟩
      · exact OK.same r (run_app_none t ty e i ht hi none A 0 0 c (Nat.le_refl _)) .nils
      · omega
    · rename_i hm
      split at h
      · rename_i hc
        simp at h; obtain ⟨h3, h4, h5⟩ := h
        exact grown [] (fun _ => undef) 0 none 0 φ key (by simp) (by simp) rfl (fun _ => ⟨rfl, rfl⟩) (by simp) (Nat.le_refl _) (by omega) (by simpa using hc.1) (by simpa using hc.2) (by simp [← h3]) (by simp [← h4]) h5.symm
      · cases h
  | fz sz' es cap =>
    simp only at h
    split at h
    · rename_i hm
      simp only [Option.some.injEq, Prod.mk.injEq] at h; obtain ⟨rfl, rfl, rfl⟩ := h
      rcases hs with ⟨_, _, A, c, rfl⟩ | ⟨h3, _⟩
      · have h1' := h1
        cases h1 with
        | fz0 hcap hA => exact OK.same r (run_app_none t ty e i ht hi _ A _ _ c (Nat.zero_le _)) h1'
        | fz vv hne hl hcap hsz hcc hr ho1 ho => exact OK.same r (run_app_none t ty e i ht hi _ A _ _ c hl) h1'
      · omega
    cases cap with
    | none => cases h
    | some c0 =>
      simp only at h
      split at h
      · rename_i hc
        obtain ⟨hc1, rfl, hc3, hc4⟩ := hc
        simp only [Option.some.injEq, Prod.mk.injEq] at h; obtain ⟨h3, h4, h5⟩ := h
        cases h1 with
        | fz0 hcap hA =>
          rename_i A c
          have := hcap c0 rfl; subst this
          cases A with
          | none => exact grown [] (fun _ => undef) 0 none _ φ key (by simp) (by simp) rfl (fun _ => ⟨rfl, (hA rfl).1⟩) (by simp) (Nat.zero_le _) (by simpa using hc1) (by simpa using hc3) (by simpa using hc4) (by simpa using h3.symm) (by simp [← h4, catCells]) h5.symm
          | some b => exact grown [] (fun _ => undef) 0 (some b) _ φ key (by simp) (by simp) rfl (fun e => by cases e) (by simp) (Nat.zero_le _) (by simpa using hc1) (by simpa using hc3) (by simpa using hc4) (by simpa using h3.symm) (by simp [← h4, catCells]) h5.symm
        | fz vv hne hl hcap hsz hcc hr ho1 ho =>
          have := hcap c0 rfl; subst this
          have hlen := catCells_len es hsz
          have hall : ∀ (q : Nat) y, (catCells es)[q]? = some y → ∃ e1, es[q / i.size]? = some e1 ∧ (cells e1)[q % i.size]? = some y := by
            intro q y hq
            rw [catCells_get h0 es hsz] at hq
            cases he : es[q / i.size]? with
            | none => rw [he] at hq; cases hq
            | some e1 => rw [he] at hq; exact ⟨e1, rfl, hq⟩
          refine grown (catCells es) (fun q => vv (q / i.size) (q % i.size)) es.length (some _) _ φ key hlen (fun q y hq => ?_) rfl (fun e => by cases e) (fun b hb q hq => ?_) hl hc1 hc3 hc4 h3.symm h4.symm h5.symm
          · obtain ⟨e1, k1, k2⟩ := hall q y hq
            exact ⟨(hr _ _ _ _ k1 k2).weak, ho1 _ _ _ _ k1 k2⟩
          · cases hb
            obtain ⟨e1, k1, k2⟩ := hall q _ (List.getElem?_eq_getElem (by omega))
            have := hcc _ _ _ _ k1 k2
            rwa [Nat.div_add_mod' q i.size] at this
      · cases h
  | sl f d g sz' off len =>
    simp only at h
    split at h
    · rename_i hc
      obtain ⟨rfl, rfl, hc3, hc4⟩ := hc
      rw [getB_find] at h
      split at h
      · rename_i g' cs hf
        split at h
        · rename_i hg
          subst hg
          split at h
          · rename_i hcl
            simp only [Option.some.injEq, Prod.mk.injEq] at h; obtain ⟨h3, h4, h5⟩ := h
            cases h1 with
            | sl hg hl hh =>
              rename_i a c
              obtain ⟨k1, k2, vs1, E1, k3, k4⟩ := hh _ (Lof.mk hf)
              obtain ⟨vs, E, hb, hle2, hrep⟩ := r.blk _ _ _ _ hf
              rw [hb] at k3; simp only [Option.some.injEq, Obj.cells.injEq] at k3; obtain ⟨rfl, rfl, _⟩ := k3
              rw [Nat.zero_add] at k4
              by_cases hroom : len + m ≤ c
              · by_cases hc0 : c = 0
                · -- nothing is there, nothing comes
                  have hl0 : len = 0 := by omega
                  have hm0 : m = 0 := by omega
                  subst hl0 hm0 hc0
                  rcases hs with ⟨_, rfl, A, c2, rfl⟩ | ⟨h6, _⟩
                  · have hcs : cs = [] := List.eq_nil_of_length_eq_zero (by simpa using hcl)
                    subst hcs
                    have := r.set (w' := w) (f := f) (d := d) (g' := nx d) (nx' := bump nx d) (b' := bm f d) (cs' := []) rfl rfl rfl (Nat.le_refl _) (fun _ _ _ => rfl) hb (.inr ⟨rfl, _, _, hf⟩) (.inl ⟨rfl, rfl⟩) (by simp) (by simp)
                    subst h3 h4 h5
                    refine ⟨_, w, _, run_app_none t ty e i ht hi (some a) A 0 0 c2 (Nat.le_refl _), this.1, this.2, .sl (by simp [bump]) (by omega) ?_⟩
                    rintro b ⟨_, rfl⟩
                    rw [bset_same]
                    exact ⟨fun h => absurd rfl h, k2, _, _, hb, by simpa using k4⟩
                  · omega
                · obtain rfl := k1 hc0
                  rw [Nat.zero_mul] at *
                  have hmul := Nat.add_mul len m i.size
                  have hmul2 : (len + m) * i.size ≤ c * i.size := Nat.mul_le_mul_right _ hroom
                  rcases hs with ⟨rfl, rfl, A, c2, rfl⟩ | ⟨hm, hlen, a2, c2, u, rfl, hu⟩
                  · have := r.set (w' := w) (f := f) (d := d) (g' := nx d) (nx' := bump nx d) (b' := bm f d) (cs' := cs) rfl rfl rfl (Nat.le_refl _) (fun _ _ _ => rfl) hb (.inr ⟨rfl, _, _, hf⟩) (.inl ⟨rfl, rfl⟩) hle2 hrep
                    rw [List.append_nil] at h4
                    subst h3 h4 h5
                    refine ⟨_, w, _, run_app_none t ty e i ht hi (some _) A len c c2 hl, this.1, this.2, .sl (by simp [bump]) (by omega) ?_⟩
                    rintro b ⟨_, rfl⟩
                    rw [bset_same]
                    exact ⟨fun _ => by simp, k2, _, _, hb, by simpa using k4⟩
                  · let news : List Value := (List.range (m * i.size)).map u
                    have hln : news.length = m * i.size := by simp [news]
                    have hnews : ∀ (j : Nat) w1, news[j]? = some w1 → w.cell? (a2.add j) = some w1 ∧ w1.oneCell' = true := by
                      intro j w1 hj
                      have hj' : j < m * i.size := by have := (List.getElem?_eq_some_iff.1 hj).1; omega
                      have : news[j]? = some (u j) := by simp [news, hj']
                      rw [this] at hj; cases hj
                      have := hu j ns[j] (List.getElem?_eq_getElem (by omega))
                      exact ⟨this.1, this.2.2⟩
                    have hrun := run_app_room (P := P) (w := w) t ty e E i ht hi (bm f d) len c vs hb a2 m c2 news hln (fun j w1 hj => (hnews j w1 hj).1) (fun w1 hw1 => by obtain ⟨j, hj⟩ := List.mem_iff_getElem?.1 hw1; exact (hnews j w1 hj).2) hroom (by omega)
                    have := r.set (w' := w.setRow (bm f d) (vs.toList.take (len * i.size) ++ news ++ vs.toList.drop (len * i.size + news.length)).toArray) (f := f) (d := d) (g' := nx d) (nx' := bump nx d) (b' := bm f d)
                      (cs' := cs ++ ns) rfl rfl rfl (by simp) (fun b hb1 _ => setRow_other _ _ _ _ hb1) (setRow_heap _ _ _ _ _ _ hb) (.inr ⟨rfl, _, _, hf⟩) (.inl ⟨rfl, rfl⟩) (by simp; omega) ?_
                    · subst h3 h4 h5
                      refine ⟨_, _, _, hrun, this.1, this.2, .sl (by simp [bump]) (by omega) ?_⟩
                      rintro b ⟨_, rfl⟩
                      rw [bset_same]
                      exact ⟨fun _ => by simp, k2, _, _, setRow_heap _ _ _ _ _ _ hb, by simp; omega⟩
                    · intro j y hj
                      have hlt : j < cs.length + ns.length := by have := (List.getElem?_eq_some_iff.1 hj).1; simpa using this
                      have e1 : (vs.toList.take (len * i.size) ++ news ++ vs.toList.drop (len * i.size + news.length)).toArray.getD j undef = if j < len * i.size then vs.getD j undef else u (j - len * i.size) := by
                        have e2 : (vs.toList.take (len * i.size) ++ news ++ vs.toList.drop (len * i.size + news.length)).toArray.getD j undef = ((vs.toList.take (len * i.size) ++ news ++ vs.toList.drop (len * i.size + news.length))[j]?).getD undef := by simp
                        rw [e2, List.append_assoc, List.getElem?_append]
                        have l2 : (vs.toList.take (len * i.size)).length = len * i.size := by simp; omega
                        rw [l2]
                        split
                        · rename_i hl2
                          rw [List.getElem?_take_of_lt hl2]; simp
                        · rename_i hl2
                          rw [List.getElem?_append_left (by rw [hln]; omega)]
                          have h5 : j - len * i.size < m * i.size := by omega
                          simp [news, h5]
                      rw [e1]
                      rw [List.getElem?_append, hcl] at hj
                      split at hj
                      · rename_i hl2; rw [if_pos hl2]; exact hrep _ _ hj
                      · rename_i hl2; rw [if_neg hl2]; exact (hu _ _ hj).2
              · have hbc : a = ⟨bm f d, 0, none⟩ ∨ len = 0 := by
                  by_cases hc0 : c = 0
                  · right; omega
                  · left; rw [k1 hc0, Nat.zero_mul]
                refine grown cs (fun q => vs.getD q undef) len (some a) c f d hcl hrep rfl (fun e => by cases e) (fun b hb1 q hq => ?_) hl (by omega) hc3 hc4 h3.symm h4.symm h5.symm
                cases hb1
                rcases hbc with rfl | rfl
                · rw [add_mk, Nat.zero_add, cell_of_row w _ _ vs E _ hb]; exact getD_of _ _ (by omega)
                · simp at hq
          · cases h
        · cases h
      · cases h
    · cases h
  | _ => cases h

theorem ok_app (r : Rel w0 O X bm H nx w) (t ty e : TypeId) (i : TypeInfo) (ht : P.underlying t = some (.slice e)) (hi : P.info? e = some i) (z : Value) (hz : i.zero = some z) (hzs : z.cells.size = i.size) (h0 : 0 < i.size) (key : Nat) {φ : Nat}
    (x y : AV) (v1 v2 : Value) (h1 : Rep (Lof H bm) X nx w false x v1) (h2 : Rep (Lof H bm) X nx w false y v2)
    {v : AV} {H' : Heap} {nx' : Ctr} (h : opK (.app i.size i.bytes key) [x, y] H nx φ (fun v H nx => some (v, H, nx)) none = some (v, H', nx')) :
    OK P w0 O X bm H nx w (Builtin.append_ #[t, t] ty #[v1, v2]) v H' nx' := by
  simp only [opK, appK] at h
  cases y with
  | nils =>
    cases h2
    exact app_dst r (φ := φ) t ty e i ht hi z hz hzs h0 key x v1 _ h1 0 [] (.inl ⟨rfl, rfl, _, _, rfl⟩) (by cases x <;> first | (simp at h; done) | (simp at h ⊢; exact h))
  | fz sz' es cap =>
    simp only at h
    split at h
    · rename_i hc
      subst hc
      exact app_dst r t ty e i ht hi z hz hzs h0 key x v1 _ h1 _ _ (src_fz h0 h2) h
    · cases h
  | sl f d g sz' off len =>
    simp only at h
    split at h
    · rename_i hc
      subst hc
      rw [getB_find] at h
      split at h
      · rename_i g' cs hf
        split at h
        · rename_i hg
          subst hg
          split at h
          · rename_i hle
            exact app_dst r t ty e i ht hi z hz hzs h0 key x v1 _ h1 _ _ (src_sl r hf hle h0 h2) h
          · cases h
        · cases h
      · cases h
    · cases h
  | _ => cases h
end
end Go.Ev
