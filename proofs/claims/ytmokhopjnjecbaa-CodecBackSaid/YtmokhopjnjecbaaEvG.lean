/- What is frozen; literals, make, conversions, function values. -/
import Derived.Test.YtmokhopjnjecbaaEvF
namespace Go.Ev
open Go.RowKit
set_option linter.unusedVariables false
set_option linter.unusedSimpArgs false
set_option linter.unusedSectionVars false

/-! ### told in continuations, or told plainly: the same -/
theorem mapK_nat {α β : Type} (F : α → β) (f : {γ : Type} → AV → (AV → List (Nat × Nat) → γ) → γ → γ) (hf : ∀ {α β : Type} (F : α → β) v ok bad, F (f v ok bad) = f v (fun v i => F (ok v i)) (F bad)) :
    ∀ (l : List AV) (ok : List AV → List (Nat × Nat) → α) (bad : α), F (mapK f l ok bad) = mapK f l (fun v i => F (ok v i)) (F bad)
  | [], ok, bad => rfl
  | c :: cs, ok, bad => by
    simp only [mapK]
    refine (hf F _ _ _).trans ?_
    congr 1
    funext v i
    exact mapK_nat F f hf cs _ _
theorem getB_nat {α β : Type} (F : α → β) (H : Heap) (f d g : Nat) (ok : List AV → α) (bad : α) : F (getB H f d g ok bad) = getB H f d g (fun v => F (ok v)) (F bad) := by
  rw [getB_find, getB_find]
  split
  · split <;> rfl
  · rfl
theorem frzK_nat : ∀ (n : Nat) (H : Heap) {α β : Type} (F : α → β) (v : AV) (ok : AV → List (Nat × Nat) → α) (bad : α), F (frzK n H v ok bad) = frzK n H v (fun v i => F (ok v i)) (F bad)
  | 0, _, _, _, _, _, _, _ => rfl
  | n + 1, H, α, β, F, v, ok, bad => by
    have ih := fun (l : List AV) (ok : List AV → List (Nat × Nat) → α) (bad : α) => mapK_nat F (fun {γ} => frzK (α := γ) n H) (fun F v ok bad => frzK_nat n H F v ok bad) l ok bad
    cases v <;> simp only [frzK] <;> first | rfl | exact ih _ _ _ | exact frzK_nat n H F _ _ _ | skip
    refine (getB_nat F _ _ _ _ _ _).trans ?_
    congr 1
    funext cs
    split
    · exact ih _ _ _
    · rfl

section
variable {P : Program} {w0 : World} {O X : Nat → Prop} {bm : Nat → Nat → Nat} {H : Heap} {nx : Ctr} {w : World}

theorem Reps.of {L : Loc} {p : Bool} : ∀ (cs : List AV) (vs : List Value), vs.length = cs.length → (∀ (j : Nat) x, cs[j]? = some x → Rep L X nx w p x (vs.getD j undef)) → Reps L X nx w p cs vs
  | [], vs, hl, _ => by have : vs = [] := List.eq_nil_of_length_eq_zero (by simpa using hl); subst this; exact .nil
  | c :: cs, [], hl, _ => by simp at hl
  | c :: cs, v :: vs, hl, h => .cons (by have := h 0 c rfl; simpa using this) (Reps.of cs vs (by simpa using hl) (fun j x hx => by have := h (j + 1) x hx; simpa using this))
theorem Reps.len {L : Loc} {p : Bool} {cs : List AV} {vs : List Value} (h : Reps L X nx w p cs vs) : vs.length = cs.length := by
  induction h with
  | nil => rfl
  | cons _ _ ih => simp [ih]
theorem Reps.get {L : Loc} {p : Bool} {cs : List AV} {vs : List Value} (h : Reps L X nx w p cs vs) : ∀ (j : Nat) x, cs[j]? = some x → Rep L X nx w p x (vs.getD j undef) := by
  induction h with
  | nil => intro j x hx; simp at hx
  | cons h _ ih =>
    intro j x hx
    cases j with
    | zero => simp at hx; subst hx; simpa using h
    | succ j => simp at hx; have := ih j x hx; simpa using this

/-- Frozen: nothing of it lies in the heap any more, as far as the heap has not what was taken along. -/
def Froz (H : Heap) (bm : Nat → Nat → Nat) (X : Nat → Prop) (nx : Ctr) (w : World) (ids : List (Nat × Nat)) (v : AV) (val : Value) : Prop :=
  v ≠ .any ∧ ∀ (L : Loc) (nx' : Ctr), (∀ f d g b, L f d g b → Lof H bm f d g b ∧ (f, d) ∉ ids) → Rep L X nx' w true v val
theorem Rep.sub {L L' : Loc} {nx nx' : Ctr} {x : AV} {v : Value} (h : Rep L X nx w true x v) (hs : ∀ f d g b, L' f d g b → L f d g b) : Rep L' X nx' w true x v := by
  generalize hp : true = p at h
  induction h with
  | any => exact .any
  | int => exact .int
  | bool => exact .bool
  | str => exact .str
  | nilp => exact .nilp
  | nils => exact .nils
  | nilm => exact .nilm
  | nilf => exact .nilf
  | nili => exact .nili
  | ptr => cases hp
  | ro vv hc hr ho ih => subst hp; exact .ro vv hc (fun j x h => ih j x h rfl) (fun hne => ⟨fun f d g hL => (ho hne).1 f d g (hs _ _ _ _ hL), (ho hne).2⟩)
  | sl => cases hp
  | fz0 h hA => subst hp; exact .fz0 h hA
  | fz vv a b c d e f g h ih => subst hp; exact .fz vv a b c d e (fun i e j x h1 h2 => ih i e j x h1 h2 rfl) g ⟨fun f d g hL => h.1 f d g (hs _ _ _ _ hL), h.2⟩
  | agg h hr ih => subst hp; exact .agg h (fun j x h => ih j x h rfl)
  | tup h hr ih => subst hp; exact .tup h (fun j x h => ih j x h rfl)
  | func h hr ih => subst hp; exact .func h (fun j x h => ih j x h rfl)
  | ifc h ih => subst hp; exact .ifc (ih rfl)
/-- A value of the pure kind stands whatever lies in the heap: its memory is not the heap's. -/
theorem Rep.pure_fz {L : Loc} {sz : Nat} {es : List AV} {cap : Option Nat} {v : Value} {p : Bool} (h : Rep L X nx w p (.fz sz es cap) v) : Rep L X nx w true (.fz sz es cap) v := by
  cases h with
  | fz0 a b => exact .fz0 a b
  | fz a b c d e f g h i => exact .fz a b c d e f g h i

theorem chunkN_len (sz : Nat) : ∀ n cs, (chunkN sz n cs).length = n
  | 0, _ => rfl
  | n + 1, cs => by simp [chunkN, chunkN_len sz n]
theorem chunkN_get (sz : Nat) : ∀ n cs i e, (chunkN sz n cs)[i]? = some e → e = .agg ((cs.drop (i * sz)).take sz) ∧ i < n
  | 0, _, i, e, h => by simp [chunkN] at h
  | n + 1, cs, 0, e, h => by simp [chunkN] at h; simp [← h]
  | n + 1, cs, i + 1, e, h => by
    simp only [chunkN, List.getElem?_cons_succ] at h
    have := chunkN_get sz n _ i e h
    rw [List.drop_drop] at this
    rw [show (i + 1) * sz = sz + i * sz by rw [Nat.add_mul]; omega]
    exact ⟨this.1, by omega⟩

theorem frz_map {n : Nat} (ih : ∀ (v : AV) (val : Value) {α : Type} (ok : AV → List (Nat × Nat) → Option α) (r : α), Rep (Lof H bm) X nx w false v val → frzK n H v ok none = some r → ∃ v' ids, ok v' ids = some r ∧ Froz H bm X nx w ids v' val) :
    ∀ (cs : List AV) (vals : List Value) {α : Type} (ok : List AV → List (Nat × Nat) → Option α) (r : α), Reps (Lof H bm) X nx w false cs vals → mapK (frzK n H) cs ok none = some r →
      ∃ cs' ids, ok cs' ids = some r ∧ cs'.length = cs.length ∧ (∀ (j : Nat) x, cs'[j]? = some x → x ≠ .any) ∧ ∀ (L : Loc) (nx' : Ctr), (∀ f d g b, L f d g b → Lof H bm f d g b ∧ (f, d) ∉ ids) → Reps L X nx' w true cs' vals
  | [], vals, α, ok, r, hr, h => by
    obtain rfl := hr.inv0
    exact ⟨[], [], h, rfl, by simp, fun _ _ _ => .nil⟩
  | c :: cs, vals, α, ok, r, hr, h => by
    obtain ⟨v, vs, rfl, h1, t⟩ := hr.inv
    simp only [mapK] at h
    obtain ⟨v', i1, h, f1, f2⟩ := ih c v _ _ h1 h
    obtain ⟨cs', i2, h, g1, g2, g3⟩ := frz_map ih cs vs _ _ t h
    refine ⟨v' :: cs', i1 ++ i2, h, by simp [g1], fun j x hx => ?_, fun L nx' hL => .cons (f2 L nx' fun f d g b hb => ⟨(hL _ _ _ _ hb).1, fun hm => (hL _ _ _ _ hb).2 (List.mem_append_left _ hm)⟩) (g3 L nx' fun f d g b hb => ⟨(hL _ _ _ _ hb).1, fun hm => (hL _ _ _ _ hb).2 (List.mem_append_right _ hm)⟩)⟩
    cases j with
    | zero => simp at hx; subst hx; exact f1
    | succ j => simp at hx; exact g2 j x hx

theorem frz_ok (r0 : Rel w0 O X bm H nx w) : ∀ (n : Nat) (v : AV) (val : Value) {α : Type} (ok : AV → List (Nat × Nat) → Option α) (r : α), Rep (Lof H bm) X nx w false v val → frzK n H v ok none = some r → ∃ v' ids, ok v' ids = some r ∧ Froz H bm X nx w ids v' val
  | 0, _, _, _, _, _, _, h => by cases h
  | n + 1, v, val, α, ok, r, hr, h => by
    have ih := @frz_map X bm H nx w n (fun v val α ok r h1 h2 => frz_ok r0 n v val ok r h1 h2)
    have agg : ∀ (cs : List AV) (vs : Array Value), vs.size = cs.length → (∀ (j : Nat) x, cs[j]? = some x → Rep (Lof H bm) X nx w false x (vs.getD j undef)) → Reps (Lof H bm) X nx w false cs vs.toList := by
      intro cs vs h1 h2
      exact Reps.of _ _ (by simpa using h1) (fun j x hx => by have := h2 j x hx; simpa [List.getD] using this)
    have back : ∀ {L : Loc} {nx'} (cs : List AV) (vs : Array Value), Reps L X nx' w true cs vs.toList → vs.size = cs.length ∧ ∀ (j : Nat) x, cs[j]? = some x → Rep L X nx' w true x (vs.getD j undef) := by
      intro L nx' cs vs h1
      exact ⟨by have := h1.len; simpa using this, fun j x hx => by have := h1.get j x hx; simpa [List.getD] using this⟩
    cases hr with
    | any => cases h
    | int => exact ⟨_, _, h, by simp, fun _ _ _ => .int⟩
    | bool => exact ⟨_, _, h, by simp, fun _ _ _ => .bool⟩
    | str => exact ⟨_, _, h, by simp, fun _ _ _ => .str⟩
    | nilp => exact ⟨_, _, h, by simp, fun _ _ _ => .nilp⟩
    | nils => exact ⟨_, _, h, by simp, fun _ _ _ => .nils⟩
    | nilm => exact ⟨_, _, h, by simp, fun _ _ _ => .nilm⟩
    | nilf => exact ⟨_, _, h, by simp, fun _ _ _ => .nilf⟩
    | nili => exact ⟨_, _, h, by simp, fun _ _ _ => .nili⟩
    | ptr => cases h
    | @ro _ cs a vv hc hr ho =>
      simp only [frzK] at h
      have hreps : Reps (Lof H bm) X nx w false cs ((List.range cs.length).map vv) := by
        refine Reps.of _ _ (by simp) (fun j x hx => ?_)
        have hj : j < cs.length := (List.getElem?_eq_some_iff.1 hx).1
        rw [getD_range_map _ _ j hj]
        exact hr j x hx
      obtain ⟨cs', ids, h, g1, g2, g3⟩ := ih _ _ _ _ hreps h
      have old : ∀ (j : Nat) x, cs'[j]? = some x → ∃ y, cs[j]? = some y := by
        intro j x hx
        have hj : j < cs'.length := (List.getElem?_eq_some_iff.1 hx).1
        exact ⟨cs[j]'(by omega), List.getElem?_eq_getElem (by omega)⟩
      refine ⟨_, _, h, by simp, fun L nx' hL => .ro vv (fun j x hx => ?_) (fun j x hx => ?_) (fun hne => ?_)⟩
      · obtain ⟨y, hy⟩ := old j x hx
        exact hc j y hy
      · obtain ⟨y, hy⟩ := old j x hx
        have hj : j < cs.length := (List.getElem?_eq_some_iff.1 hy).1
        have := (g3 L nx' hL).get j x hx
        rwa [getD_range_map _ _ j hj] at this
      · have hne' : cs ≠ [] := by
          intro e; rw [e] at g1; exact hne (List.eq_nil_of_length_eq_zero (by simpa using g1))
        obtain ⟨k1, k2, k3⟩ := ho hne'
        exact ⟨fun f d g hL1 => k1 f d g (hL _ _ _ _ hL1).1, k2, k3⟩
    | fz0 a b => exact ⟨_, _, h, by simp, fun _ _ _ => .fz0 a b⟩
    | fz a b c d e f g h1 i =>
      have := (Rep.fz (p := false) a b c d e f g h1 i).pure_fz
      exact ⟨_, _, h, by simp, fun L nx' hL => this.sub (fun f d g b hb => (hL _ _ _ _ hb).1)⟩
    | agg h1 h2 =>
      simp only [frzK] at h
      obtain ⟨cs', ids, h, g1, g2, g3⟩ := ih _ _ _ _ (agg _ _ h1 h2) h
      exact ⟨_, _, h, by simp, fun L nx' hL => .agg (back _ _ (g3 L nx' hL)).1 (back _ _ (g3 L nx' hL)).2⟩
    | tup h1 h2 =>
      simp only [frzK] at h
      obtain ⟨cs', ids, h, g1, g2, g3⟩ := ih _ _ _ _ (agg _ _ h1 h2) h
      exact ⟨_, _, h, by simp, fun L nx' hL => .tup (back _ _ (g3 L nx' hL)).1 (back _ _ (g3 L nx' hL)).2⟩
    | func h1 h2 =>
      simp only [frzK] at h
      obtain ⟨cs', ids, h, g1, g2, g3⟩ := ih _ _ _ _ (agg _ _ h1 h2) h
      exact ⟨_, _, h, by simp, fun L nx' hL => .func (back _ _ (g3 L nx' hL)).1 (back _ _ (g3 L nx' hL)).2⟩
    | ifc h1 =>
      simp only [frzK] at h
      obtain ⟨v', ids, h, g1, g2⟩ := frz_ok r0 n _ _ _ _ h1 h
      exact ⟨_, _, h, by simp, fun L nx' hL => .ifc (g2 L nx' hL)⟩
    | @sl f d g sz off len a c hg hl hh =>
      simp only [frzK] at h
      rw [getB_find] at h
      split at h
      · rename_i g' cs hf
        split at h
        · rename_i hg'
          subst hg'
          split at h
          · rename_i hle
            obtain ⟨k1, k2, vs1, E1, k3, k4⟩ := hh _ (Lof.mk hf)
            obtain ⟨vs, E, hb, hle2, hrep⟩ := r0.blk _ _ _ _ hf
            have hmul := Nat.add_mul off len sz
            have hblk : bm f d < w.heap.size := by
              rcases Nat.lt_or_ge (bm f d) w.heap.size with h5 | h5
              · exact h5
              · rw [Array.getElem?_eq_none h5] at hb; cases hb
            let vals : List Value := (List.range (len * sz)).map fun q => vs.getD (off * sz + q) undef
            have hvals : ∀ q, q < len * sz → vals.getD q undef = vs.getD (off * sz + q) undef := fun q hq => getD_range_map _ _ q hq
            have hget : ∀ (q : Nat) y, ((cs.drop (off * sz)).take (len * sz))[q]? = some y → q < len * sz ∧ cs[off * sz + q]? = some y := by
              intro q y hq
              have hq' : q < len * sz := by have := (List.getElem?_eq_some_iff.1 hq).1; simp at this; omega
              rw [List.getElem?_take_of_lt hq', List.getElem?_drop] at hq
              exact ⟨hq', hq⟩
            have hreps : Reps (Lof H bm) X nx w false ((cs.drop (off * sz)).take (len * sz)) vals := by
              refine Reps.of _ _ (by simp [vals]; omega) (fun q y hq => ?_)
              obtain ⟨hq', hq⟩ := hget q y hq
              rw [hvals q hq']; exact (hrep _ _ hq).1
            obtain ⟨cs', ids, h, g1, g2, g3⟩ := ih _ _ _ _ hreps h
            have hlen' : cs'.length = len * sz := by rw [g1]; simp; omega
            refine ⟨_, _, h, by simp, fun L nx' hL => ?_⟩
            have hLi : ∀ f1 d1 g1 b1, L f1 d1 g1 b1 → Lof H bm f1 d1 g1 b1 ∧ (f1, d1) ∉ ids := fun f1 d1 g1 b1 hb1 => ⟨(hL _ _ _ _ hb1).1, fun hm => (hL _ _ _ _ hb1).2 (List.mem_cons_of_mem _ hm)⟩
            have g3 := g3 L nx' hLi
            have hone : ∀ q, q < len * sz → (vs.getD (off * sz + q) undef).oneCell' = true := by
              intro q hq
              exact (hrep (off * sz + q) cs[off * sz + q] (List.getElem?_eq_getElem (by omega))).2
            -- the elements' cells
            have hcell : ∀ (i : Nat) e, (chunk sz len cs')[i]? = some e → i < len ∧ (cells e).length = sz ∧ ∀ (j : Nat) x, (cells e)[j]? = some x → j < sz ∧ cs'[i * sz + j]? = some x := by
              intro i e he
              unfold chunk at he
              split at he
              · rename_i h1
                subst h1
                have hi : i < len := by have := (List.getElem?_eq_some_iff.1 he).1; omega
                have hrepi := g3.get i e he
                have hone' := hone i (by omega)
                rw [hvals i (by omega)] at hrepi
                have hce : cells e = [e] := by
                  generalize vs.getD (off * 1 + i) undef = u at hrepi hone'
                  cases hrepi with
                  | agg => cases hone'
                  | any => exact absurd rfl (g2 i _ he)
                  | _ => rfl
                rw [hce]
                refine ⟨hi, rfl, fun j x hj => ?_⟩
                cases j with
                | zero => simp at hj; subst hj; simp [he]
                | succ j => simp at hj
              · obtain ⟨rfl, hi⟩ := chunkN_get _ _ _ _ _ he
                have hm2 : (i + 1) * sz ≤ len * sz := Nat.mul_le_mul_right _ hi
                rw [Nat.add_mul] at hm2
                refine ⟨hi, by simp [cells]; omega, fun j x hj => ?_⟩
                simp only [cells] at hj
                have hj' : j < sz := by have := (List.getElem?_eq_some_iff.1 hj).1; simp at this; omega
                rw [List.getElem?_take_of_lt hj', List.getElem?_drop] at hj
                exact ⟨hj', hj⟩
            have hchl : (chunk sz len cs').length = len := by
              unfold chunk
              split
              · rename_i h1; subst h1; omega
              · exact chunkN_len _ _ _
            by_cases hz : len = 0
            · have : chunk sz len cs' = [] := List.eq_nil_of_length_eq_zero (by omega)
              rw [this]; subst hz; exact .fz0 (by simp) (fun e => by cases e)
            · obtain rfl := k1 (by omega)
              have : (Value.slice (some ⟨bm f d, off * sz, none⟩) len c) = .slice (some ⟨bm f d, off * sz, none⟩) (chunk sz len cs').length c := by rw [hchl]
              rw [this]
              refine .fz (fun i j => vs.getD (off * sz + (i * sz + j)) undef) (fun e => by rw [e] at hchl; simp at hchl; omega) (by omega) (by simp) (fun i e he => (hcell i e he).2.1) (fun i e j x he hj => ?_) (fun i e j x he hj => ?_) (fun i e j x he hj => ?_) ⟨fun f1 d1 g1 hL1 => ?_, ?_, hblk⟩
              · obtain ⟨hi, _, h3⟩ := hcell i e he
                have := (h3 j x hj).2
                have hlt := (List.getElem?_eq_some_iff.1 this).1
                rw [add_mk, cell_of_row w _ _ vs E _ hb]
                exact getD_of _ _ (by omega)
              · obtain ⟨hi, _, h3⟩ := hcell i e he
                have h4 := (h3 j x hj).2
                have hlt := (List.getElem?_eq_some_iff.1 h4).1
                have := g3.get _ _ h4
                rwa [hvals _ (by omega)] at this
              · obtain ⟨hi, _, h3⟩ := hcell i e he
                have h4 := (h3 j x hj).2
                have hlt := (List.getElem?_eq_some_iff.1 h4).1
                exact hone _ (by omega)
              · obtain ⟨⟨⟨cs1, hf1⟩, hbb⟩, hnm⟩ := hL _ _ _ _ hL1
                obtain ⟨rfl, rfl⟩ := r0.inj _ _ _ _ _ _ _ _ hf hf1 hbb
                exact hnm (List.mem_cons_self)
              · exact (r0.own _ _ _ _ hf).2
          · cases h
        · cases h
      · cases h
end
end Go.Ev
