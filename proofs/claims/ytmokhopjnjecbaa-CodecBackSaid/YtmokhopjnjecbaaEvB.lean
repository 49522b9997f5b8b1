/- How abstract values stand for the model's; how the abstract heap stands for a world; moves from world to world. -/
import Derived.Test.YtmokhopjnjecbaaEvA
import Derived.Below
import Derived.Laws.Rows
namespace Go.Ev
open Go.RowKit
set_option linter.unusedVariables false

theorem add_add (a : Addr) (m n : Nat) : (a.add m).add n = a.add (m + n) := by
  unfold Addr.add
  by_cases hm : m = 0
  · subst hm; simp
  · by_cases hn : n = 0
    · subst hn; simp
    · simp [hm, hn, Nat.add_assoc]
theorem add_block (a : Addr) (n : Nat) : (a.add n).block = a.block := by unfold Addr.add; split <;> rfl
theorem add_mk (b o n : Nat) : (⟨b, o, none⟩ : Addr).add n = ⟨b, o + n, none⟩ := by unfold Addr.add; split <;> simp_all

/-- Structs and arrays. -/
def aggD : TypeDesc → Bool
  | .struct _ | .array _ _ => true
  | _ => false
def ifaceD : TypeDesc → Bool
  | .interface _ => true
  | _ => false

abbrev Loc := Nat → Nat → Nat → Nat → Prop
def none4 : Loc := fun _ _ _ _ => False

inductive Rep (L : Loc) (X : Nat → Prop) (nx : Ctr) (w : World) : Bool → AV → Value → Prop
  | any {p v} : Rep L X nx w p .any v
  | int {p k n} : Rep L X nx w p (.int k n) (.int k n)
  | bool {p b} : Rep L X nx w p (.bool b) (.bool b)
  | str {p s} : Rep L X nx w p (.str s) (.string s)
  | nilp {p} : Rep L X nx w p .nilp (.pointer none)
  | nils {p} : Rep L X nx w p .nils (.slice none 0 0)
  | nilm {p} : Rep L X nx w p .nilm (.map none)
  | nilf {p} : Rep L X nx w p .nilf .nilFunc
  | nili {p} : Rep L X nx w p .nili .nilIface
  | ptr {f d g off a} (hg : g < nx d) (h : ∀ b, L f d g b → a = ⟨b, off, none⟩) : Rep L X nx w false (.ptr f d g off) (.pointer (some a))
  | ro {p cs a} (vv : Nat → Value) (hc : ∀ (j : Nat) x, cs[j]? = some x → w.cell? (a.add j) = some (vv j)) (hr : ∀ (j : Nat) x, cs[j]? = some x → Rep L X nx w p x (vv j))
      (ho : cs ≠ [] → (∀ f d g, ¬ L f d g a.block) ∧ ¬ X a.block ∧ a.block < w.heap.size) : Rep L X nx w p (.ro cs) (.pointer (some a))
  | sl {f d g sz off len a c} (hg : g < nx d) (hl : len ≤ c)
      (h : ∀ b, L f d g b → (c ≠ 0 → a = ⟨b, off * sz, none⟩) ∧ c ≤ maxLen ∧ ∃ vs E, w.heap[b]? = some (.cells vs E (0, 0)) ∧ (off + c) * sz = vs.size) :
      Rep L X nx w false (.sl f d g sz off len) (.slice (some a) len c)
  | fz0 {p sz cap A c} (hcap : ∀ c', cap = some c' → c = c') (hA : A = none → c = 0 ∧ cap = none) : Rep L X nx w p (.fz sz [] cap) (.slice A 0 c)
  | fz {p sz es cap a c} (vv : Nat → Nat → Value) (hne : es ≠ []) (hl : es.length ≤ c) (hcap : ∀ c', cap = some c' → c = c')
      (hsz : ∀ (i : Nat) e, es[i]? = some e → (cells e).length = sz)
      (hc : ∀ (i : Nat) e (j : Nat) x, es[i]? = some e → (cells e)[j]? = some x → w.cell? (a.add (i * sz + j)) = some (vv i j))
      (hr : ∀ (i : Nat) e (j : Nat) x, es[i]? = some e → (cells e)[j]? = some x → Rep L X nx w true x (vv i j))
      (h1 : ∀ (i : Nat) e (j : Nat) x, es[i]? = some e → (cells e)[j]? = some x → (vv i j).oneCell' = true)
      (ho : (∀ f d g, ¬ L f d g a.block) ∧ ¬ X a.block ∧ a.block < w.heap.size) : Rep L X nx w p (.fz sz es cap) (.slice (some a) es.length c)
  | agg {p cs} {vs : Array Value} (h : vs.size = cs.length) (hr : ∀ (j : Nat) x, cs[j]? = some x → Rep L X nx w p x (vs.getD j undef)) : Rep L X nx w p (.agg cs) (.agg vs)
  | tup {p cs} {vs : Array Value} (h : vs.size = cs.length) (hr : ∀ (j : Nat) x, cs[j]? = some x → Rep L X nx w p x (vs.getD j undef)) : Rep L X nx w p (.tup cs) (.tuple vs)
  | func {p f cs} {vs : Array Value} (h : vs.size = cs.length) (hr : ∀ (j : Nat) x, cs[j]? = some x → Rep L X nx w p x (vs.getD j undef)) : Rep L X nx w p (.func f cs) (.func (.func f) #[] vs)
  | ifc {p t v v'} (h : Rep L X nx w p v v') : Rep L X nx w p (.ifc t v) (.iface t v')

theorem Rep.weak {L : Loc} {X : Nat → Prop} {nx : Ctr} {w : World} {x : AV} {v : Value} (h : Rep L X nx w true x v) : Rep L X nx w false x v := by
  generalize hp : true = p at h
  induction h with
  | any => exact .any
  | int => exact .int
  | bool => exact .bool
  | str => exact .str
  | nilp => exact .nilp
  | nils => exact .nils
  | nilm => exact .nilm
  | nilf => exact .nilf
  | nili => exact .nili
  | ptr => cases hp
  | ro vv hc hr ho ih => exact .ro vv hc (fun j x h => ih j x h hp) ho
  | sl => cases hp
  | fz0 h hA => exact .fz0 h hA
  | fz vv a b c d e f h g ih => exact .fz vv a b c d e f h g
  | agg h hr ih => exact .agg h (fun j x h => ih j x h hp)
  | tup h hr ih => exact .tup h (fun j x h => ih j x h hp)
  | func h hr ih => exact .func h (fun j x h => ih j x h hp)
  | ifc h ih => exact .ifc (ih hp)

theorem Rep.any_p {L : Loc} {X : Nat → Prop} {nx : Ctr} {w : World} {p : Bool} {x : AV} {v : Value} (h : Rep L X nx w true x v) : Rep L X nx w p x v := by
  cases p
  · exact h.weak
  · exact h

/-- From world to world: what nobody writes stays; what lies in the heap keeps its place. -/
structure Move (L : Loc) (nx : Ctr) (w : World) (L' : Loc) (nx' : Ctr) (w' : World) : Prop where
  hnx : ∀ d, nx d ≤ nx' d
  size : w.heap.size ≤ w'.heap.size
  old : ∀ f d g b, L' f d g b → g < nx d → L f d g b
  new : ∀ f d g b, L' f d g b → nx d ≤ g → w.heap.size ≤ b ∨ ∃ f' d' g', L f' d' g' b
  cell : ∀ a u, w.cell? a = some u → (∀ f d g, ¬ L f d g a.block) → w'.cell? a = some u
  blk : ∀ f d g b vs E, L' f d g b → g < nx d → w.heap[b]? = some (.cells vs E (0, 0)) → ∃ vs', w'.heap[b]? = some (.cells vs' E (0, 0)) ∧ vs'.size = vs.size

theorem Move.refl (L : Loc) (nx : Ctr) (w : World) : Move L nx w L nx w :=
  ⟨fun _ => Nat.le_refl _, Nat.le_refl _, fun _ _ _ _ h _ => h, fun f d g b h _ => .inr ⟨f, d, g, h⟩, fun _ _ h _ => h, fun _ _ _ _ vs _ _ _ h => ⟨vs, h, rfl⟩⟩

theorem Move.avoid {L : Loc} {nx : Ctr} {w : World} {L' : Loc} {nx' : Ctr} {w' : World} (m : Move L nx w L' nx' w') {b : Nat} (hb : b < w.heap.size) (h : ∀ f d g, ¬ L f d g b) : ∀ f d g, ¬ L' f d g b := by
  intro f d g hL
  by_cases hg : g < nx d
  · exact h _ _ _ (m.old _ _ _ _ hL hg)
  · rcases m.new _ _ _ _ hL (by omega) with hb | ⟨f', d', g', h'⟩
    · omega
    · exact h _ _ _ h'

theorem Rep.move {L : Loc} {X : Nat → Prop} {nx : Ctr} {w : World} {L' : Loc} {nx' : Ctr} {w' : World} {p : Bool} {x : AV} {v : Value} (m : Move L nx w L' nx' w') (h : Rep L X nx w p x v) : Rep L' X nx' w' p x v := by
  induction h with
  | any => exact .any
  | int => exact .int
  | bool => exact .bool
  | str => exact .str
  | nilp => exact .nilp
  | nils => exact .nils
  | nilm => exact .nilm
  | nilf => exact .nilf
  | nili => exact .nili
  | ptr hg h => exact .ptr (Nat.lt_of_lt_of_le hg (m.hnx _)) (fun b hb => h b (m.old _ _ _ _ hb hg))
  | @ro p cs a vv hc hr ho ih =>
    refine .ro vv (fun j x hx => ?_) ih (fun hne => ?_)
    · have hne : cs ≠ [] := by intro h; subst h; simp at hx
      exact m.cell _ _ (hc j x hx) (by rw [add_block]; exact (ho hne).1)
    · exact ⟨m.avoid (ho hne).2.2 (ho hne).1, (ho hne).2.1, Nat.lt_of_lt_of_le (ho hne).2.2 m.size⟩
  | sl hg hl h =>
    refine .sl (Nat.lt_of_lt_of_le hg (m.hnx _)) hl (fun b hb => ?_)
    obtain ⟨h1, h2, vs, E, h3, h4⟩ := h b (m.old _ _ _ _ hb hg)
    obtain ⟨vs', h5, h6⟩ := m.blk _ _ _ _ _ _ hb hg h3
    exact ⟨h1, h2, vs', E, h5, by omega⟩
  | fz0 h hA => exact .fz0 h hA
  | @fz p sz es cap a c vv hne hl hcap hsz hc hr h1 ho ih =>
    exact .fz vv hne hl hcap hsz (fun i e j x h1 h2 => m.cell _ _ (hc i e j x h1 h2) (by rw [add_block]; exact ho.1)) ih h1 ⟨m.avoid ho.2.2 ho.1, ho.2.1, Nat.lt_of_lt_of_le ho.2.2 m.size⟩
  | agg h hr ih => exact .agg h ih
  | tup h hr ih => exact .tup h ih
  | func h hr ih => exact .func h ih
  | ifc h ih => exact .ifc ih

theorem Rep.cells {L : Loc} {X : Nat → Prop} {nx : Ctr} {w : World} {p : Bool} {x : AV} {v : Value} (h : Rep L X nx w p x v) (hx : cells x ≠ []) :
    v.cells.size = (cells x).length ∧ ∀ (j : Nat) y, (cells x)[j]? = some y → Rep L X nx w p y (v.cells.getD j undef) := by
  have one : ∀ (x : AV) (v : Value), Ev.cells x = [x] → v.cells = #[v] → Rep L X nx w p x v → v.cells.size = (Ev.cells x).length ∧ ∀ (j : Nat) y, (Ev.cells x)[j]? = some y → Rep L X nx w p y (v.cells.getD j undef) := by
    intro x v h1 h2 h3
    rw [h1, h2]
    refine ⟨rfl, fun j y hj => ?_⟩
    cases j with
    | zero => simp at hj; subst hj; exact h3
    | succ j => simp at hj
  cases h with
  | any => simp [Ev.cells] at hx
  | agg h hr => exact ⟨h, hr⟩
  | int => exact one _ _ rfl rfl .int
  | bool => exact one _ _ rfl rfl .bool
  | str => exact one _ _ rfl rfl .str
  | nilp => exact one _ _ rfl rfl .nilp
  | nils => exact one _ _ rfl rfl .nils
  | nilm => exact one _ _ rfl rfl .nilm
  | nilf => exact one _ _ rfl rfl .nilf
  | nili => exact one _ _ rfl rfl .nili
  | ptr a b => exact one _ _ rfl rfl (.ptr a b)
  | ro a b c d => exact one _ _ rfl rfl (.ro a b c d)
  | sl a b c => exact one _ _ rfl rfl (.sl a b c)
  | fz0 a b => exact one _ _ rfl rfl (.fz0 a b)
  | fz a b c d e f g h i => exact one _ _ rfl rfl (.fz a b c d e f g h i)
  | tup a b => exact one _ _ rfl rfl (.tup a b)
  | func a b => exact one _ _ rfl rfl (.func a b)
  | ifc a => exact one _ _ rfl rfl (.ifc a)

/-! ### the abstract heap -/
theorem find_setB_same (H : Heap) (f d g : Nat) (b : Option (List AV)) : find (setB H f d g b) f d = some (g, b) := by
  induction H with
  | nil => simp [setB, find]
  | cons e H ih =>
    obtain ⟨f', d', g', b'⟩ := e
    simp only [setB]
    split
    · simp [find]
    · rename_i h
      split
      · simp [find]
      · simp only [find, if_neg h]; exact ih
theorem find_setB_ne (H : Heap) (f d g : Nat) (b : Option (List AV)) (f' d' : Nat) (h : ¬ (f' = f ∧ d' = d)) : find (setB H f d g b) f' d' = find H f' d' := by
  induction H with
  | nil => simp only [setB, find]; rw [if_neg (fun e => h ⟨e.2.symm, e.1.symm⟩)]
  | cons e H ih =>
    obtain ⟨f1, d1, g1, b1⟩ := e
    simp only [setB]
    split
    · rename_i h1
      obtain ⟨rfl, rfl⟩ := h1
      simp only [find]
      rw [if_neg (fun e => h ⟨e.2.symm, e.1.symm⟩), if_neg (fun e => h ⟨e.2.symm, e.1.symm⟩)]
    · split
      · simp only [find]; rw [if_neg (c := d = d' ∧ f = f') (fun e => h ⟨e.2.symm, e.1.symm⟩)]
      · simp only [find]; rw [ih]
theorem getB_find {α : Type} (H : Heap) (f d g : Nat) (ok : List AV → α) (bad : α) :
    getB H f d g ok bad = match find H f d with | some (g', some cs) => if g' = g then ok cs else bad | _ => bad := by
  induction H with
  | nil => rfl
  | cons e H ih =>
    obtain ⟨f1, d1, g1, b1⟩ := e
    simp only [getB, find]
    split
    · cases b1 <;> simp
    · exact ih
theorem getB_of {α : Type} {H : Heap} {f d g : Nat} {cs : List AV} (h : find H f d = some (g, some cs)) (ok : List AV → α) (bad : α) : getB H f d g ok bad = ok cs := by
  rw [getB_find, h]; simp

def Lof (H : Heap) (bm : Nat → Nat → Nat) : Loc := fun f d g b => (∃ cs, find H f d = some (g, some cs)) ∧ b = bm f d
theorem Lof.mk {H : Heap} {bm : Nat → Nat → Nat} {f d g : Nat} {cs : List AV} (h : find H f d = some (g, some cs)) : Lof H bm f d g (bm f d) := ⟨⟨cs, h⟩, rfl⟩

/-- The abstract heap stands for what the call owns in a world; all else is as it was in w0 (but what was owned, O, at the beginning). -/
structure Rel (w0 : World) (O X : Nat → Prop) (bm : Nat → Nat → Nat) (H : Heap) (nx : Ctr) (w : World) : Prop where
  blk : ∀ f d g cs, find H f d = some (g, some cs) → ∃ vs E, w.heap[bm f d]? = some (.cells vs E (0, 0)) ∧ cs.length ≤ vs.size ∧ ∀ (j : Nat) x, cs[j]? = some x → Rep (Lof H bm) X nx w false x (vs.getD j undef) ∧ (vs.getD j undef).oneCell' = true
  inj : ∀ f d g cs f' d' g' cs', find H f d = some (g, some cs) → find H f' d' = some (g', some cs') → bm f d = bm f' d' → f = f' ∧ d = d'
  gen : ∀ f d g b, find H f d = some (g, b) → g < nx d
  own : ∀ f d g cs, find H f d = some (g, some cs) → (w0.heap.size ≤ bm f d ∨ O (bm f d)) ∧ ¬ X (bm f d)
  os : w.os = w0.os
  tape : w.tape = w0.tape
  output : w.output = w0.output
  size : w0.heap.size ≤ w.heap.size
  keep : ∀ b, b < w0.heap.size → ¬ O b → w.heap[b]? = w0.heap[b]?
  xlt : ∀ b, X b → b < w0.heap.size

def bset (bm : Nat → Nat → Nat) (f d b : Nat) : Nat → Nat → Nat := fun f1 d1 => if f1 = f ∧ d1 = d then b else bm f1 d1
theorem bset_same (bm : Nat → Nat → Nat) (f d b : Nat) : bset bm f d b f d = b := by simp [bset]
theorem bset_ne {bm : Nat → Nat → Nat} {f d b f1 d1 : Nat} (h : ¬ (f1 = f ∧ d1 = d)) : bset bm f d b f1 d1 = bm f1 d1 := by simp only [bset, if_neg h]

/-- One entry of the abstract heap becomes another: where it lay, or in a new block. -/
theorem Rel.set {w0 : World} {O X : Nat → Prop} {bm : Nat → Nat → Nat} {H : Heap} {nx : Ctr} {w : World} (r : Rel w0 O X bm H nx w)
    {w' : World} {f d g' b' : Nat} {nx' : Ctr} {cs' : List AV} {vs : Array Value} {E : TypeId}
    (hos : w'.os = w.os) (htape : w'.tape = w.tape) (hout : w'.output = w.output) (hsize : w.heap.size ≤ w'.heap.size)
    (hother : ∀ b, b ≠ b' → b < w.heap.size → w'.heap[b]? = w.heap[b]?)
    (hblk : w'.heap[b']? = some (.cells vs E (0, 0)))
    (hb' : w.heap.size ≤ b' ∨ (b' = bm f d ∧ ∃ g cs, find H f d = some (g, some cs)))
    (hg : (g' = nx d ∧ nx' = bump nx d) ∨ (nx' = nx ∧ b' = bm f d ∧ (∃ cs, find H f d = some (g', some cs)) ∧ ∀ vs0 E0, w.heap[b']? = some (.cells vs0 E0 (0, 0)) → vs.size = vs0.size ∧ E = E0))
    (hlen : cs'.length ≤ vs.size) (hrep : ∀ (j : Nat) x, cs'[j]? = some x → Rep (Lof H bm) X nx w false x (vs.getD j undef) ∧ (vs.getD j undef).oneCell' = true) :
    Rel w0 O X (bset bm f d b') (setB H f d g' (some cs')) nx' w' ∧
      Move (Lof H bm) nx w (Lof (setB H f d g' (some cs')) (bset bm f d b')) nx' w' := by
  have hnx : ∀ e, nx e ≤ nx' e := by
    intro e
    rcases hg with ⟨_, h⟩ | ⟨h, _⟩
    · rw [h]; unfold bump; split
      · rename_i h; subst h; omega
      · exact Nat.le_refl _
    · rw [h]; exact Nat.le_refl _
  -- where an entry of the new heap lies
  have hfind : ∀ f1 d1 g1 cs1, find (setB H f d g' (some cs')) f1 d1 = some (g1, some cs1) → (f1 = f ∧ d1 = d ∧ g1 = g' ∧ cs1 = cs') ∨ (¬ (f1 = f ∧ d1 = d) ∧ find H f1 d1 = some (g1, some cs1)) := by
    intro f1 d1 g1 cs1 h
    by_cases e : f1 = f ∧ d1 = d
    · obtain ⟨rfl, rfl⟩ := e
      rw [find_setB_same] at h
      simp at h
      exact .inl ⟨rfl, rfl, h.1.symm, h.2.symm⟩
    · rw [find_setB_ne _ _ _ _ _ _ _ e] at h; exact .inr ⟨e, h⟩
  have hlt : ∀ f1 d1 g1 cs1, find H f1 d1 = some (g1, some cs1) → bm f1 d1 < w.heap.size := by
    intro f1 d1 g1 cs1 h
    obtain ⟨vs1, E1, h1, _⟩ := r.blk _ _ _ _ h
    rcases Nat.lt_or_ge (bm f1 d1) w.heap.size with h2 | h2
    · exact h2
    · rw [Array.getElem?_eq_none h2] at h1; cases h1
  have hne : ∀ f1 d1 g1 cs1, ¬ (f1 = f ∧ d1 = d) → find H f1 d1 = some (g1, some cs1) → bm f1 d1 ≠ b' := by
    intro f1 d1 g1 cs1 hn h e
    have := hlt _ _ _ _ h
    rcases hb' with hb' | ⟨rfl, g, cs, hf⟩
    · omega
    · exact hn (r.inj _ _ _ _ _ _ _ _ h hf e)
  have m : Move (Lof H bm) nx w (Lof (setB H f d g' (some cs')) (bset bm f d b')) nx' w' := by
    refine ⟨hnx, hsize, ?_, ?_, ?_, ?_⟩
    · rintro f1 d1 g1 b1 ⟨⟨cs1, h1⟩, rfl⟩ hlt1
      rcases hfind _ _ _ _ h1 with ⟨rfl, rfl, rfl, rfl⟩ | ⟨e, h1⟩
      · rcases hg with ⟨h, _⟩ | ⟨_, h, ⟨cs, hcs⟩, _⟩
        · omega
        · rw [bset_same, h]; exact Lof.mk hcs
      · rw [bset_ne e]; exact Lof.mk h1
    · rintro f1 d1 g1 b1 ⟨⟨cs1, h1⟩, rfl⟩ hge
      rcases hfind _ _ _ _ h1 with ⟨rfl, rfl, rfl, rfl⟩ | ⟨e, h1⟩
      · rw [bset_same]
        rcases hb' with h | ⟨rfl, g, cs, h⟩
        · exact .inl h
        · exact .inr ⟨_, _, _, Lof.mk h⟩
      · have := r.gen _ _ _ _ h1; omega
    · intro a u hc hav
      have hab : a.block ≠ b' := by
        intro e
        have := World.block_lt_of_cell? w a hc
        rcases hb' with h | ⟨h, g, cs, hf⟩
        · omega
        · exact hav f d g (by rw [e, h]; exact Lof.mk hf)
      have := World.block_lt_of_cell? w a hc
      rw [World.cell?_of_block (w := w) (hother _ hab this)]; exact hc
    · rintro f1 d1 g1 b1 vs1 E1 ⟨⟨cs1, h1⟩, rfl⟩ hlt1 hh
      rcases hfind _ _ _ _ h1 with ⟨rfl, rfl, rfl, rfl⟩ | ⟨e, h1⟩
      · rw [bset_same] at hh ⊢
        rcases hg with ⟨h, _⟩ | ⟨_, h, _, hsz⟩
        · omega
        · obtain ⟨h1, rfl⟩ := hsz _ _ hh
          exact ⟨vs, hblk, h1⟩
      · rw [bset_ne e] at hh ⊢
        exact ⟨vs1, by rw [hother _ (hne _ _ _ _ e h1) (hlt _ _ _ _ h1)]; exact hh, rfl⟩
  refine ⟨⟨?_, ?_, ?_, ?_, hos.trans r.os, htape.trans r.tape, hout.trans r.output, Nat.le_trans r.size hsize, ?_, r.xlt⟩, m⟩
  · intro f1 d1 g1 cs1 h
    rcases hfind _ _ _ _ h with ⟨rfl, rfl, rfl, rfl⟩ | ⟨e, h1⟩
    · rw [bset_same]
      exact ⟨vs, E, hblk, hlen, fun j x hx => ⟨(hrep j x hx).1.move m, (hrep j x hx).2⟩⟩
    · rw [bset_ne e]
      obtain ⟨vs1, E1, h2, h3, h4⟩ := r.blk _ _ _ _ h1
      exact ⟨vs1, E1, by rw [hother _ (hne _ _ _ _ e h1) (hlt _ _ _ _ h1)]; exact h2, h3, fun j x hx => ⟨(h4 j x hx).1.move m, (h4 j x hx).2⟩⟩
  · intro f1 d1 g1 cs1 f2 d2 g2 cs2 h1 h2 he
    rcases hfind _ _ _ _ h1 with ⟨rfl, rfl, rfl, rfl⟩ | ⟨e1, k1⟩ <;> rcases hfind _ _ _ _ h2 with ⟨rfl, rfl, rfl, rfl⟩ | ⟨e2, k2⟩
    · exact ⟨rfl, rfl⟩
    · rw [bset_same, bset_ne e2] at he; exact absurd he.symm (hne _ _ _ _ e2 k2)
    · rw [bset_ne e1, bset_same] at he; exact absurd he (hne _ _ _ _ e1 k1)
    · rw [bset_ne e1, bset_ne e2] at he; exact r.inj _ _ _ _ _ _ _ _ k1 k2 he
  · intro f1 d1 g1 b1 h
    by_cases e : f1 = f ∧ d1 = d
    · obtain ⟨rfl, rfl⟩ := e
      rw [find_setB_same] at h
      simp at h
      rcases hg with ⟨h1, h2⟩ | ⟨h1, _, ⟨cs, h2⟩, _⟩
      · rw [h2]; unfold bump; rw [if_pos rfl]; omega
      · have := r.gen _ _ _ _ h2; rw [h1]; omega
    · rw [find_setB_ne _ _ _ _ _ _ _ e] at h
      have := r.gen _ _ _ _ h
      exact Nat.lt_of_lt_of_le this (hnx _)
  · intro f1 d1 g1 cs1 h
    rcases hfind _ _ _ _ h with ⟨rfl, rfl, rfl, rfl⟩ | ⟨e, h1⟩
    · rw [bset_same]
      rcases hb' with h | ⟨rfl, g, cs, hf⟩
      · have := r.size
        exact ⟨.inl (by omega), fun hx => by have := r.xlt _ hx; omega⟩
      · exact r.own _ _ _ _ hf
    · rw [bset_ne e]; exact r.own _ _ _ _ h1
  · intro b hb hO
    have hsz := r.size
    have hbb : b ≠ b' := by
      intro e
      rcases hb' with h | ⟨h, g, cs, hf⟩
      · omega
      · rcases (r.own _ _ _ _ hf).1 with h1 | h1
        · omega
        · exact hO (by rw [e, h]; exact h1)
    rw [hother b hbb (by omega)]
    exact r.keep b hb hO

/-- A new entry, in a new block. -/
theorem Rel.new {w0 : World} {O X : Nat → Prop} {bm : Nat → Nat → Nat} {H : Heap} {nx : Ctr} {w : World} (r : Rel w0 O X bm H nx w)
    {w' : World} (f d : Nat) {cs' : List AV} {vs : Array Value} {E : TypeId}
    (hos : w'.os = w.os) (htape : w'.tape = w.tape) (hout : w'.output = w.output) (hh : w'.heap = w.heap.push (.cells vs E (0, 0)))
    (hlen : cs'.length ≤ vs.size) (hrep : ∀ (j : Nat) x, cs'[j]? = some x → Rep (Lof H bm) X nx w false x (vs.getD j undef) ∧ (vs.getD j undef).oneCell' = true) :
    Rel w0 O X (bset bm f d w.heap.size) (setB H f d (nx d) (some cs')) (bump nx d) w' ∧
      Move (Lof H bm) nx w (Lof (setB H f d (nx d) (some cs')) (bset bm f d w.heap.size)) (bump nx d) w' :=
  r.set (E := E) hos htape hout (by rw [hh]; simp) (fun b _ hb => by rw [hh, Array.getElem?_push, if_neg (by omega)]) (by rw [hh]; simp) (.inl (Nat.le_refl _)) (.inl ⟨rfl, rfl⟩) hlen hrep

/-- A new block that nobody will write, or draws: nothing in the abstract heap turns. -/
theorem Rel.grow {w0 : World} {O X : Nat → Prop} {bm : Nat → Nat → Nat} {H : Heap} {nx : Ctr} {w : World} (r : Rel w0 O X bm H nx w)
    {w' : World} (hos : w'.os = w.os) (htape : w'.tape = w.tape) (hout : w'.output = w.output) (hsize : w.heap.size ≤ w'.heap.size)
    (hother : ∀ b, b < w.heap.size → w'.heap[b]? = w.heap[b]?) :
    Rel w0 O X bm H nx w' ∧ Move (Lof H bm) nx w (Lof H bm) nx w' := by
  have hlt : ∀ f1 d1 g1 cs1, find H f1 d1 = some (g1, some cs1) → bm f1 d1 < w.heap.size := by
    intro f1 d1 g1 cs1 h
    obtain ⟨vs1, E1, h1, _⟩ := r.blk _ _ _ _ h
    rcases Nat.lt_or_ge (bm f1 d1) w.heap.size with h2 | h2
    · exact h2
    · rw [Array.getElem?_eq_none h2] at h1; cases h1
  have m : Move (Lof H bm) nx w (Lof H bm) nx w' := by
    refine ⟨fun _ => Nat.le_refl _, hsize, fun _ _ _ _ h _ => h, fun f d g b h _ => .inr ⟨f, d, g, h⟩, ?_, ?_⟩
    · intro a u hc _
      rw [World.cell?_of_block (w := w) (hother _ (World.block_lt_of_cell? w a hc))]; exact hc
    · rintro f d g b vs E ⟨⟨cs, h⟩, rfl⟩ _ hb
      exact ⟨vs, by rw [hother _ (hlt _ _ _ _ h)]; exact hb, rfl⟩
  refine ⟨⟨?_, r.inj, r.gen, r.own, hos.trans r.os, htape.trans r.tape, hout.trans r.output, Nat.le_trans r.size hsize, ?_, r.xlt⟩, m⟩
  · intro f d g cs h
    obtain ⟨vs, E, h1, h2, h3⟩ := r.blk _ _ _ _ h
    exact ⟨vs, E, by rw [hother _ (hlt _ _ _ _ h)]; exact h1, h2, fun j x hx => ⟨(h3 j x hx).1.move m, (h3 j x hx).2⟩⟩
  · intro b hb hO
    have := r.size
    rw [hother b (by omega)]; exact r.keep b hb hO
end Go.Ev
