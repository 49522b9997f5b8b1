/- One compiled operation in the model; a region in whatever order. -/
import Derived.Test.YtmokhopjnjecbaaEvL
namespace Go.Ev
open Go.RowKit
set_option linter.unusedVariables false
set_option linter.unusedSimpArgs false
set_option linter.unusedSectionVars false

/-- A value that leads to no writable memory: what is hidden from it may change. -/
theorem Rep.hide {L : Loc} {X X' : Nat → Prop} {nx : Ctr} {w : World} {x : AV} {v : Value} (h : Rep L X nx w true x v) (hX : ∀ b, X' b → X b ∨ ∃ f d g, L f d g b) : Rep none4 X' zeroC w true x v := by
  generalize hp : true = p at h
  induction h with
  | any => subst hp; exact .any
  | int => subst hp; exact .int
  | bool => subst hp; exact .bool
  | str => subst hp; exact .str
  | nilp => subst hp; exact .nilp
  | nils => subst hp; exact .nils
  | nilm => subst hp; exact .nilm
  | nilf => subst hp; exact .nilf
  | nili => subst hp; exact .nili
  | ptr => cases hp
  | ro vv hc hr ho ih =>
    refine .ro vv hc (fun j x h => ih j x h hp) (fun hne => ?_)
    obtain ⟨h1, h2, h3⟩ := ho hne
    exact ⟨fun _ _ _ h => h, fun hx => (hX _ hx).elim h2 (fun ⟨f, d, g, h⟩ => h1 _ _ _ h), h3⟩
  | sl => cases hp
  | fz0 h hA => subst hp; exact .fz0 h hA
  | fz vv a b c d e f h g ih =>
    refine .fz vv a b c d e (fun i y j x h1 h2 => ih i y j x h1 h2 rfl) h ?_
    exact ⟨fun _ _ _ h => h, fun hx => (hX _ hx).elim g.2.1 (fun ⟨f, d, g', h⟩ => g.1 _ _ _ h), g.2.2⟩
  | agg h hr ih => exact .agg h (fun j x h => ih j x h hp)
  | tup h hr ih => exact .tup h (fun j x h => ih j x h hp)
  | func h hr ih => exact .func h (fun j x h => ih j x h hp)
  | ifc h ih => exact .ifc (ih hp)
theorem Rep.show {L : Loc} {X X' : Nat → Prop} {nx : Ctr} {w : World} {x : AV} {v : Value} (h : Rep none4 X' zeroC w true x v) (hX : ∀ b, X b → X' b) (hL : ∀ f d g b, L f d g b → X' b) : Rep L X nx w true x v := by
  generalize hp : true = p at h
  induction h with
  | any => subst hp; exact .any
  | int => subst hp; exact .int
  | bool => subst hp; exact .bool
  | str => subst hp; exact .str
  | nilp => subst hp; exact .nilp
  | nils => subst hp; exact .nils
  | nilm => subst hp; exact .nilm
  | nilf => subst hp; exact .nilf
  | nili => subst hp; exact .nili
  | ptr => cases hp
  | ro vv hc hr ho ih =>
    refine .ro vv hc (fun j x h => ih j x h hp) (fun hne => ?_)
    obtain ⟨h1, h2, h3⟩ := ho hne
    exact ⟨fun f d g h => h2 (hL _ _ _ _ h), fun hx => h2 (hX _ hx), h3⟩
  | sl => cases hp
  | fz0 h hA => subst hp; exact .fz0 h hA
  | fz vv a b c d e f h g ih =>
    refine .fz vv a b c d e (fun i y j x h1 h2 => ih i y j x h1 h2 rfl) h ?_
    exact ⟨fun f d g' h => g.2.1 (hL _ _ _ _ h), fun hx => g.2.1 (hX _ hx), g.2.2⟩
  | agg h hr ih => exact .agg h (fun j x h => ih j x h hp)
  | tup h hr ih => exact .tup h (fun j x h => ih j x h hp)
  | func h hr ih => exact .func h (fun j x h => ih j x h hp)
  | ifc h ih => exact .ifc (ih hp)
theorem Reps.hide {L : Loc} {X X' : Nat → Prop} {nx : Ctr} {w : World} {xs : List AV} {vs : List Value} (h : Reps L X nx w true xs vs) (hX : ∀ b, X' b → X b ∨ ∃ f d g, L f d g b) : Reps none4 X' zeroC w true xs vs := by
  induction h with
  | nil => exact .nil
  | cons h _ ih => exact .cons (h.hide hX) ih

theorem scal1_closed {x : AV} (hx : scal (.tup [x]) = true) {L : Loc} {X : Nat → Prop} {nx : Ctr} {w : World} {p : Bool} {v : Value} (h : Rep L X nx w p x v) : Closed x v := by
  intro L' X' nx' w' p'
  cases h with
  | int => exact .int
  | bool => exact .bool
  | str => exact .str
  | nilp => exact .nilp
  | nils => exact .nils
  | nilm => exact .nilm
  | nilf => exact .nilf
  | nili => exact .nili
  | _ => simp [scal] at hx
theorem scal_closed {x : AV} (hx : scal x = true) {L : Loc} {X : Nat → Prop} {nx : Ctr} {w : World} {p : Bool} {v : Value} (h : Rep L X nx w p x v) : Closed x v := by
  by_cases h1 : scal (.tup [x]) = true
  · exact scal1_closed h1 h
  · cases h with
    | tup hs hr =>
      intro L' X' nx' w' p'
      refine .tup hs (fun j y hj => ?_)
      have := hr j y hj
      refine scal1_closed ?_ this L' X' nx' w' p'
      simp only [scal, List.all_eq_true] at hx
      simp only [scal, List.all_cons, List.all_nil, Bool.and_true]
      exact hx y (List.mem_of_getElem? hj)
    | _ => first | (simp [scal] at hx; done) | (simp [scal] at h1; done)

theorem Move.trans {L L1 L2 : Loc} {nx nx1 nx2 : Ctr} {w w1 w2 : World} (a : Move L nx w L1 nx1 w1) (b : Move L1 nx1 w1 L2 nx2 w2) : Move L nx w L2 nx2 w2 := by
  refine ⟨fun e => Nat.le_trans (a.hnx e) (b.hnx e), Nat.le_trans a.size b.size, fun f d g c h hg => a.old _ _ _ _ (b.old _ _ _ _ h (Nat.lt_of_lt_of_le hg (a.hnx _))) hg, fun f d g c h hg => ?_, fun p u hc hL => ?_, fun f d g c vs E h hg hb => ?_⟩
  · by_cases h1 : g < nx1 d
    · exact a.new _ _ _ _ (b.old _ _ _ _ h h1) hg
    · rcases b.new _ _ _ _ h (by omega) with h2 | ⟨f', d', g', h2⟩
      · exact .inl (Nat.le_trans a.size h2)
      · by_cases h3 : g' < nx d'
        · exact .inr ⟨_, _, _, a.old _ _ _ _ h2 h3⟩
        · exact a.new _ _ _ _ h2 (by omega)
  · exact b.cell p u (a.cell p u hc hL) (a.avoid (World.block_lt_of_cell? w p hc) hL)
  · obtain ⟨vs1, h1, h2⟩ := a.blk _ _ _ _ _ _ (b.old _ _ _ _ h (Nat.lt_of_lt_of_le hg (a.hnx _))) hg hb
    obtain ⟨vs2, h3, h4⟩ := b.blk _ _ _ _ _ _ h (Nat.lt_of_lt_of_le hg (a.hnx _)) h1
    exact ⟨vs2, h3, h4.trans h2⟩

/-- What a call of the function owns, and its temporaries. -/
structure St (w0 : World) (O X : Nat → Prop) (L0 : Loc) (nx0 : Ctr) (t : List AV) (H : Heap) (nx : Ctr) (a : Act) (w : World) : Prop where
  defers : a.defers = []
  rel : ∃ bm, Rel w0 O X bm H nx w ∧ TRel (Lof H bm) X nx w t a.tmps ∧ Move L0 nx0 w0 (Lof H bm) nx w

section
variable {P : Program} {w0 : World} {O X : Nat → Prop} {bm : Nat → Nat → Nat} {H : Heap} {nx : Ctr} {w : World}

theorem Reps.setT {L : Loc} {p : Bool} {v : AV} {val : Value} (hv : Rep L X nx w p v val) : ∀ {t : List AV} {vs : List Value} (d : Nat), Reps L X nx w p t vs → Reps L X nx w p (setT t d v) (vs.set d val)
  | [], vs, d, h => by have := h.inv0; subst this; simpa [Ev.setT] using h
  | x :: t, vs, 0, h => by obtain ⟨u, us, rfl, h1, h2⟩ := h.inv; exact .cons hv h2
  | x :: t, vs, d + 1, h => by obtain ⟨u, us, rfl, h1, h2⟩ := h.inv; exact .cons h1 (Reps.setT hv d h2)
theorem TRel.put {L : Loc} {t : List AV} {a : Act} {v : AV} {val : Value} (h : TRel L X nx w t a.tmps) (hv : Rep L X nx w false v val) (d : Option Nat) : TRel L X nx w (put t d v) (a.put d val).tmps := by
  cases d with
  | none => exact h
  | some d =>
    show Reps _ _ _ _ _ _ (a.tmps.setIfInBounds d val).toList
    rw [Array.toList_setIfInBounds]
    exact Reps.setT hv d h
theorem put_defers (a : Act) (d : Option Nat) (v : Value) : (a.put d v).defers = a.defers := by cases d <;> rfl
theorem TRel.move {L L' : Loc} {nx' : Ctr} {w' : World} {t : List AV} {tmps : Array Value} (m : Move L nx w L' nx' w') (h : TRel L X nx w t tmps) : TRel L' X nx' w' t tmps := Reps.move m h

theorem frzK_opt {α : Type} (n : Nat) (H : Heap) (v : AV) (ok : AV → List (Nat × Nat) → α) (bad : α) :
    frzK n H v ok bad = match frzK n H v (fun v i => some (v, i)) none with | some (v', i) => ok v' i | none => bad := by
  have := frzK_nat n H (fun o : Option (AV × List (Nat × Nat)) => match o with | some (v', i) => ok v' i | none => bad) v (fun v i => some (v, i)) none
  rw [this]
theorem keyIn_true {f d : Nat} : ∀ {ids : List (Nat × Nat)}, keyIn ids f d = true → (f, d) ∈ ids
  | [], h => by cases h
  | (f', d') :: ids, h => by
    simp only [keyIn] at h
    split at h
    · rename_i e; obtain ⟨rfl, rfl⟩ := e; exact List.mem_cons_self
    · exact List.mem_cons_of_mem _ (keyIn_true h)
theorem Rep.thaw (r : Rel w0 O X bm H nx w) (ids : List (Nat × Nat)) {v : AV} {val : Value} (h : Rep (Lof H bm) X nx w false v val) : Rep (Lof (kill ids H) bm) X nx w false (thaw ids H v) val := by
  obtain ⟨_, m⟩ := r.kill ids
  unfold Ev.thaw
  rw [frzK_opt]
  split
  · rename_i v' js hv
    obtain ⟨v2, ids2, he, _, hf⟩ := frz_ok r 9 v val _ _ h hv
    simp at he
    obtain ⟨rfl, rfl⟩ := he
    split
    · rename_i hall
      refine (hf _ nx (fun f d g b hL => ?_)).weak
      obtain ⟨⟨cs, h1⟩, rfl⟩ := hL
      obtain ⟨h2, h3⟩ := find_kill ids _ _ _ _ _ h1
      refine ⟨Lof.mk h2, fun hm => h3 ?_⟩
      exact keyIn_true (List.all_eq_true.1 hall _ hm)
    · exact h.move m
  · exact h.move m
theorem TRel.frzT (r : Rel w0 O X bm H nx w) (ids : List (Nat × Nat)) {t : List AV} {tmps : Array Value} (h : TRel (Lof H bm) X nx w t tmps) : TRel (Lof (kill ids H) bm) X nx w (frzT ids H t) tmps := by
  unfold TRel at h ⊢
  generalize tmps.toList = vs at h ⊢
  induction h with
  | nil => exact .nil
  | cons h1 _ ih => exact .cons (h1.thaw r ids) ih

/-- A call of a function that writes nothing that was there. -/
theorem call_pure {f : Nat} {vs : List AV} {rv : AV} (hp : PCalls P f vs rv) (r : Rel w0 O X bm H nx w) {as : List AV} {vals : List Value} (ha : Reps (Lof H bm) X nx w false as vals)
    {ids : List (Nat × Nat)} (hm : mapK (frzK 9 H) as (fun v i => some (v, i)) none = some (vs, ids)) :
    Calls P f vals.toArray w fun e w' => ∃ v, e = .returned v ∧ Rel w0 O X bm H nx w' ∧ Move (Lof H bm) nx w (Lof H bm) nx w' ∧ (scal rv = true → Closed rv v) ∧
      ∀ (L : Loc) nx', (∀ f d g b, L f d g b → Lof H bm f d g b ∧ (f, d) ∉ ids) → Rep L X nx' w' true rv v := by
  obtain ⟨cs', ids', he, _, _, hf⟩ := frz_map (fun v val α ok r' h1 h2 => frz_ok r 9 v val ok r' h1 h2) as vals _ _ ha hm
  simp at he
  obtain ⟨rfl, rfl⟩ := he
  let L0 : Loc := fun f d g b => Lof H bm f d g b ∧ (f, d) ∉ ids'
  have h0 := hf L0 zeroC (fun f d g b h => h)
  have hX : ∀ b, (X b ∨ ∃ f d g, L0 f d g b) → b < w.heap.size := by
    rintro b (hb | ⟨f, d, g, ⟨⟨cs, hcs⟩, rfl⟩, _⟩)
    · exact Nat.lt_of_lt_of_le (r.xlt b hb) r.size
    · obtain ⟨vs1, E1, h1, _⟩ := r.blk _ _ _ _ hcs
      rcases Nat.lt_or_ge (bm f d) w.heap.size with h2 | h2
      · exact h2
      · rw [Array.getElem?_eq_none h2] at h1; cases h1
  refine (hp.calls (fun b => X b ∨ ∃ f d g, L0 f d g b) w vals hX (h0.hide (fun b hb => hb))).mono ?_
  rintro e w' ⟨v, rfl, hb, hr⟩
  obtain ⟨r', m⟩ := r.grow hb.os hb.tape hb.output hb.size (fun b h => hb.block b h)
  exact ⟨v, rfl, r', m, fun hs => scal_closed hs hr, fun L nx' hL => hr.show (fun b h => .inl h) (fun f d g b h => .inr ⟨f, d, g, hL _ _ _ _ h⟩)⟩

theorem find_sel {H : Heap} : ∀ {ks : List (Nat × Nat)} {f d g : Nat} {b : Option (List AV)}, find (sel ks H) f d = some (g, b) → find H f d = some (g, b) ∧ keyIn ks f d = true
  | [], f, d, g, b, h => by simp [sel, find] at h
  | (f1, d1) :: ks, f, d, g, b, h => by
    simp only [sel] at h
    split at h
    · rename_i g1 b1 h1
      simp only [find] at h
      split at h
      · rename_i e
        obtain ⟨rfl, rfl⟩ := e
        simp at h; obtain ⟨rfl, rfl⟩ := h
        exact ⟨h1, by simp [keyIn]⟩
      · rename_i e
        obtain ⟨h2, h3⟩ := find_sel h
        exact ⟨h2, by simp only [keyIn, if_neg e]; exact h3⟩
    · obtain ⟨h2, h3⟩ := find_sel h
      refine ⟨h2, ?_⟩
      simp only [keyIn]; split
      · rfl
      · exact h3
theorem find_rest {ks : List (Nat × Nat)} : ∀ {H : Heap} {f d g : Nat} {b : Option (List AV)}, find (rest ks H) f d = some (g, b) → find H f d = some (g, b) ∧ keyIn ks f d = false
  | [], f, d, g, b, h => by simp [rest, find] at h
  | (f1, d1, g1, b1) :: H, f, d, g, b, h => by
    simp only [rest] at h
    split at h
    · rename_i hk
      obtain ⟨h2, h3⟩ := find_rest h
      refine ⟨?_, h3⟩
      simp only [find]
      rw [if_neg (fun e => by obtain ⟨rfl, rfl⟩ := e; rw [hk] at h3; cases h3)]
      exact h2
    · rename_i hk
      simp only [find] at h ⊢
      split at h
      · rename_i e
        rw [if_pos e]
        obtain ⟨rfl, rfl⟩ := e
        exact ⟨h, by simpa using hk⟩
      · rename_i e
        rw [if_neg e]
        exact find_rest h
theorem find_app {H1 H2 : Heap} {f d : Nat} : find (H1 ++ H2) f d = match find H1 f d with | some e => some e | none => find H2 f d := by
  induction H1 with
  | nil => rfl
  | cons e H1 ih =>
    obtain ⟨f1, d1, g1, b1⟩ := e
    simp only [List.cons_append, find]
    split
    · rfl
    · exact ih
/-- Among other entries that it does not name. -/
theorem Rep.merge {L Lm : Loc} {X X' : Nat → Prop} {nx : Ctr} {w : World} {Hr : Heap} {p : Bool} {x : AV} {v : Value} (h : Rep L X' nx w p x v) (hX : ∀ b, X b → X' b)
    (hL : ∀ f d g b, Lm f d g b → L f d g b ∨ (X' b ∧ ∃ cs, find Hr f d = some (g, some cs))) (hall : Hr = [] → ∀ f d g b, Lm f d g b → L f d g b) : (Hr = [] ∨ ∃ n, nameFree n Hr x = true) → Rep Lm X nx w p x v := by
  have av : ∀ b, (∀ f d g, ¬ L f d g b) → ¬ X' b → ∀ f d g, ¬ Lm f d g b := fun b h1 h2 f d g h => (hL f d g b h).elim (h1 f d g) (fun h => h2 h.1)
  have all : ∀ {n : Nat} {cs : List AV}, cs.all (nameFree n Hr) = true → ∀ (j : Nat) y, cs[j]? = some y → nameFree n Hr y = true := fun h j y hj => List.all_eq_true.1 h y (List.mem_of_getElem? hj)
  have nm : ∀ {f d g : Nat} {b : Nat}, (Hr = [] ∨ (match find Hr f d with | some (g', some _) => g' != g | _ => true) = true) → Lm f d g b → L f d g b := by
    intro f d g b h hb
    rcases h with h | h
    · exact hall h _ _ _ _ hb
    · rcases hL _ _ _ _ hb with h1 | ⟨_, cs, h1⟩
      · exact h1
      · rw [h1] at h; simp at h
  induction h with
  | any => exact fun _ => .any
  | int => exact fun _ => .int
  | bool => exact fun _ => .bool
  | str => exact fun _ => .str
  | nilp => exact fun _ => .nilp
  | nils => exact fun _ => .nils
  | nilm => exact fun _ => .nilm
  | nilf => exact fun _ => .nilf
  | nili => exact fun _ => .nili
  | ptr hg h =>
    intro hn
    refine .ptr hg (fun b hb => h b (nm ?_ hb))
    rcases hn with hn | ⟨n, hn⟩
    · exact .inl hn
    · cases n with
      | zero => cases hn
      | succ n => exact .inr hn
  | ro vv hc hr ho ih =>
    intro hn
    refine .ro vv hc (fun j y hj => ih j y hj ?_) (fun hne => ⟨av _ (ho hne).1 (ho hne).2.1, fun hx => (ho hne).2.1 (hX _ hx), (ho hne).2.2⟩)
    rcases hn with hn | ⟨n, hn⟩
    · exact .inl hn
    · cases n with
      | zero => cases hn
      | succ n => exact .inr ⟨n, all hn j y hj⟩
  | sl hg hl h =>
    intro hn
    refine .sl hg hl (fun b hb => h b (nm ?_ hb))
    rcases hn with hn | ⟨n, hn⟩
    · exact .inl hn
    · cases n with
      | zero => cases hn
      | succ n => exact .inr hn
  | fz0 a b => exact fun _ => .fz0 a b
  | fz vv a b c d e f h g ih =>
    intro hn
    refine .fz vv a b c d e (fun i y j z h1 h2 => ?_) h ⟨av _ g.1 g.2.1, fun hx => g.2.1 (hX _ hx), g.2.2⟩
    exact ((f i y j z h1 h2).hide (X' := fun b => X' b ∨ ∃ f d g, L f d g b) (fun b h => h)).show (fun b h => .inl (hX b h)) (fun f d g b h => (hL f d g b h).elim (fun h => .inr ⟨_, _, _, h⟩) (fun h => .inl h.1))
  | agg h hr ih =>
    intro hn
    refine .agg h (fun j y hj => ih j y hj ?_)
    rcases hn with hn | ⟨n, hn⟩
    · exact .inl hn
    · cases n with
      | zero => cases hn
      | succ n => exact .inr ⟨n, all hn j y hj⟩
  | tup h hr ih =>
    intro hn
    refine .tup h (fun j y hj => ih j y hj ?_)
    rcases hn with hn | ⟨n, hn⟩
    · exact .inl hn
    · cases n with
      | zero => cases hn
      | succ n => exact .inr ⟨n, all hn j y hj⟩
  | func h hr ih =>
    intro hn
    refine .func h (fun j y hj => ih j y hj ?_)
    rcases hn with hn | ⟨n, hn⟩
    · exact .inl hn
    · cases n with
      | zero => cases hn
      | succ n => exact .inr ⟨n, all hn j y hj⟩
  | ifc h ih =>
    intro hn
    refine .ifc (ih ?_)
    rcases hn with hn | ⟨n, hn⟩
    · exact .inl hn
    · cases n with
      | zero => cases hn
      | succ n => exact .inr ⟨n, hn⟩

/-- A part of the heap, the rest set aside. -/
theorem Rep.part {L L' : Loc} {X X' : Nat → Prop} {nx : Ctr} {w : World} {p : Bool} {x : AV} {v : Value} (h : Rep L X nx w p x v) (hL : ∀ f d g b, L' f d g b → L f d g b) (hX : ∀ b, X' b → X b ∨ ∃ f d g, L f d g b) : Rep L' X' nx w p x v := by
  induction h with
  | any => exact .any
  | int => exact .int
  | bool => exact .bool
  | str => exact .str
  | nilp => exact .nilp
  | nils => exact .nils
  | nilm => exact .nilm
  | nilf => exact .nilf
  | nili => exact .nili
  | ptr hg h => exact .ptr hg (fun b hb => h b (hL _ _ _ _ hb))
  | ro vv hc hr ho ih => exact .ro vv hc ih (fun hne => ⟨fun f d g h => (ho hne).1 f d g (hL _ _ _ _ h), fun hx => (hX _ hx).elim (ho hne).2.1 (fun ⟨f, d, g, h⟩ => (ho hne).1 f d g h), (ho hne).2.2⟩)
  | sl hg hl h => exact .sl hg hl (fun b hb => h b (hL _ _ _ _ hb))
  | fz0 a b => exact .fz0 a b
  | fz vv a b c d e f h g ih => exact .fz vv a b c d e ih h ⟨fun f d g' h => g.1 f d g' (hL _ _ _ _ h), fun hx => (hX _ hx).elim g.2.1 (fun ⟨f, d, g', h⟩ => g.1 f d g' h), g.2.2⟩
  | agg h hr ih => exact .agg h ih
  | tup h hr ih => exact .tup h ih
  | func h hr ih => exact .func h ih
  | ifc h ih => exact .ifc ih
theorem Reps.part {L L' : Loc} {X X' : Nat → Prop} {nx : Ctr} {w : World} {p : Bool} {xs : List AV} {vs : List Value} (h : Reps L X nx w p xs vs) (hL : ∀ f d g b, L' f d g b → L f d g b) (hX : ∀ b, X' b → X b ∨ ∃ f d g, L f d g b) : Reps L' X' nx w p xs vs := by
  induction h with
  | nil => exact .nil
  | cons h _ ih => exact .cons (h.part hL hX) ih
theorem heapFree_find {Hr : Heap} : ∀ {H : Heap} {f d g : Nat} {cs : List AV}, heapFree Hr H = true → find H f d = some (g, some cs) → cs.all (nameFree 9 Hr) = true
  | [], f, d, g, cs, _, h => by simp [find] at h
  | (f1, d1, g1, b1) :: H, f, d, g, cs, hf, h => by
    simp only [find] at h
    split at h
    · simp at h; obtain ⟨rfl, rfl⟩ := h
      simp only [heapFree, Bool.and_eq_true] at hf
      exact hf.1
    · cases b1 with
      | none => exact heapFree_find (by simpa only [heapFree] using hf) h
      | some cs1 => simp only [heapFree, Bool.and_eq_true] at hf; exact heapFree_find hf.2 h

/-- A call of a function that gets a part of the heap. -/
theorem call_heap {f : Nat} {ks : List (Nat × Nat)} {as : List AV} {vals : List Value} {rv : AV} {Hout : Heap} {nx' : Ctr} (hp : HCalls P f as (sel ks H) nx rv Hout nx') (r : Rel w0 O X bm H nx w) (ha : Reps (Lof H bm) X nx w false as vals)
    (hf : rest ks H = [] ∨ (nameFree 9 (rest ks H) rv = true ∧ heapFree (rest ks H) Hout = true)) :
    Calls P f vals.toArray w fun e w' => ∃ v bmm, e = .returned v ∧ Rel w0 O X bmm (Hout ++ rest ks H) nx' w' ∧ Move (Lof H bm) nx w (Lof (Hout ++ rest ks H) bmm) nx' w' ∧ Rep (Lof (Hout ++ rest ks H) bmm) X nx' w' false rv v := by
  have lt : ∀ {f d g : Nat} {cs : List AV}, find H f d = some (g, some cs) → bm f d < w.heap.size := by
    intro f d g cs h
    obtain ⟨vs1, E1, h1, _⟩ := r.blk _ _ _ _ h
    rcases Nat.lt_or_ge (bm f d) w.heap.size with h2 | h2
    · exact h2
    · rw [Array.getElem?_eq_none h2] at h1; cases h1
  have inS : ∀ f d g b, Lof (sel ks H) bm f d g b → Lof H bm f d g b := by
    rintro f d g b ⟨⟨cs, h⟩, rfl⟩; exact Lof.mk (find_sel h).1
  have inR : ∀ f d g b, Lof (rest ks H) bm f d g b → Lof H bm f d g b := by
    rintro f d g b ⟨⟨cs, h⟩, rfl⟩; exact Lof.mk (find_rest h).1
  have apart : ∀ {b : Nat}, Own (sel ks H) bm b → Own (rest ks H) bm b → False := by
    rintro b ⟨f1, d1, g1, cs1, h1, rfl⟩ ⟨f2, d2, g2, cs2, h2, he⟩
    obtain ⟨k1, k2⟩ := find_sel h1
    obtain ⟨k3, k4⟩ := find_rest h2
    obtain ⟨rfl, rfl⟩ := r.inj _ _ _ _ _ _ _ _ k1 k3 he
    rw [k2] at k4; cases k4
  have hX' : ∀ b, (X b ∨ Own (rest ks H) bm b) → X b ∨ ∃ f d g, Lof H bm f d g b := by
    rintro b (h | ⟨f, d, g, cs, h, rfl⟩)
    · exact .inl h
    · exact .inr ⟨f, d, g, Lof.mk (find_rest h).1⟩
  have hin : Rel w (Own (sel ks H) bm) (fun b => X b ∨ Own (rest ks H) bm b) bm (sel ks H) nx w := by
    refine ⟨?_, ?_, ?_, ?_, rfl, rfl, rfl, Nat.le_refl _, fun _ _ _ => rfl, ?_⟩
    · intro f d g cs h
      obtain ⟨vs, E, h1, h2, h3⟩ := r.blk _ _ _ _ (find_sel h).1
      exact ⟨vs, E, h1, h2, fun j x hx => ⟨(h3 j x hx).1.part inS hX', (h3 j x hx).2⟩⟩
    · intro f d g cs f' d' g' cs' h h'
      exact r.inj _ _ _ _ _ _ _ _ (find_sel h).1 (find_sel h').1
    · intro f d g b h; exact r.gen _ _ _ _ (find_sel h).1
    · intro f d g cs h
      refine ⟨.inr ⟨f, d, g, cs, h, rfl⟩, ?_⟩
      rintro (h1 | h1)
      · exact (r.own _ _ _ _ (find_sel h).1).2 h1
      · exact apart ⟨f, d, g, cs, h, rfl⟩ h1
    · rintro b (h | ⟨f, d, g, cs, h, rfl⟩)
      · exact Nat.lt_of_lt_of_le (r.xlt b h) r.size
      · exact lt (find_rest h).1
  refine (hp.calls (fun b => X b ∨ Own (rest ks H) bm b) w bm vals hin (ha.part inS hX')).mono ?_
  rintro e w' ⟨v, bm', rfl, rl, mv, rep⟩
  let bmm : Nat → Nat → Nat := fun f d => if (find Hout f d).isSome then bm' f d else bm f d
  have b1 : ∀ {f d : Nat} {q : Nat × Option (List AV)}, find Hout f d = some q → bmm f d = bm' f d := by intro f d q h; simp [bmm, h]
  have b2 : ∀ {f d : Nat}, find Hout f d = none → bmm f d = bm f d := by intro f d h; simp [bmm, h]
  have split2 : ∀ {f d g : Nat} {b : Option (List AV)}, find (Hout ++ rest ks H) f d = some (g, b) → (find Hout f d = some (g, b) ∧ bmm f d = bm' f d) ∨ (find Hout f d = none ∧ find (rest ks H) f d = some (g, b) ∧ bmm f d = bm f d) := by
    intro f d g b h
    rw [find_app] at h
    cases ho : find Hout f d with
    | none => rw [ho] at h; exact .inr ⟨rfl, h, b2 ho⟩
    | some q => rw [ho] at h; simp at h; subst h; exact .inl ⟨rfl, b1 ho⟩
  have lm : ∀ f d g b, Lof (Hout ++ rest ks H) bmm f d g b → Lof Hout bm' f d g b ∨ (find Hout f d = none ∧ Lof (rest ks H) bm f d g b) := by
    rintro f d g b ⟨⟨cs, h⟩, rfl⟩
    rcases split2 h with ⟨h1, h2⟩ | ⟨h1, h2, h3⟩
    · rw [h2]; exact .inl (Lof.mk h1)
    · rw [h3]; exact .inr ⟨h1, Lof.mk h2⟩
  have still : ∀ {f d g : Nat} {cs : List AV}, find (rest ks H) f d = some (g, some cs) → w'.heap[bm f d]? = w.heap[bm f d]? := by
    intro f d g cs h
    exact rl.keep _ (lt (find_rest h).1) (fun ho => apart ho ⟨f, d, g, cs, h, rfl⟩)
  have m : Move (Lof H bm) nx w (Lof (Hout ++ rest ks H) bmm) nx' w' := by
    refine ⟨mv.hnx, mv.size, fun f d g b h hg => ?_, fun f d g b h hg => ?_, fun a u hc hL => ?_, fun f d g b vs E h hg hb => ?_⟩
    · rcases lm _ _ _ _ h with h | ⟨_, h⟩
      · exact inS _ _ _ _ (mv.old _ _ _ _ h hg)
      · exact inR _ _ _ _ h
    · rcases lm _ _ _ _ h with h | ⟨_, h⟩
      · exact (mv.new _ _ _ _ h hg).imp id (fun ⟨f', d', g', h⟩ => ⟨f', d', g', inS _ _ _ _ h⟩)
      · exact .inr ⟨f, d, g, inR _ _ _ _ h⟩
    · have hl := World.block_lt_of_cell? w a hc
      rw [World.cell?_of_block (w := w) (rl.keep _ hl (fun ⟨f, d, g, cs, h, he⟩ => hL f d g (by rw [he]; exact Lof.mk (find_sel h).1)))]
      exact hc
    · rcases lm _ _ _ _ h with h | ⟨_, h⟩
      · exact mv.blk _ _ _ _ _ _ h hg hb
      · obtain ⟨⟨cs, hq⟩, rfl⟩ := h
        exact ⟨vs, by rw [still hq]; exact hb, rfl⟩
  have mg : ∀ {x : AV} {u : Value}, Rep (Lof Hout bm') (fun b => X b ∨ Own (rest ks H) bm b) nx' w' false x u → (rest ks H = [] ∨ ∃ n, nameFree n (rest ks H) x = true) → Rep (Lof (Hout ++ rest ks H) bmm) X nx' w' false x u := by
    intro x u hx hn
    refine hx.merge (fun b h => .inl h) (fun f d g b h => ?_) (fun h0 f d g b h => ?_) hn
    · rcases lm _ _ _ _ h with h | ⟨_, ⟨⟨cs, hq⟩, rfl⟩⟩
      · exact .inl h
      · exact .inr ⟨.inr ⟨f, d, g, cs, hq, rfl⟩, cs, hq⟩
    · rcases lm _ _ _ _ h with h | ⟨_, ⟨⟨cs, hq⟩, rfl⟩⟩
      · exact h
      · rw [h0] at hq; simp [find] at hq
  refine ⟨v, bmm, rfl, ⟨?_, ?_, ?_, ?_, rl.os.trans r.os, rl.tape.trans r.tape, rl.output.trans r.output, Nat.le_trans r.size rl.size, ?_, r.xlt⟩, m, mg rep (hf.imp id (fun h => ⟨9, h.1⟩))⟩
  · intro f d g cs h
    rcases split2 h with ⟨h1, h2⟩ | ⟨h1, h2, h3⟩
    · obtain ⟨vs, E, k1, k2, k3⟩ := rl.blk _ _ _ _ h1
      refine ⟨vs, E, by rw [h2]; exact k1, k2, fun j x hx => ⟨mg (k3 j x hx).1 (hf.imp id (fun hq => ⟨9, ?_⟩)), (k3 j x hx).2⟩⟩
      exact List.all_eq_true.1 (heapFree_find hq.2 h1) x (List.mem_of_getElem? hx)
    · obtain ⟨vs, E, k1, k2, k3⟩ := r.blk _ _ _ _ (find_rest h2).1
      exact ⟨vs, E, by rw [h3, still h2]; exact k1, k2, fun j x hx => ⟨(k3 j x hx).1.move m, (k3 j x hx).2⟩⟩
  · intro f d g cs f' d' g' cs' h h' he
    rcases split2 h with ⟨h1, h2⟩ | ⟨h1, h2, h3⟩ <;> rcases split2 h' with ⟨h1', h2'⟩ | ⟨h1', h2', h3'⟩
    · rw [h2, h2'] at he; exact rl.inj _ _ _ _ _ _ _ _ h1 h1' he
    · rw [h2, h3'] at he
      exact absurd (.inr ⟨f', d', g', cs', h2', he⟩) (rl.own _ _ _ _ h1).2
    · rw [h3, h2'] at he
      exact absurd (.inr ⟨f, d, g, cs, h2, he.symm⟩) (rl.own _ _ _ _ h1').2
    · rw [h3, h3'] at he; exact r.inj _ _ _ _ _ _ _ _ (find_rest h2).1 (find_rest h2').1 he
  · intro f d g b h
    rcases split2 h with ⟨h1, _⟩ | ⟨_, h2, _⟩
    · exact rl.gen _ _ _ _ h1
    · exact Nat.lt_of_lt_of_le (r.gen _ _ _ _ (find_rest h2).1) (mv.hnx _)
  · intro f d g cs h
    rcases split2 h with ⟨h1, h2⟩ | ⟨h1, h2, h3⟩
    · rw [h2]
      obtain ⟨k1, k2⟩ := rl.own _ _ _ _ h1
      refine ⟨?_, fun hx => k2 (.inl hx)⟩
      rcases k1 with k1 | ⟨f', d', g', cs', k3, k4⟩
      · exact .inl (Nat.le_trans r.size k1)
      · rw [k4]; exact (r.own _ _ _ _ (find_sel k3).1).1
    · rw [h3]; exact r.own _ _ _ _ (find_rest h2).1
  · intro b hb hO
    rw [rl.keep b (Nat.lt_of_lt_of_le hb r.size) (fun ⟨f, d, g, cs, h, he⟩ => ?_)]
    · exact r.keep b hb hO
    · rcases (r.own _ _ _ _ (find_sel h).1).1 with k | k
      · omega
      · exact hO (by rw [he]; exact k)

theorem wanted_true {ops : Array Oper} {o : Oper} {o' : Op} {t : List AV} {a : Act} (ht : TRel (Lof H bm) X nx w t a.tmps)
    (hgo : match o.guard with | none => o'.g = none | some (j, b) => ∃ t', (ops[j]?).bind (·.dst) = some t' ∧ o'.g = some (t', b))
    (hg : ∀ j w, o'.g = some (j, w) → getT t j = .bool w) : Region.wanted o (yielded ops a.tmps) = true := by
  unfold Region.wanted
  cases hgd : o.guard with
  | none => rfl
  | some q =>
    obtain ⟨j, b⟩ := q
    rw [hgd] at hgo
    obtain ⟨t', h1, h2⟩ := hgo
    have h3 := ht.get t'
    rw [hg _ _ h2] at h3
    simp only [yielded, h1, Option.bind_some, beq_iff_eq]
    cases h4 : a.tmps[t']? with
    | none => simp [Array.getD_eq_getD_getElem?, h4, undef] at h3; cases h3
    | some u => simp [Array.getD_eq_getD_getElem?, h4] at h3; cases h3; rfl
theorem wanted_false {ops : Array Oper} {o : Oper} {o' : Op} {t : List AV} {a : Act} (ht : TRel (Lof H bm) X nx w t a.tmps)
    (hgo : match o.guard with | none => o'.g = none | some (j, b) => ∃ t', (ops[j]?).bind (·.dst) = some t' ∧ o'.g = some (t', b))
    {j : Nat} {b : Bool} (hg : o'.g = some (j, b)) (hne : getT t j = .tup [] ∨ ∃ b', getT t j = .bool b' ∧ b' ≠ b) : Region.wanted o (yielded ops a.tmps) = false := by
  unfold Region.wanted
  cases hgd : o.guard with
  | none => rw [hgd] at hgo; rw [hgo] at hg; cases hg
  | some q =>
    obtain ⟨j', b1⟩ := q
    rw [hgd] at hgo
    obtain ⟨t', h1, h2⟩ := hgo
    rw [h2] at hg
    simp at hg
    obtain ⟨rfl, rfl⟩ := hg
    have h3 := ht.get t'
    simp only [yielded, h1, Option.bind_some, beq_eq_false_iff_ne]
    rcases hne with h | ⟨b', h, hb⟩
    · rw [h] at h3
      cases h4 : a.tmps[t']? with
      | none => simp
      | some u => simp [Array.getD_eq_getD_getElem?, h4] at h3; cases h3; simp
    · rw [h] at h3
      cases h4 : a.tmps[t']? with
      | none => simp
      | some u => simp [Array.getD_eq_getD_getElem?, h4] at h3; cases h3; simpa using hb

theorem Reps.cast {L : Loc} {p : Bool} {xs : List AV} {vs us : List Value} (h : Reps L X nx w p xs vs) (e : vs = us) : Reps L X nx w p xs us := e ▸ h

theorem map_nil_ids {H : Heap} {xs vs : List AV} (h : mapK (frzK 9 []) xs (fun v i => match i with | [] => some v | _ => none) none = some vs) : mapK (frzK 9 H) xs (fun v i => some (v, i)) none = some (vs, []) := by
  have h1 := mapF_nil (fun H v α ok r => frzK_nil 9 H v ok r) H xs _ _ h
  have h2 := mapF_nat (fun x : Option (List AV × List (Nat × Nat)) => match x with | some (v, i) => (match i with | [] => some v | _ => none) | none => none) 9 H xs (fun v i => some (v, i)) none
  simp only at h2
  rw [← h2] at h1
  cases hq : mapK (frzK 9 H) xs (fun v i => some (v, i)) none with
  | none => rw [hq] at h1; cases h1
  | some q =>
    obtain ⟨v, i⟩ := q
    rw [hq] at h1
    cases i with
    | nil => simp only [Option.some.injEq] at h1; rw [h1]
    | cons a i => cases h1
theorem compOp_inv {M : Nat → Nat} {cm : Nat → Nat} {ops : Array Oper} {o : Oper} {o' : Op} (h : compOp P M cm ops o = some o') :
    ∃ xs, compK P M cm o = some (o'.o, xs) ∧ arsOf xs = some o'.x ∧ o'.d = o.dst ∧ (match o.guard with | none => o'.g = none | some (j, b) => ∃ t', (ops[j]?).bind (·.dst) = some t' ∧ o'.g = some (t', b)) := by
  unfold compOp at h
  split at h
  · rename_i k xs hk
    split at h
    · rename_i as has
      split at h
      · rename_i hg
        simp at h; subst h
        exact ⟨xs, hk, has, rfl, by rw [hg]⟩
      · rename_i j b hg
        split at h
        · rename_i t' ht'
          simp at h; subst h
          exact ⟨xs, hk, has, rfl, by rw [hg]; exact ⟨t', ht', rfl⟩⟩
        · cases h
    · cases h
  · cases h

theorem compK_call {M : Nat → Nat} {cm : Nat → Nat} {o : Oper} {f m : Nat} {xs : List Operand} (h : compK P M cm o = some (.call f m, xs)) : ∃ c, o.op = .call c ∧ c.callee = .value (.func f) ∧ xs = c.args.toList := by
  unfold compK at h
  cases ho : o.op
  case call c =>
    rw [ho] at h
    simp only at h
    cases hc : c.callee with
    | value x =>
      rw [hc] at h
      cases x <;> simp at h
      obtain ⟨⟨rfl, rfl⟩, rfl⟩ := h
      exact ⟨c, rfl, hc, rfl⟩
    | builtin b =>
      rw [hc] at h
      simp only at h
      repeat' (split at h)
      all_goals simp at h
    | invoke r m => rw [hc] at h; simp at h
  all_goals
    rw [ho] at h
    simp only at h
    repeat' (split at h)
    all_goals first | (simp at h; done) | simp_all
theorem compK_callv {M : Nat → Nat} {cm : Nat → Nat} {o : Oper} {m : Nat} {xs : List Operand} (h : compK P M cm o = some (.callv m, xs)) : ∃ c x, o.op = .call c ∧ c.callee = .value x ∧ xs = x :: c.args.toList := by
  unfold compK at h
  cases ho : o.op
  case call c =>
    rw [ho] at h
    simp only at h
    cases hc : c.callee with
    | value x =>
      rw [hc] at h
      cases x <;> simp at h
      all_goals
        obtain ⟨rfl, rfl⟩ := h
        exact ⟨c, _, rfl, hc, rfl⟩
    | builtin b =>
      rw [hc] at h
      simp only at h
      repeat' (split at h)
      all_goals simp at h
    | invoke r m => rw [hc] at h; simp at h
  all_goals
    rw [ho] at h
    simp only at h
    repeat' (split at h)
    all_goals first | (simp at h; done) | simp_all

theorem run_callFunc_ok {f : Nat} (hok : fnOk P f = true) (args : Array Value) : (callFunc f args).run P w = .ok (.enter f args) w := by
  unfold fnOk at hok
  split at hok
  · rename_i fn hf
    simp at hok
    obtain ⟨b, hb⟩ := Option.isSome_iff_exists.1 hok.2
    simp [callFunc, hf, hok.1, hb]
  · cases hok
end
end Go.Ev
