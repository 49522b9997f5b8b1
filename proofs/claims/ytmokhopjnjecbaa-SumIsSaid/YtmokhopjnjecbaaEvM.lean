/- One compiled operation in the model; a region in whatever order. -/
import Derived.Test.YtmokhopjnjecbaaEvL
namespace Go.Ev
open Go.RowKit
set_option linter.unusedVariables false
set_option linter.unusedSimpArgs false
set_option linter.unusedSectionVars false

/-- A value that leads to no writable memory: what is hidden from it may change. -/
theorem Rep.hide {L : Loc} {X X' : Nat → Prop} {nx : Nat} {w : World} {x : AV} {v : Value} (h : Rep L X nx w true x v) (hX : ∀ b, X' b → X b ∨ ∃ f d g, L f d g b) : Rep none4 X' 0 w true x v := by
  generalize hp : true = p at h
  induction h with
  | any => subst hp; exact .any
  | int => subst hp; exact .int
  | bool => subst hp; exact .bool
  | str => subst hp; exact .str
  | nilp => subst hp; exact .nilp
  | nils => subst hp; exact .nils
  | nilm => subst hp; exact .nilm
  | nilf => subst hp; exact .nilf
  | nili => subst hp; exact .nili
  | ptr => cases hp
  | ro vv hc hr ho ih =>
    refine .ro vv hc (fun j x h => ih j x h hp) (fun hne => ?_)
    obtain ⟨h1, h2, h3⟩ := ho hne
    exact ⟨fun _ _ _ h => h, fun hx => (hX _ hx).elim h2 (fun ⟨f, d, g, h⟩ => h1 _ _ _ h), h3⟩
  | sl => cases hp
  | fz0 h hA => subst hp; exact .fz0 h hA
  | fz vv a b c d e f h g ih =>
    refine .fz vv a b c d e (fun i y j x h1 h2 => ih i y j x h1 h2 rfl) h ?_
    exact ⟨fun _ _ _ h => h, fun hx => (hX _ hx).elim g.2.1 (fun ⟨f, d, g', h⟩ => g.1 _ _ _ h), g.2.2⟩
  | agg h hr ih => exact .agg h (fun j x h => ih j x h hp)
  | tup h hr ih => exact .tup h (fun j x h => ih j x h hp)
  | func h hr ih => exact .func h (fun j x h => ih j x h hp)
  | ifc h ih => exact .ifc (ih hp)
theorem Rep.show {L : Loc} {X X' : Nat → Prop} {nx : Nat} {w : World} {x : AV} {v : Value} (h : Rep none4 X' 0 w true x v) (hX : ∀ b, X b → X' b) (hL : ∀ f d g b, L f d g b → X' b) : Rep L X nx w true x v := by
  generalize hp : true = p at h
  induction h with
  | any => subst hp; exact .any
  | int => subst hp; exact .int
  | bool => subst hp; exact .bool
  | str => subst hp; exact .str
  | nilp => subst hp; exact .nilp
  | nils => subst hp; exact .nils
  | nilm => subst hp; exact .nilm
  | nilf => subst hp; exact .nilf
  | nili => subst hp; exact .nili
  | ptr => cases hp
  | ro vv hc hr ho ih =>
    refine .ro vv hc (fun j x h => ih j x h hp) (fun hne => ?_)
    obtain ⟨h1, h2, h3⟩ := ho hne
    exact ⟨fun f d g h => h2 (hL _ _ _ _ h), fun hx => h2 (hX _ hx), h3⟩
  | sl => cases hp
  | fz0 h hA => subst hp; exact .fz0 h hA
  | fz vv a b c d e f h g ih =>
    refine .fz vv a b c d e (fun i y j x h1 h2 => ih i y j x h1 h2 rfl) h ?_
    exact ⟨fun f d g' h => g.2.1 (hL _ _ _ _ h), fun hx => g.2.1 (hX _ hx), g.2.2⟩
  | agg h hr ih => exact .agg h (fun j x h => ih j x h hp)
  | tup h hr ih => exact .tup h (fun j x h => ih j x h hp)
  | func h hr ih => exact .func h (fun j x h => ih j x h hp)
  | ifc h ih => exact .ifc (ih hp)
theorem Reps.hide {L : Loc} {X X' : Nat → Prop} {nx : Nat} {w : World} {xs : List AV} {vs : List Value} (h : Reps L X nx w true xs vs) (hX : ∀ b, X' b → X b ∨ ∃ f d g, L f d g b) : Reps none4 X' 0 w true xs vs := by
  induction h with
  | nil => exact .nil
  | cons h _ ih => exact .cons (h.hide hX) ih

theorem scal1_closed {x : AV} (hx : scal (.tup [x]) = true) {L : Loc} {X : Nat → Prop} {nx : Nat} {w : World} {p : Bool} {v : Value} (h : Rep L X nx w p x v) : Closed x v := by
  intro L' X' nx' w' p'
  cases h with
  | int => exact .int
  | bool => exact .bool
  | str => exact .str
  | nilp => exact .nilp
  | nils => exact .nils
  | nilm => exact .nilm
  | nilf => exact .nilf
  | nili => exact .nili
  | _ => simp [scal] at hx
theorem scal_closed {x : AV} (hx : scal x = true) {L : Loc} {X : Nat → Prop} {nx : Nat} {w : World} {p : Bool} {v : Value} (h : Rep L X nx w p x v) : Closed x v := by
  by_cases h1 : scal (.tup [x]) = true
  · exact scal1_closed h1 h
  · cases h with
    | tup hs hr =>
      intro L' X' nx' w' p'
      refine .tup hs (fun j y hj => ?_)
      have := hr j y hj
      refine scal1_closed ?_ this L' X' nx' w' p'
      simp only [scal, List.all_eq_true] at hx
      simp only [scal, List.all_cons, List.all_nil, Bool.and_true]
      exact hx y (List.mem_of_getElem? hj)
    | _ => first | (simp [scal] at hx; done) | (simp [scal] at h1; done)

/-- What a call of the function owns, and its temporaries. -/
structure St (w0 : World) (O X : Nat → Prop) (t : List AV) (H : Heap) (nx : Nat) (a : Act) (w : World) : Prop where
  defers : a.defers = []
  rel : ∃ bm, Rel w0 O X bm H nx w ∧ TRel (Lof H bm) X nx w t a.tmps

section
variable {P : Program} {w0 : World} {O X : Nat → Prop} {bm : Nat → Nat → Nat} {H : Heap} {nx : Nat} {w : World}

theorem Reps.setT {L : Loc} {p : Bool} {v : AV} {val : Value} (hv : Rep L X nx w p v val) : ∀ {t : List AV} {vs : List Value} (d : Nat), Reps L X nx w p t vs → Reps L X nx w p (setT t d v) (vs.set d val)
  | [], vs, d, h => by have := h.inv0; subst this; simpa [Ev.setT] using h
  | x :: t, vs, 0, h => by obtain ⟨u, us, rfl, h1, h2⟩ := h.inv; exact .cons hv h2
  | x :: t, vs, d + 1, h => by obtain ⟨u, us, rfl, h1, h2⟩ := h.inv; exact .cons h1 (Reps.setT hv d h2)
theorem TRel.put {L : Loc} {t : List AV} {a : Act} {v : AV} {val : Value} (h : TRel L X nx w t a.tmps) (hv : Rep L X nx w false v val) (d : Option Nat) : TRel L X nx w (put t d v) (a.put d val).tmps := by
  cases d with
  | none => exact h
  | some d =>
    show Reps _ _ _ _ _ _ (a.tmps.setIfInBounds d val).toList
    rw [Array.toList_setIfInBounds]
    exact Reps.setT hv d h
theorem put_defers (a : Act) (d : Option Nat) (v : Value) : (a.put d v).defers = a.defers := by cases d <;> rfl
theorem TRel.move {L L' : Loc} {nx' : Nat} {w' : World} {t : List AV} {tmps : Array Value} (m : Move L nx w L' nx' w') (h : TRel L X nx w t tmps) : TRel L' X nx' w' t tmps := Reps.move m h

/-- A call of a function that writes nothing that was there. -/
theorem call_pure {f : Nat} {vs : List AV} {rv : AV} (hp : PCalls P f vs rv) (r : Rel w0 O X bm H nx w) {as : List AV} {vals : List Value} (ha : Reps (Lof H bm) X nx w false as vals)
    {ids : List (Nat × Nat)} (hm : mapK (frzK 9 H) as (fun v i => some (v, i)) none = some (vs, ids)) :
    Calls P f vals.toArray w fun e w' => ∃ v, e = .returned v ∧ Rel w0 O X bm H nx w' ∧ Move (Lof H bm) nx w (Lof H bm) nx w' ∧ (scal rv = true → Closed rv v) ∧
      ∀ (L : Loc) nx', (∀ f d g b, L f d g b → Lof H bm f d g b ∧ (f, d) ∉ ids) → Rep L X nx' w' true rv v := by
  obtain ⟨cs', ids', he, _, _, hf⟩ := frz_map (fun v val α ok r' h1 h2 => frz_ok r 9 v val ok r' h1 h2) as vals _ _ ha hm
  simp at he
  obtain ⟨rfl, rfl⟩ := he
  let L0 : Loc := fun f d g b => Lof H bm f d g b ∧ (f, d) ∉ ids'
  have h0 := hf L0 0 (fun f d g b h => h)
  have hX : ∀ b, (X b ∨ ∃ f d g, L0 f d g b) → b < w.heap.size := by
    rintro b (hb | ⟨f, d, g, ⟨⟨cs, hcs⟩, rfl⟩, _⟩)
    · exact Nat.lt_of_lt_of_le (r.xlt b hb) r.size
    · obtain ⟨vs1, E1, h1, _⟩ := r.blk _ _ _ _ hcs
      rcases Nat.lt_or_ge (bm f d) w.heap.size with h2 | h2
      · exact h2
      · rw [Array.getElem?_eq_none h2] at h1; cases h1
  refine (hp.calls (fun b => X b ∨ ∃ f d g, L0 f d g b) w vals hX (h0.hide (fun b hb => hb))).mono ?_
  rintro e w' ⟨v, rfl, hb, hr⟩
  obtain ⟨r', m⟩ := r.grow hb.os hb.tape hb.output hb.size (fun b h => hb.block b h)
  exact ⟨v, rfl, r', m, fun hs => scal_closed hs hr, fun L nx' hL => hr.show (fun b h => .inl h) (fun f d g b h => .inr ⟨f, d, g, hL _ _ _ _ h⟩)⟩

theorem wanted_true {ops : Array Oper} {o : Oper} {o' : Op} {t : List AV} {a : Act} (ht : TRel (Lof H bm) X nx w t a.tmps)
    (hgo : match o.guard with | none => o'.g = none | some (j, b) => ∃ t', (ops[j]?).bind (·.dst) = some t' ∧ o'.g = some (t', b))
    (hg : ∀ j w, o'.g = some (j, w) → getT t j = .bool w) : Region.wanted o (yielded ops a.tmps) = true := by
  unfold Region.wanted
  cases hgd : o.guard with
  | none => rfl
  | some q =>
    obtain ⟨j, b⟩ := q
    rw [hgd] at hgo
    obtain ⟨t', h1, h2⟩ := hgo
    have h3 := ht.get t'
    rw [hg _ _ h2] at h3
    simp only [yielded, h1, Option.bind_some, beq_iff_eq]
    cases h4 : a.tmps[t']? with
    | none => simp [Array.getD_eq_getD_getElem?, h4, undef] at h3; cases h3
    | some u => simp [Array.getD_eq_getD_getElem?, h4] at h3; cases h3; rfl
theorem wanted_false {ops : Array Oper} {o : Oper} {o' : Op} {t : List AV} {a : Act} (ht : TRel (Lof H bm) X nx w t a.tmps)
    (hgo : match o.guard with | none => o'.g = none | some (j, b) => ∃ t', (ops[j]?).bind (·.dst) = some t' ∧ o'.g = some (t', b))
    {j : Nat} {b : Bool} (hg : o'.g = some (j, b)) (hne : getT t j = .tup [] ∨ ∃ b', getT t j = .bool b' ∧ b' ≠ b) : Region.wanted o (yielded ops a.tmps) = false := by
  unfold Region.wanted
  cases hgd : o.guard with
  | none => rw [hgd] at hgo; rw [hgo] at hg; cases hg
  | some q =>
    obtain ⟨j', b1⟩ := q
    rw [hgd] at hgo
    obtain ⟨t', h1, h2⟩ := hgo
    rw [h2] at hg
    simp at hg
    obtain ⟨rfl, rfl⟩ := hg
    have h3 := ht.get t'
    simp only [yielded, h1, Option.bind_some, beq_eq_false_iff_ne]
    rcases hne with h | ⟨b', h, hb⟩
    · rw [h] at h3
      cases h4 : a.tmps[t']? with
      | none => simp
      | some u => simp [Array.getD_eq_getD_getElem?, h4] at h3; cases h3; simp
    · rw [h] at h3
      cases h4 : a.tmps[t']? with
      | none => simp
      | some u => simp [Array.getD_eq_getD_getElem?, h4] at h3; cases h3; simpa using hb

theorem Reps.cast {L : Loc} {p : Bool} {xs : List AV} {vs us : List Value} (h : Reps L X nx w p xs vs) (e : vs = us) : Reps L X nx w p xs us := e ▸ h

theorem compOp_inv {M : Nat → Nat} {cm : Nat → Nat} {ops : Array Oper} {o : Oper} {o' : Op} (h : compOp P M cm ops o = some o') :
    ∃ xs, compK P M cm o = some (o'.o, xs) ∧ arsOf xs = some o'.x ∧ o'.d = o.dst ∧ (match o.guard with | none => o'.g = none | some (j, b) => ∃ t', (ops[j]?).bind (·.dst) = some t' ∧ o'.g = some (t', b)) := by
  unfold compOp at h
  split at h
  · rename_i k xs hk
    split at h
    · rename_i as has
      split at h
      · rename_i hg
        simp at h; subst h
        exact ⟨xs, hk, has, rfl, by rw [hg]⟩
      · rename_i j b hg
        split at h
        · rename_i t' ht'
          simp at h; subst h
          exact ⟨xs, hk, has, rfl, by rw [hg]; exact ⟨t', ht', rfl⟩⟩
        · cases h
    · cases h
  · cases h

theorem compK_call {M : Nat → Nat} {cm : Nat → Nat} {o : Oper} {f m : Nat} {xs : List Operand} (h : compK P M cm o = some (.call f m, xs)) : ∃ c, o.op = .call c ∧ c.callee = .value (.func f) ∧ xs = c.args.toList := by
  unfold compK at h
  cases ho : o.op
  case call c =>
    rw [ho] at h
    simp only at h
    cases hc : c.callee with
    | value x =>
      rw [hc] at h
      cases x <;> simp at h
      obtain ⟨⟨rfl, rfl⟩, rfl⟩ := h
      exact ⟨c, rfl, hc, rfl⟩
    | builtin b =>
      rw [hc] at h
      simp only at h
      repeat' (split at h)
      all_goals simp at h
    | invoke r m => rw [hc] at h; simp at h
  all_goals
    rw [ho] at h
    simp only at h
    repeat' (split at h)
    all_goals first | (simp at h; done) | simp_all
theorem compK_callv {M : Nat → Nat} {cm : Nat → Nat} {o : Oper} {m : Nat} {xs : List Operand} (h : compK P M cm o = some (.callv m, xs)) : ∃ c x, o.op = .call c ∧ c.callee = .value x ∧ xs = x :: c.args.toList := by
  unfold compK at h
  cases ho : o.op
  case call c =>
    rw [ho] at h
    simp only at h
    cases hc : c.callee with
    | value x =>
      rw [hc] at h
      cases x <;> simp at h
      all_goals
        obtain ⟨rfl, rfl⟩ := h
        exact ⟨c, _, rfl, hc, rfl⟩
    | builtin b =>
      rw [hc] at h
      simp only at h
      repeat' (split at h)
      all_goals simp at h
    | invoke r m => rw [hc] at h; simp at h
  all_goals
    rw [ho] at h
    simp only at h
    repeat' (split at h)
    all_goals first | (simp at h; done) | simp_all

theorem run_callFunc_ok {f : Nat} (hok : fnOk P f = true) (args : Array Value) : (callFunc f args).run P w = .ok (.enter f args) w := by
  unfold fnOk at hok
  split at hok
  · rename_i fn hf
    simp at hok
    obtain ⟨b, hb⟩ := Option.isSome_iff_exists.1 hok.2
    simp [callFunc, hf, hok.1, hb]
  · cases hok
end
end Go.Ev
