/- A compiled region in the model. -/
import Derived.Test.YtmokhopjnjecbaaEvM
namespace Go.Ev
open Go.RowKit
set_option linter.unusedVariables false
set_option linter.unusedSimpArgs false
set_option linter.unusedSectionVars false

section
variable {P : Program} {w0 : World} {O X : Nat → Prop} {L0 : Loc} {nx0 : Ctr} {H : Heap} {nx : Ctr} {w : World}

theorem op_wp {M : Nat → Nat} {cm : Nat → Nat} {ops : Array Oper} {i : Nat} {o : Oper} {o' : Op} (ho : ops[i]? = some o) (hc : compOp P M cm ops o = some o')
    {φ : Nat} {t t' : List AV} {H' : Heap} {nx' : Ctr} (hs : OpStep P φ o' t H nx t' H' nx') {a : Act} (st : St w0 O X L0 nx0 t H nx a w)
    {Q : Exit → Act → World → Prop} {K : Act → World → Prop} (hK : ∀ a' w', St w0 O X L0 nx0 t' H' nx' a' w' → K a' w') : wpOp P ops Q i K a w := by
  obtain ⟨xs, hk, has, hd, hgo⟩ := compOp_inv hc
  obtain ⟨hdef, bm, hrel, ht, hmv⟩ := st
  unfold wpOp
  simp only [ho]
  have hvs := evs_rep (a := a) ht has
  cases hs with
  | @skip j b b' hg hb hne =>
    rw [wanted_false ht hgo hg (.inr ⟨_, hb, hne⟩)]
    simp only [Bool.false_eq_true, if_false]
    exact hK _ _ ⟨by rw [put_defers]; exact hdef, bm, hrel, by rw [hd]; exact ht.put (.tup rfl (by simp)) _, hmv⟩
  | @skipU j b hg hb =>
    rw [wanted_false ht hgo hg (.inl hb)]
    simp only [Bool.false_eq_true, if_false]
    exact hK _ _ ⟨by rw [put_defers]; exact hdef, bm, hrel, by rw [hd]; exact ht.put (.tup rfl (by simp)) _, hmv⟩
  | @exec v _ _ hg h =>
    rw [wanted_true ht hgo hg]
    simp only [if_true]
    refine .inl ?_
    have hnc : ∀ f m, o'.o ≠ .call f m := by
      intro f m e; rw [e] at h; unfold opD opK at h
      split at h <;> simp_all
    have hncv : ∀ m, o'.o ≠ .callv m := by
      intro m e; rw [e] at h; unfold opD opK at h
      split at h <;> simp_all
    obtain ⟨n, v', w', bm', h1, h2, h3, h4, h5⟩ := op_sound hk hnc hncv hrel hvs h
    unfold Oper.wp
    rw [h1]
    have fin : ∀ u, Rep (Lof H' bm') X nx' w' false v u → St w0 O X L0 nx0 (put t o'.d v) H' nx' (a.put o.dst u) w' := fun u hu => ⟨by rw [put_defers]; exact hdef, bm', h3, by rw [hd]; exact (ht.move h4).put hu _, hmv.trans h4⟩
    rcases h2 with rfl | ⟨rfl, rfl⟩
    · rw [Oper.upon_value]; exact hK _ _ (fin _ h5)
    · rw [Oper.upon_skip]; exact hK _ _ (fin _ h5)
  | @call0 f vs ids rv hg hop hm hp hsc =>
    rw [wanted_true ht hgo hg]
    simp only [if_true]
    refine .inl ?_
    rw [hop] at hk
    obtain ⟨c, hoc, hcc, rfl⟩ := compK_call hk
    have he : (execOp a.eval o).run P w = .ok (.enter f (c.args.map a.eval)) w := by
      simp only [execOp, hoc, resolve, hcc, Act.eval, Deferred.ofValue, Sem.run_bind, Sem.run_pure, Result.andThen_ok, invoke]
      simp only [Array.empty_append, Array.append_empty]
      exact run_callFunc_ok hp.ok _
    unfold Oper.wp
    rw [he, Oper.upon_enter]
    have hcall := call_pure hp hrel (vals := (c.args.map a.eval).toList) (hvs.cast (by simp)) hm
    rw [Array.toArray_toList] at hcall
    refine hcall.mono ?_
    rintro e w' ⟨v, rfl, h3, h4, h5, h6⟩
    refine hK _ _ ⟨by rw [put_defers]; exact hdef, bm, h3, ?_, hmv.trans h4⟩
    rw [hd]
    refine (ht.move h4).put ?_ _
    rcases hsc with rfl | hsc
    · exact (h6 (Lof H bm) nx (fun f d g b h => ⟨h, by simp⟩)).weak
    · exact h5 hsc _ _ _ _ _
  | @call4 f vs rv hg hop hm4 hp =>
    have hm := map_nil_ids (H := H) hm4
    rw [wanted_true ht hgo hg]
    simp only [if_true]
    refine .inl ?_
    rw [hop] at hk
    obtain ⟨c, hoc, hcc, rfl⟩ := compK_call hk
    have he : (execOp a.eval o).run P w = .ok (.enter f (c.args.map a.eval)) w := by
      simp only [execOp, hoc, resolve, hcc, Act.eval, Deferred.ofValue, Sem.run_bind, Sem.run_pure, Result.andThen_ok, invoke]
      simp only [Array.empty_append, Array.append_empty]
      exact run_callFunc_ok hp.ok _
    unfold Oper.wp
    rw [he, Oper.upon_enter]
    have hcall := call_pure hp hrel (vals := (c.args.map a.eval).toList) (hvs.cast (by simp)) hm
    rw [Array.toArray_toList] at hcall
    refine hcall.mono ?_
    rintro e w' ⟨v, rfl, h3, h4, h5, h6⟩
    refine hK _ _ ⟨by rw [put_defers]; exact hdef, bm, h3, ?_, hmv.trans h4⟩
    rw [hd]
    refine (ht.move h4).put ?_ _
    exact (h6 (Lof H bm) nx (fun f d g b h => ⟨h, by simp⟩)).weak
  | @callv0 f caps as vs ids rv hg hop hx hm hp hsc =>
    rw [wanted_true ht hgo hg]
    simp only [if_true]
    refine .inl ?_
    rw [hop] at hk
    obtain ⟨c, x, hoc, hcc, rfl⟩ := compK_callv hk
    rw [hx] at hvs
    simp only [List.map_cons] at hvs
    obtain ⟨u, us, hu, hf, has'⟩ := hvs.inv
    simp only [List.cons.injEq] at hu
    obtain ⟨rfl, rfl⟩ := hu
    cases hfe : a.eval x with
    | func fn first caps' =>
      rw [hfe] at hf
      cases hf with
      | func hsz hr =>
        have he : (execOp a.eval o).run P w = .ok (.enter f (c.args.map a.eval ++ caps')) w := by
          simp only [execOp, hoc, resolve, hcc, hfe, Deferred.ofValue, Sem.run_bind, Sem.run_pure, Result.andThen_ok, invoke]
          simp only [Array.empty_append]
          exact run_callFunc_ok hp.ok _
        unfold Oper.wp
        rw [he, Oper.upon_enter]
        have hcaps : Reps (Lof H bm) X nx w false caps caps'.toList := Reps.of _ _ (by simpa using hsz) (fun j y hy => by have := hr j y hy; simpa [List.getD] using this)
        have hcall := call_pure hp hrel (vals := (c.args.map a.eval ++ caps').toList) ((has'.append hcaps).cast (by simp)) hm
        rw [Array.toArray_toList] at hcall
        refine hcall.mono ?_
        rintro e w' ⟨v, rfl, h3, h4, h5, h6⟩
        refine hK _ _ ⟨by rw [put_defers]; exact hdef, bm, h3, ?_, hmv.trans h4⟩
        rw [hd]
        refine (ht.move h4).put ?_ _
        rcases hsc with rfl | hsc
        · exact (h6 (Lof H bm) nx (fun f d g b h => ⟨h, by simp⟩)).weak
        · exact h5 hsc _ _ _ _ _
    | _ => rw [hfe] at hf; cases hf
  | @callv1 f caps as vs ids rv hg hop hx hm hp =>
    rw [wanted_true ht hgo hg]
    simp only [if_true]
    refine .inl ?_
    rw [hop] at hk
    obtain ⟨c, x, hoc, hcc, rfl⟩ := compK_callv hk
    rw [hx] at hvs
    simp only [List.map_cons] at hvs
    obtain ⟨u, us, hu, hf, has'⟩ := hvs.inv
    simp only [List.cons.injEq] at hu
    obtain ⟨rfl, rfl⟩ := hu
    cases hfe : a.eval x with
    | func fn first caps' =>
      rw [hfe] at hf
      cases hf with
      | func hsz hr =>
        have he : (execOp a.eval o).run P w = .ok (.enter f (c.args.map a.eval ++ caps')) w := by
          simp only [execOp, hoc, resolve, hcc, hfe, Deferred.ofValue, Sem.run_bind, Sem.run_pure, Result.andThen_ok, invoke]
          simp only [Array.empty_append]
          exact run_callFunc_ok hp.ok _
        unfold Oper.wp
        rw [he, Oper.upon_enter]
        have hcaps : Reps (Lof H bm) X nx w false caps caps'.toList := Reps.of _ _ (by simpa using hsz) (fun j y hy => by have := hr j y hy; simpa [List.getD] using this)
        have hcall := call_pure hp hrel (vals := (c.args.map a.eval ++ caps').toList) ((has'.append hcaps).cast (by simp)) hm
        rw [Array.toArray_toList] at hcall
        refine hcall.mono ?_
        rintro e w' ⟨v, rfl, h3, h4, h5, h6⟩
        obtain ⟨h7, h8⟩ := h3.kill ids
        refine hK _ _ ⟨by rw [put_defers]; exact hdef, bm, h7, ?_, (hmv.trans h4).trans h8⟩
        rw [hd]
        refine ((ht.move h4).move h8).put ?_ _
        refine (h6 (Lof (kill ids H) bm) nx (fun f d g b h => ?_)).weak
        obtain ⟨⟨cs, h⟩, rfl⟩ := h
        obtain ⟨h1, h2⟩ := find_kill ids _ _ _ _ _ h
        exact ⟨Lof.mk h1, h2⟩
    | _ => rw [hfe] at hf; cases hf
  | @call1 f vs ids rv hg hop hm hp =>
    rw [wanted_true ht hgo hg]
    simp only [if_true]
    refine .inl ?_
    rw [hop] at hk
    obtain ⟨c, hoc, hcc, rfl⟩ := compK_call hk
    have he : (execOp a.eval o).run P w = .ok (.enter f (c.args.map a.eval)) w := by
      simp only [execOp, hoc, resolve, hcc, Act.eval, Deferred.ofValue, Sem.run_bind, Sem.run_pure, Result.andThen_ok, invoke]
      simp only [Array.empty_append, Array.append_empty]
      exact run_callFunc_ok hp.ok _
    unfold Oper.wp
    rw [he, Oper.upon_enter]
    have hcall := call_pure hp hrel (vals := (c.args.map a.eval).toList) (hvs.cast (by simp)) hm
    rw [Array.toArray_toList] at hcall
    refine hcall.mono ?_
    rintro e w' ⟨v, rfl, h3, h4, h5, h6⟩
    obtain ⟨h7, h8⟩ := h3.kill ids
    refine hK _ _ ⟨by rw [put_defers]; exact hdef, bm, h7, ?_, (hmv.trans h4).trans h8⟩
    rw [hd]
    refine ((ht.move h4).move h8).put ?_ _
    refine (h6 (Lof (kill ids H) bm) nx (fun f d g b h => ?_)).weak
    obtain ⟨⟨cs, h⟩, rfl⟩ := h
    obtain ⟨h1, h2⟩ := find_kill ids _ _ _ _ _ h
    exact ⟨Lof.mk h1, h2⟩
  | @call3 f vs ids rv hg hop hm hp =>
    rw [wanted_true ht hgo hg]
    simp only [if_true]
    refine .inl ?_
    rw [hop] at hk
    obtain ⟨c, hoc, hcc, rfl⟩ := compK_call hk
    have he : (execOp a.eval o).run P w = .ok (.enter f (c.args.map a.eval)) w := by
      simp only [execOp, hoc, resolve, hcc, Act.eval, Deferred.ofValue, Sem.run_bind, Sem.run_pure, Result.andThen_ok, invoke]
      simp only [Array.empty_append, Array.append_empty]
      exact run_callFunc_ok hp.ok _
    unfold Oper.wp
    rw [he, Oper.upon_enter]
    have hcall := call_pure hp hrel (vals := (c.args.map a.eval).toList) (hvs.cast (by simp)) hm
    rw [Array.toArray_toList] at hcall
    refine hcall.mono ?_
    rintro e w' ⟨v, rfl, h3, h4, h5, h6⟩
    obtain ⟨h7, h8⟩ := h3.kill ids
    refine hK _ _ ⟨by rw [put_defers]; exact hdef, bm, h7, ?_, (hmv.trans h4).trans h8⟩
    rw [hd]
    refine (TRel.frzT h3 ids (ht.move h4)).put ?_ _
    refine (h6 (Lof (kill ids H) bm) nx (fun f d g b h => ?_)).weak
    obtain ⟨⟨cs, h⟩, rfl⟩ := h
    obtain ⟨h1, h2⟩ := find_kill ids _ _ _ _ _ h
    exact ⟨Lof.mk h1, h2⟩
  | @callv2 f caps as ks rv Hout nx2 hg hop hx hp hf =>
    rw [wanted_true ht hgo hg]
    simp only [if_true]
    refine .inl ?_
    rw [hop] at hk
    obtain ⟨c, x, hoc, hcc, rfl⟩ := compK_callv hk
    rw [hx] at hvs
    simp only [List.map_cons] at hvs
    obtain ⟨u, us, hu, hf0, has'⟩ := hvs.inv
    simp only [List.cons.injEq] at hu
    obtain ⟨rfl, rfl⟩ := hu
    cases hfe : a.eval x with
    | func fn first caps' =>
      rw [hfe] at hf0
      cases hf0 with
      | func hsz hr =>
        have he : (execOp a.eval o).run P w = .ok (.enter f (c.args.map a.eval ++ caps')) w := by
          simp only [execOp, hoc, resolve, hcc, hfe, Deferred.ofValue, Sem.run_bind, Sem.run_pure, Result.andThen_ok, invoke]
          simp only [Array.empty_append]
          exact run_callFunc_ok hp.ok _
        unfold Oper.wp
        rw [he, Oper.upon_enter]
        have hcaps : Reps (Lof H bm) X nx w false caps caps'.toList := Reps.of _ _ (by simpa using hsz) (fun j y hy => by have := hr j y hy; simpa [List.getD] using this)
        have hcall := call_heap hp hrel (vals := (c.args.map a.eval ++ caps').toList) ((has'.append hcaps).cast (by simp)) hf
        rw [Array.toArray_toList] at hcall
        refine hcall.mono ?_
        rintro e w' ⟨v, bmm, rfl, h3, h4, h5⟩
        refine hK _ _ ⟨by rw [put_defers]; exact hdef, bmm, h3, ?_, hmv.trans h4⟩
        rw [hd]
        exact (ht.move h4).put h5 _
    | _ => rw [hfe] at hf0; cases hf0
  | @call2 f ks rv Hout nx2 hg hop hp hf =>
    rw [wanted_true ht hgo hg]
    simp only [if_true]
    refine .inl ?_
    rw [hop] at hk
    obtain ⟨c, hoc, hcc, rfl⟩ := compK_call hk
    have he : (execOp a.eval o).run P w = .ok (.enter f (c.args.map a.eval)) w := by
      simp only [execOp, hoc, resolve, hcc, Act.eval, Deferred.ofValue, Sem.run_bind, Sem.run_pure, Result.andThen_ok, invoke]
      simp only [Array.empty_append, Array.append_empty]
      exact run_callFunc_ok hp.ok _
    unfold Oper.wp
    rw [he, Oper.upon_enter]
    have hcall := call_heap hp hrel (vals := (c.args.map a.eval).toList) (hvs.cast (by simp)) hf
    rw [Array.toArray_toList] at hcall
    refine hcall.mono ?_
    rintro e w' ⟨v, bmm, rfl, h3, h4, h5⟩
    refine hK _ _ ⟨by rw [put_defers]; exact hdef, bmm, h3, ?_, hmv.trans h4⟩
    rw [hd]
    exact (ht.move h4).put h5 _

/-- The operations of a region, compiled. -/
def compOps (P : Program) (M : Nat → Nat) (cm : Nat → Nat) (ops : Array Oper) : List Oper → Option (List Op)
  | [] => some []
  | o :: l => match compOp P M cm ops o, compOps P M cm ops l with
    | some x, some xs => some (x :: xs)
    | _, _ => none
theorem compOps_spec {M : Nat → Nat} {cm : Nat → Nat} {ops : Array Oper} : ∀ {l : List Oper} {l' : List Op}, compOps P M cm ops l = some l' → l'.length = l.length ∧ ∀ (i : Nat) o, l[i]? = some o → ∃ o', l'[i]? = some o' ∧ compOp P M cm ops o = some o'
  | [], l', h => by simp [compOps] at h; subst h; simp
  | o :: l, l', h => by
    simp only [compOps] at h
    split at h
    · rename_i x xs h1 h2
      simp at h; subst h
      obtain ⟨i1, i2⟩ := compOps_spec h2
      refine ⟨by simp [i1], fun i o' ho => ?_⟩
      cases i with
      | zero => simp at ho; subst ho; exact ⟨x, rfl, h1⟩
      | succ i => simp at ho; simpa using i2 i o' ho
    · cases h

/-- In the text's order. -/
theorem wpOps_run {M : Nat → Nat} {cm : Nat → Nat} {ops : Array Oper} {Q : Exit → Act → World → Prop} {φ : Nat} {t' : List AV} {H' : Heap} {nx' : Ctr} :
    ∀ (l : List Op) (is : List Nat) {t : List AV} {H : Heap} {nx : Ctr} {a : Act} {w : World}, is.length = l.length → (∀ (k : Nat) i, is[k]? = some i → ∃ o o', ops[i]? = some o ∧ l[k]? = some o' ∧ compOp P M cm ops o = some o') →
      OpsRun P φ l t H nx t' H' nx' → St w0 O X L0 nx0 t H nx a w → (∀ a' w', St w0 O X L0 nx0 t' H' nx' a' w' → Q .normal a' w') → wpOps P ops Q is a w
  | [], [], t, H, nx, a, w, _, _, hr, st, hQ => by cases hr; exact hQ _ _ st
  | [], _ :: _, t, H, nx, a, w, hl, _, _, _, _ => by simp at hl
  | _ :: _, [], t, H, nx, a, w, hl, _, _, _, _ => by simp at hl
  | x :: l, i :: is, t, H, nx, a, w, hl, hi, hr, st, hQ => by
    cases hr with
    | cons h k =>
      obtain ⟨o, o', h1, h2, h3⟩ := hi 0 i rfl
      simp at h2; subst h2
      rw [wpOps_cons]
      exact op_wp h1 h3 h st (fun a' w' st' => wpOps_run l is (by simpa using hl) (fun k j hj => hi (k + 1) j (by simpa using hj)) k st' hQ)

theorem region_text {M : Nat → Nat} {cm : Nat → Nat} {id : Nat} {ops : Array Oper} {l : List Op} (hc : compOps P M cm ops ops.toList = some l) {φ : Nat} {t t' : List AV} {H' : Heap} {nx' : Ctr}
    (hr : OpsRun P φ l t H nx t' H' nx') {a : Act} (st : St w0 O X L0 nx0 t H nx a w) {Q : Exit → Act → World → Prop} (hQ : ∀ a' w', St w0 O X L0 nx0 t' H' nx' a' w' → Q .normal a' w') : (Code.region id ops false).wp P Q a w := by
  obtain ⟨h1, h2⟩ := compOps_spec hc
  refine wp_region (wpOps_run (M := M) (cm := cm) l _ (by rw [h1]; simp) (fun k i hi => ?_) hr st hQ)
  have hk : k < ops.size := by have := (List.getElem?_eq_some_iff.1 hi).1; simpa using this
  rw [List.getElem?_range hk] at hi
  simp at hi; subst hi
  obtain ⟨o', h3, h4⟩ := h2 k ops[k] (by simp [hk])
  exact ⟨ops[k], o', by simp [hk], h3, h4⟩

/-- Those that are not drawn yet, in the text's order. -/
def pend (listed : Array Bool) : List (Op × Nat) → List Op
  | [] => []
  | (x, i) :: l => if listed.getD i true then pend listed l else x :: pend listed l
theorem pend_append (listed : Array Bool) : ∀ (l m : List (Op × Nat)), pend listed (l ++ m) = pend listed l ++ pend listed m
  | [], m => rfl
  | (x, i) :: l, m => by simp only [List.cons_append, pend]; split <;> simp [pend_append listed l m]
theorem mem_pend {listed : Array Bool} {x : Op} : ∀ {l : List (Op × Nat)}, x ∈ pend listed l → ∃ i, (x, i) ∈ l ∧ listed.getD i true = false
  | [], h => by simp [pend] at h
  | (y, i) :: l, h => by
    simp only [pend] at h
    split at h
    · obtain ⟨j, h1, h2⟩ := mem_pend h; exact ⟨j, List.mem_cons_of_mem _ h1, h2⟩
    · rename_i hl
      rcases List.mem_cons.1 h with rfl | h
      · exact ⟨i, List.mem_cons_self, by simpa using hl⟩
      · obtain ⟨j, h1, h2⟩ := mem_pend h; exact ⟨j, List.mem_cons_of_mem _ h1, h2⟩
theorem pend_set {listed : Array Bool} {i : Nat} : ∀ (l : List (Op × Nat)), (∀ y j, (y, j) ∈ l → j ≠ i) → pend (listed.setIfInBounds i true) l = pend listed l
  | [], _ => rfl
  | (y, j) :: l, h => by
    simp only [pend]
    rw [pend_set l (fun y j hj => h y j (List.mem_cons_of_mem _ hj)), getD_set_ne true (fun e => h y j (List.mem_cons_self) e.symm)]
theorem pend_nil {listed : Array Bool} : ∀ {l : List (Op × Nat)}, (∀ y j, (y, j) ∈ l → listed.getD j true = true) → pend listed l = []
  | [], _ => rfl
  | (y, j) :: l, h => by
    simp only [pend, h y j (List.mem_cons_self), if_true]
    exact pend_nil (fun y j hj => h y j (List.mem_cons_of_mem _ hj))

theorem mem_zipIdx {α : Type} {l : List α} {x : α} {i : Nat} (h : (x, i) ∈ l.zipIdx) : l[i]? = some x := by
  have := List.mem_zipIdx_iff_getElem?.1 h; simpa using this
theorem zipIdx_split {α : Type} {l : List α} {x : α} {i : Nat} (h : l[i]? = some x) : l.zipIdx = (l.take i).zipIdx ++ (x, i) :: (l.drop (i + 1)).zipIdx (i + 1) := by
  obtain ⟨hlt, hx⟩ := List.getElem?_eq_some_iff.1 h
  conv => lhs; rw [← List.take_append_drop i l, List.zipIdx_append, List.drop_eq_getElem_cons hlt, hx, List.zipIdx_cons]
  simp [Nat.min_eq_left (Nat.le_of_lt hlt)]
theorem mem_zipIdx_drop {α : Type} {l : List α} {x : α} {j k : Nat} (h : (x, j) ∈ (l.drop k).zipIdx k) : k ≤ j := (List.le_snd_of_mem_zipIdx h)
theorem mem_zipIdx_take {α : Type} {l : List α} {x : α} {j k : Nat} (h : (x, j) ∈ (l.take k).zipIdx) : j < k ∧ l[j]? = some x := by
  have h1 := mem_zipIdx h
  have hlt := (List.getElem?_eq_some_iff.1 h1).1
  simp at hlt
  rw [List.getElem?_take_of_lt (by omega)] at h1
  exact ⟨by omega, h1⟩

theorem wpAny_run {M : Nat → Nat} {cm : Nat → Nat} {ops : Array Oper} {l : List Op} (hc : compOps P M cm ops ops.toList = some l) (hd : drawnOk ops.toList l = true)
    {Q : Exit → Act → World → Prop} {φ : Nat} {t' : List AV} {H' : Heap} {nx' : Ctr} (hQ : ∀ a' w', St w0 O X L0 nx0 t' H' nx' a' w' → Q .normal a' w') :
    ∀ (fuel : Nat) (listed : Array Bool) {t : List AV} {H : Heap} {nx : Ctr} {a : Act} {w : World}, listed.size = ops.size →
      (∀ i, listed.getD i false = true → ∀ k, ((masks ops.toList []).getD i 0).testBit k = true → listed.getD k false = true) →
      (pend listed l.zipIdx).length ≤ fuel → OpsRun P φ (pend listed l.zipIdx) t H nx t' H' nx' → St w0 O X L0 nx0 t H nx a w → wpAny P .any ops Q fuel listed a w := by
  obtain ⟨hl1, hl2⟩ := compOps_spec hc
  simp only [drawnOk, Bool.and_eq_true] at hd
  obtain ⟨⟨hedge, hsel⟩, hgo⟩ := hd
  have hreadyMask : ∀ {listed : Array Bool}, (∀ i, listed.getD i false = true → ∀ k, ((masks ops.toList []).getD i 0).testBit k = true → listed.getD k false = true) → ∀ i, i ∈ Region.ready .any ops listed →
      ∀ k, ((masks ops.toList []).getD i 0).testBit k = true → listed.getD k false = true := by
    intro listed hcl i hi k hk
    obtain ⟨_, o, ho, hall⟩ := mem_ready.1 hi
    obtain ⟨e, he, hb, h3⟩ := mask_spec (ops := ops.toList) (by simpa using ho) hk
    have h4 := hall e (by simpa using he) hb
    rcases h3 with rfl | h3
    · exact h4
    · exact hcl _ h4 _ h3
  have hstep : ∀ (listed : Array Bool) (i : Nat), listed.size = ops.size → i ∈ Region.ready .any ops listed → (∀ i, listed.getD i false = true → ∀ k, ((masks ops.toList []).getD i 0).testBit k = true → listed.getD k false = true) →
      ∃ o o', ops[i]? = some o ∧ compOp P M cm ops o = some o' ∧ ∃ A B, pend listed l.zipIdx = A ++ o' :: B ∧ pend (listed.setIfInBounds i true) l.zipIdx = A ++ B ∧ ∀ a ∈ A, indep a o' = true := by
    intro listed i hsz hi hcl
    obtain ⟨hun, o, ho, hall⟩ := mem_ready.1 hi
    have hlt := (Array.getElem?_eq_some_iff.1 ho).1
    obtain ⟨o', ho', hco⟩ := hl2 i o (by simpa using ho)
    obtain ⟨x, hx, hfree⟩ := drawnGo_spec hgo i (by simpa using hlt)
    rw [ho'] at hx
    simp at hx; subst hx
    refine ⟨o, o', ho, hco, pend listed (l.take i).zipIdx, pend listed ((l.drop (i + 1)).zipIdx (i + 1)), ?_, ?_, ?_⟩
    · rw [zipIdx_split ho', pend_append]; simp only [pend, hun]; rfl
    · rw [zipIdx_split ho', pend_append]
      simp only [pend]
      have : (listed.setIfInBounds i true).getD i true = true := by simp
      rw [this, if_pos rfl, pend_set _ (fun y j hj => by have := (mem_zipIdx_take hj).1; omega), pend_set _ (fun y j hj => by have := mem_zipIdx_drop hj; omega)]
    · intro b hb
      obtain ⟨j, hj, hju⟩ := mem_pend hb
      obtain ⟨hji, hjl⟩ := mem_zipIdx_take hj
      rcases hfree j hji with h | ⟨y, hy, h⟩
      · have := hreadyMask hcl i hi j h
        rcases Nat.lt_or_ge j listed.size with h5 | h5
        · simp [h5] at this hju; rw [this] at hju; cases hju
        · simp [Array.getElem?_eq_none h5] at this
      · rw [hjl] at hy; simp at hy; subst hy; exact h
  have hready : ∀ (listed : Array Bool), listed.size = ops.size → Region.ready .any ops listed = [] → pend listed l.zipIdx = [] := by
    intro listed hsz hr
    refine pend_nil (fun y j hj => ?_)
    have key : ∀ n, ∀ j, j < n → j < ops.size → listed.getD j true = true := by
      intro n
      induction n with
      | zero => intro j h; omega
      | succ n ih =>
        intro j hj hjs
        by_cases hjn : j < n
        · exact ih j hjn hjs
        have hjn : j = n := by omega
        subst hjn
        by_cases hun : listed.getD j true = true
        · exact hun
        exfalso
        have : j ∈ Region.ready .any ops listed := by
          refine mem_ready.2 ⟨by simpa using hun, ops[j], by simp [hjs], fun e he hb => ?_⟩
          have h1 := List.all_eq_true.1 hedge (ops[j], j) (List.mem_zipIdx_iff_getElem?.2 (by simp [hjs]))
          have h1 := List.all_eq_true.1 h1 e (by simpa using he)
          simp [hb] at h1
          have h2 := ih e.on h1 (by omega)
          rw [Array.getD_eq_getD_getElem?] at h2 ⊢
          rw [Array.getElem?_eq_getElem (by omega)] at h2 ⊢
          exact h2
        rw [hr] at this; cases this
    have hlt := (List.getElem?_eq_some_iff.1 (mem_zipIdx hj)).1
    exact key (j + 1) j (by omega) (by rw [hl1] at hlt; simpa using hlt)
  intro fuel
  induction fuel with
  | zero =>
    intro listed t H nx a w hsz hcl hf hr st
    have h0 : pend listed l.zipIdx = [] := List.eq_nil_of_length_eq_zero (by omega)
    rw [h0] at hr
    cases hr
    refine ⟨?_, hQ _ _ st⟩
    cases hrd : Region.ready .any ops listed with
    | nil => rfl
    | cons i r =>
      obtain ⟨o, o', _, _, A, B, h1, _⟩ := hstep listed i hsz (by rw [hrd]; simp) hcl
      rw [h0] at h1; simp at h1
  | succ fuel ih =>
    intro listed t H nx a w hsz hcl hf hr st
    refine ⟨fun hrd => ?_, fun i hi => ?_⟩
    · rw [hready listed hsz hrd] at hr
      cases hr
      exact hQ _ _ st
    · obtain ⟨o, o', h1, h2, A, B, h3, h4, h5⟩ := hstep listed i hsz hi hcl
      rw [h3] at hr
      obtain ⟨t1, H1, nx1, hx, hk⟩ := bubble A h5 hr
      refine op_wp h1 h2 hx st (fun a' w' st' => ih _ (by simpa using hsz) (fun j hj k hk => ?_) ?_ (by rw [h4]; exact hk) st')
      · by_cases hji : j = i
        · subst hji
          exact getD_set_true (hreadyMask hcl j hi k hk)
        · rw [getD_set_ne false (fun e => hji e.symm)] at hj
          exact getD_set_true (hcl j hj k hk)
      · rw [h4]; rw [h3] at hf; simp at hf ⊢; omega

theorem region_drawn (hmix : P.follows .mixedOrders = true) {M : Nat → Nat} {cm : Nat → Nat} {id : Nat} {ops : Array Oper} {l : List Op} (hc : compOps P M cm ops ops.toList = some l) (hd : drawnOk ops.toList l = true) {φ : Nat} {t t' : List AV} {H' : Heap} {nx' : Ctr}
    (hr : OpsRun P φ l t H nx t' H' nx') {a : Act} (st : St w0 O X L0 nx0 t H nx a w) {Q : Exit → Act → World → Prop} (hQ : ∀ a' w', St w0 O X L0 nx0 t' H' nx' a' w' → Q .normal a' w') : (Code.region id ops true).wp P Q a w := by
  have hp : pend (Array.replicate ops.size false) l.zipIdx = l := by
    have key : ∀ (m : List Op) (s : Nat), s + m.length ≤ ops.size → pend (Array.replicate ops.size false) (m.zipIdx s) = m := by
      intro m
      induction m with
      | nil => intro s _; rfl
      | cons x m ih =>
        intro s hs
        simp only [List.length_cons] at hs
        have : (Array.replicate ops.size false).getD s true = false := by rw [Array.getD_eq_getD_getElem?, Array.getElem?_eq_getElem (by simp; omega)]; simp
        simp only [List.zipIdx_cons, pend, this, Bool.false_eq_true, if_false]
        rw [ih (s + 1) (by omega)]
    exact key l 0 (by have := (compOps_spec hc).1; simp at this; omega)
  refine wp_region_any hmix (wpAny_run hc hd hQ ops.size _ (by simp) (fun i hi => ?_) ?_ (by rw [hp]; exact hr) ?_)
  · exfalso
    rw [Array.getD_eq_getD_getElem?] at hi
    rcases Nat.lt_or_ge i ops.size with h | h
    · rw [Array.getElem?_eq_getElem (by simpa using h)] at hi; simp at hi
    · rw [Array.getElem?_eq_none (by simpa using h)] at hi; simp at hi
  · rw [hp]; have := (compOps_spec hc).1; simp at this; omega
  · obtain ⟨hdef, bm, h1, h2, hmv⟩ := st
    obtain ⟨r', m⟩ := h1.grow (w' := { w with drawn := w.drawn + 1 }) rfl rfl rfl (Nat.le_refl _) (fun _ _ => rfl)
    exact ⟨hdef, bm, r', h2.move m, hmv.trans m⟩
end
end Go.Ev
