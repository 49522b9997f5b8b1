/- The compiled operation does what the model's does. -/
import Derived.Test.YtmokhopjnjecbaaEvI
namespace Go.Ev
open Go.RowKit
set_option linter.unusedVariables false
set_option linter.unusedSimpArgs false
set_option linter.unusedSectionVars false

section
variable {P : Program} {w0 : World} {O X : Nat → Prop} {bm : Nat → Nat → Nat} {H : Heap} {nx : Ctr} {w : World}

theorem zip_map_fst_snd {α β : Type} (l : List (α × β)) : (l.map Prod.fst).zip (l.map Prod.snd) = l := by
  induction l with
  | nil => rfl
  | cons a l ih => simp [ih]
theorem parts_eq (ρ : Operand → Value) (ps : Array (Nat × Operand)) : (ps.map fun (i, x) => (i, ρ x)) = ((ps.toList.map Prod.fst).zip ((ps.toList.map Prod.snd).map ρ)).toArray := by
  apply Array.ext'
  simp only [Array.toList_map]
  induction ps.toList with
  | nil => rfl
  | cons a l ih => simp [ih]
theorem places_spec : ∀ {fs : Array Field} {is : List Nat} {pl : List (Nat × Nat)}, places P fs is = some pl → pl.length = is.length ∧ (∀ q ∈ pl, q.2 ≠ 0) ∧ ∀ (k : Nat) i, is[k]? = some i → ∃ f n, fs[i]? = some f ∧ szOf P f.type = some n ∧ pl[k]? = some (f.offset, n)
  | fs, [], pl, h => by simp [places] at h; subst h; exact ⟨rfl, by simp, by simp⟩
  | fs, i :: is, pl, h => by
    simp only [places] at h
    split at h
    · rename_i f r hf hr
      split at h
      · rename_i n hn
        split at h
        · cases h
        · rename_i h0
          simp at h; subst h
          obtain ⟨i1, i2, i3⟩ := places_spec hr
          refine ⟨by simp [i1], fun q hq => ?_, fun k j hk => ?_⟩
          · rcases List.mem_cons.1 hq with rfl | hq
            · exact h0
            · exact i2 q hq
          · cases k with
            | zero => simp at hk; subst hk; exact ⟨f, n, hf, hn, rfl⟩
            | succ k => simp at hk; simpa using i3 k j hk
      · cases h
    · cases h
/-- All fields' sizes are known. -/
theorem run_places (fs : Array Field) (h : ∀ f ∈ fs, ∃ i, P.info? f.type = some i) (w : World) :
    (fs.mapM fun f => do pure (f.offset, ← sizeOf f.type) : Sem (Array (Nat × Nat))).run P w = .ok (fs.map fun f => (f.offset, P.cellsOf f.type)) w := by
  have key : ∀ (l : List Field), (∀ f ∈ l, ∃ i, P.info? f.type = some i) → (l.mapM fun f => do pure (f.offset, ← sizeOf f.type) : Sem (List (Nat × Nat))).run P w = .ok (l.map fun f => (f.offset, P.cellsOf f.type)) w := by
    intro l
    induction l with
    | nil => intro _; rfl
    | cons f l ih =>
      intro h
      obtain ⟨i, hi⟩ := h f (List.mem_cons_self)
      have ih := ih (fun g hg => h g (List.mem_cons_of_mem _ hg))
      simp only [List.mapM_cons, Sem.run_bind, run_sizeOf hi, Result.andThen_ok, Sem.run_pure, ih, List.map_cons, Program.cellsOf, hi, Option.map_some, Option.getD_some]
  rw [Array.mapM_eq_mapM_toList]
  simp only [Sem.run_map, key fs.toList (fun f hf => h f (by simpa using hf)), Result.andThen_ok]
  congr 1
  apply Array.ext'
  simp

set_option maxHeartbeats 1600000 in
theorem op_sound {M : Nat → Nat} {cm : Nat → Nat} {o : Oper} {k : AK} {xs : List Operand} (hk : compK P M cm o = some (k, xs)) (hcall : ∀ f m, k ≠ .call f m) (hcallv : ∀ m, k ≠ .callv m)
    (r : Rel w0 O X bm H nx w) {ρ : Operand → Value} {vs : List AV} (hr : Reps (Lof H bm) X nx w false vs (xs.map ρ)) {φ : Nat} {v : AV} {H' : Heap} {nx' : Ctr}
    (h : opK k vs H nx φ (fun v H nx => some (v, H, nx)) none = some (v, H', nx')) : Done P w0 O X bm H nx w (execOp ρ o) v H' nx' := by
  have inv1 : ∀ {x : Operand}, xs = [x] → ∃ a, vs = [a] ∧ Rep (Lof H bm) X nx w false a (ρ x) := by
    intro x hx; subst hx
    cases hr with | cons q1 t => cases t; exact ⟨_, rfl, q1⟩
  have inv2 : ∀ {x y : Operand}, xs = [x, y] → ∃ a b, vs = [a, b] ∧ Rep (Lof H bm) X nx w false a (ρ x) ∧ Rep (Lof H bm) X nx w false b (ρ y) := by
    intro x y hx; subst hx
    cases hr with | cons q1 t => cases t with | cons q2 t => cases t; exact ⟨_, _, rfl, q1, q2⟩
  unfold compK at hk
  cases ho : o.op with
  | move x =>
    rw [ho] at hk; simp at hk; obtain ⟨rfl, rfl⟩ := hk
    obtain ⟨a, rfl, h1⟩ := inv1 rfl
    simp [opK] at h; obtain ⟨rfl, rfl, rfl⟩ := h
    exact ⟨.value (ρ x), ρ x, w, bm, by simp [execOp, ho], .inl rfl, r, Move.refl _ _ _, h1⟩
  | assign x =>
    rw [ho] at hk; simp at hk; obtain ⟨rfl, rfl⟩ := hk
    obtain ⟨a, rfl, h1⟩ := inv1 rfl
    simp [opK] at h; obtain ⟨rfl, rfl, rfl⟩ := h
    exact ⟨.value (ρ x), ρ x, w, bm, by simp [execOp, ho], .inl rfl, r, Move.refl _ _ _, h1⟩
  | pick c x y =>
    rw [ho] at hk; simp at hk; obtain ⟨rfl, rfl⟩ := hk
    obtain ⟨c1, a, b, rfl, h1, h2, h3⟩ : ∃ c1 a b, vs = [c1, a, b] ∧ Rep (Lof H bm) X nx w false c1 (ρ c) ∧ Rep (Lof H bm) X nx w false a (ρ x) ∧ Rep (Lof H bm) X nx w false b (ρ y) := by
      cases hr with | cons q1 t => cases t with | cons q2 t => cases t with | cons q3 t => cases t; exact ⟨_, _, _, rfl, q1, q2, q3⟩
    simp only [opK] at h
    split at h
    · rename_i p
      generalize hc : ρ c = u at h1
      cases h1
      split at h <;> rename_i hp <;> simp at h <;> obtain ⟨rfl, rfl, rfl⟩ := h
      · exact ⟨.value (ρ x), ρ x, w, bm, by simp [execOp, ho, hc, asBool, hp], .inl rfl, r, Move.refl _ _ _, h2⟩
      · exact ⟨.value (ρ y), ρ y, w, bm, by simp [execOp, ho, hc, asBool, hp], .inl rfl, r, Move.refl _ _ _, h3⟩
    · cases h
  | alloc t =>
    rw [ho] at hk; simp only at hk
    split at hk
    · rename_i z d hz hd
      simp at hk; obtain ⟨rfl, rfl⟩ := hk
      obtain ⟨i, zv, hi, hzv, hzs, hzl, hzr⟩ := zeroOf_info hz
      cases hr
      have := (ok_new (P := P) r t i hi zv hzv z hzl hzr d h).done
      simpa [execOp, ho] using this
    · cases hk
  | box t x =>
    rw [ho] at hk; simp only at hk
    split at hk
    · rename_i d hd
      split at hk <;> simp at hk <;> obtain ⟨rfl, rfl⟩ := hk <;> obtain ⟨a, rfl, h1⟩ := inv1 rfl
      · have := (ok_boxm (P := P) r t d a _ h1 h).done
        simpa [execOp, ho] using this
      · have := (ok_box (P := P) r t a _ h1 h).done
        simpa [execOp, ho] using this
    · cases hk
  | build t ps =>
    rw [ho] at hk; simp only at hk
    split at hk
    · rename_i fs hu
      split at hk
      case h_2 => cases hk
      rename_i z pl hz hpl
      split at hk
      case isFalse => cases hk
      rename_i hall
      have hfields : ∀ f ∈ fs, ∃ i, P.info? f.type = some i := by
        intro f hf
        have := Array.all_eq_true_iff_forall_mem.1 hall f hf
        exact Option.isSome_iff_exists.1 this
      simp only [Option.some.injEq, Prod.mk.injEq] at hk; obtain ⟨rfl, rfl⟩ := hk
      obtain ⟨i, zv, hi, hzv, hzs, hzl, hzr⟩ := zeroOf_info hz
      obtain ⟨p1, p2, p3⟩ := places_spec hpl
      have hrun := run_places (P := P) fs hfields w
      have hfin : ∀ (k : Nat) q, (ps.toList.map Prod.fst)[k]? = some q → (fs.map fun f => (f.offset, P.cellsOf f.type))[q]? = pl[k]? := by
        intro k q hkq
        obtain ⟨f, n, hf, hn, hp⟩ := p3 k q hkq
        obtain ⟨i2, hi2, rfl⟩ := szOf_info hn
        rw [hp]; simp [hf, Program.cellsOf, hi2]
      have hz2 : ((fs.map (·.offset)).zip (fs.map fun f => P.cellsOf f.type)) = (fs.map fun f => (f.offset, P.cellsOf f.type)) := by
        apply Array.ext
        · simp
        · intro j h1 h2; simp
      have := (ok_bld (P := P) r t i hi zv hzv z hzl hzr fs hu (fs.map fun f => P.cellsOf f.type) (by rw [hz2]; exact hrun) pl (ps.toList.map Prod.fst) p1 (by rw [hz2]; exact hfin) p2 vs _ hr h).done
      rw [← parts_eq] at this
      simpa [execOp, ho] using this
    · rename_i len e hu
      split at hk
      case h_2 => cases hk
      rename_i z n hz hn
      split at hk
      · cases hk
      rename_i hn0
      simp only [Option.some.injEq, Prod.mk.injEq] at hk; obtain ⟨rfl, rfl⟩ := hk
      obtain ⟨i, zv, hi, hzv, hzs, hzl, hzr⟩ := zeroOf_info hz
      obtain ⟨ie, hie, rfl⟩ := szOf_info hn
      have := (ok_bldA (P := P) r t i hi zv hzv z hzl hzr len e hu ie hie hn0 (ps.toList.map Prod.fst) vs _ hr h).done
      rw [← parts_eq] at this
      simpa [execOp, ho] using this
    · cases hk
  | buildSlice t len ps =>
    rw [ho] at hk; simp only at hk
    split at hk
    · rename_i e hu
      split at hk
      · rename_i n z d hn hz hd
        split at hk
        · rename_i hc
          obtain ⟨hn0, hbig, hps⟩ := hc
          obtain ⟨i, hi, rfl⟩ := szOf_info hn
          obtain ⟨i', zv, hi', hzv, hzs, hzl, hzr⟩ := zeroOf_info hz
          rw [hi] at hi'; cases hi'
          have hlr := fun h => (ok_litr (P := P) (φ := φ) (v := v) (H' := H') (nx' := nx') r t e hu i hi zv hzv hn0 len hbig vs _ hr h).done
          split at hk
          case isFalse =>
            split at hk <;> simp at hk <;> obtain ⟨rfl, rfl⟩ := hk
            · have := hlr h
              rw [← hps, ← parts_eq] at this
              simpa [execOp, ho] using this
            · have := (ok_lit (P := P) r t e hu i hi zv hzv hn0 len hbig vs _ hr h).done
              rw [← hps, ← parts_eq] at this
              simpa [execOp, ho] using this
          simp at hk; obtain ⟨rfl, rfl⟩ := hk
          · have := (ok_litm (P := P) r t e hu i hi zv hzv hn0 len d hbig vs _ hr h).done
            rw [← hps, ← parts_eq] at this
            simpa [execOp, ho] using this
        · cases hk
      · cases hk
    · cases hk
  | load t x =>
    rw [ho] at hk; simp only at hk
    split at hk
    case h_3 => cases hk
    · rename_i n ha hn
      have hk2 : (k = .ldnr n ∨ k = .ldn n ∨ ∃ q, k = .ldnk n q) ∧ xs = [x] := by
        split at hk
        · split at hk
          · simp at hk; exact ⟨.inr (.inr ⟨_, hk.1.symm⟩), hk.2.symm⟩
          · simp at hk; exact ⟨.inl hk.1.symm, hk.2.symm⟩
        · simp at hk; exact ⟨.inr (.inl hk.1.symm), hk.2.symm⟩
      clear hk
      obtain ⟨hk2, rfl⟩ := hk2
      replace h : opK (.ldn n) vs H nx φ (fun v H nx => some (v, H, nx)) none = some (v, H', nx') := by
        rcases hk2 with rfl | rfl | ⟨q, rfl⟩
        · obtain ⟨a, rfl, _⟩ := inv1 rfl
          cases a <;> simp only [opK] at h ⊢ <;> first | exact h | (cases h; done)
        · exact h
        · obtain ⟨a, rfl, _⟩ := inv1 rfl
          cases a with
          | ptr f d g off =>
            simp only [opK] at h ⊢
            split at h
            · exact h
            · cases h
          | _ => simp only [opK] at h; cases h
      obtain ⟨i, hi, rfl⟩ := szOf_info hn
      obtain ⟨D, hD, hD2⟩ := isAgg_true ha
      obtain ⟨a, rfl, h1⟩ := inv1 rfl
      have := (ok_ldn (P := P) r t D hD hD2 i hi a _ h1 h).done
      simpa [execOp, ho] using this
    · rename_i ha
      have hk2 : (k = .ld1r ∨ k = .ld1 ∨ ∃ q, k = .ldk q) ∧ xs = [x] := by
        split at hk
        · split at hk
          · simp at hk; exact ⟨.inr (.inr ⟨_, hk.1.symm⟩), hk.2.symm⟩
          · simp at hk; exact ⟨.inl hk.1.symm, hk.2.symm⟩
        · simp at hk; exact ⟨.inr (.inl hk.1.symm), hk.2.symm⟩
      clear hk
      obtain ⟨hk2, rfl⟩ := hk2
      replace h : opK .ld1 vs H nx φ (fun v H nx => some (v, H, nx)) none = some (v, H', nx') := by
        rcases hk2 with rfl | rfl | ⟨q, rfl⟩
        · obtain ⟨a, rfl, _⟩ := inv1 rfl
          cases a with
          | ro cs => cases cs <;> simp only [opK] at h ⊢ <;> first | exact h | (cases h; done)
          | _ => simp only [opK] at h; cases h
        · exact h
        · obtain ⟨a, rfl, _⟩ := inv1 rfl
          cases a with
          | ptr f d g off =>
            simp only [opK] at h ⊢
            split at h
            · exact h
            · cases h
          | _ => simp only [opK] at h; cases h
      obtain ⟨D, hD, hD2⟩ := isAgg_false ha
      obtain ⟨a, rfl, h1⟩ := inv1 rfl
      have := (ok_ld1 (P := P) r t D hD hD2 a _ h1 h).done
      simpa [execOp, ho] using this
  | store t x y =>
    rw [ho] at hk; simp only at hk
    split at hk
    · rename_i n hn
      split at hk
      · cases hk
      · rename_i h0
        have hk2 : (k = .st n ∨ ∃ q, k = .stk n q) ∧ xs = [x, y] := by
          split at hk
          · simp at hk; exact ⟨.inr ⟨_, hk.1.symm⟩, hk.2.symm⟩
          · simp at hk; exact ⟨.inl hk.1.symm, hk.2.symm⟩
        obtain ⟨hk3, rfl⟩ := hk2
        obtain ⟨i, hi, rfl⟩ := szOf_info hn
        obtain ⟨a, b, rfl, h1, h2⟩ := inv2 rfl
        have h' : opK (.st i.size) [a, b] H nx φ (fun v H nx => some (v, H, nx)) none = some (v, H', nx') := by
          rcases hk3 with rfl | ⟨q, rfl⟩
          · exact h
          · unfold opK at h ⊢
            simp only at h ⊢
            split at h
            · split at h
              · exact h
              · cases h
            · cases h
        obtain ⟨w', bm', e1, e2, e3, rfl⟩ := ok_st r t i hi a b _ _ h1 h2 h0 h'
        exact ⟨.skip, undef, w', bm', by simp [execOp, ho, e1], .inr ⟨rfl, rfl⟩, e2, e3, .any⟩
    · cases hk
  | nilCheck x =>
    rw [ho] at hk; simp at hk; obtain ⟨rfl, rfl⟩ := hk
    obtain ⟨a, rfl, h1⟩ := inv1 rfl
    obtain ⟨w', bm', e1, e2, e3, e4⟩ := ok_nck r a _ h1 h o ρ x ho rfl
    exact ⟨_, _, w', bm', e1, .inl rfl, e2, e3, e4⟩
  | binOp op t x y yt =>
    rw [ho] at hk; simp only at hk
    have ex : execOp ρ o = (do pure (.value (← (do eqGuard op t x y (ρ x) (ρ y); binOp op t (ρ x) (ρ y))))) := by simp [execOp, ho]
    rw [ex]
    split at hk
    · simp at hk; obtain ⟨rfl, rfl⟩ := hk
      obtain ⟨a, b, rfl, h1, h2⟩ := inv2 rfl
      exact (ok_int (P := P) r op t a b _ _ h1 h2 h x y).done
    · simp at hk; obtain ⟨rfl, rfl⟩ := hk
      obtain ⟨a, b, rfl, h1, h2⟩ := inv2 rfl
      exact (ok_int (P := P) r op t a b _ _ h1 h2 h x y).done
    · rename_i hu
      split at hk <;> simp at hk <;> obtain ⟨rfl, rfl⟩ := hk <;> obtain ⟨a, b, rfl, h1, h2⟩ := inv2 rfl
      · exact (ok_eqb (P := P) r false t hu a b _ _ h1 h2 h x y).done
      · exact (ok_eqb (P := P) r true t hu a b _ _ h1 h2 h x y).done
    · rename_i hu
      split at hk <;> simp at hk <;> obtain ⟨rfl, rfl⟩ := hk <;> obtain ⟨a, b, rfl, h1, h2⟩ := inv2 rfl
      · exact (ok_eqp (P := P) r false t _ hu a b _ _ h1 h2 h x y).done
      · exact (ok_eqp (P := P) r true t _ hu a b _ _ h1 h2 h x y).done
    · rename_i hu
      split at hk <;> simp at hk <;> obtain ⟨rfl, rfl⟩ := hk <;> obtain ⟨a, b, rfl, h1, h2⟩ := inv2 rfl
      · exact (ok_eqs (P := P) r false t _ hu a b _ _ h1 h2 h x y).done
      · exact (ok_eqs (P := P) r true t _ hu a b _ _ h1 h2 h x y).done
    · cases hk
  | unOp u t x =>
    rw [ho] at hk; simp only at hk
    split at hk <;> simp at hk <;> obtain ⟨rfl, rfl⟩ := hk <;> obtain ⟨a, rfl, h1⟩ := inv1 rfl
    · have := (ok_not (P := P) r a _ h1 h).done; simpa [execOp, ho] using this
    · have := (ok_neg (P := P) r a _ h1 h).done; simpa [execOp, ho] using this
    · have := (ok_cpl (P := P) r a _ h1 h).done; simpa [execOp, ho] using this
  | convert src dst x =>
    rw [ho] at hk; simp only at hk
    split at hk
    · rename_i hs hd
      simp at hk; obtain ⟨rfl, rfl⟩ := hk
      obtain ⟨a, rfl, h1⟩ := inv1 rfl
      have := (ok_conv (P := P) r src dst _ (by rw [hs]; rfl) hd a _ h1 h).done
      simpa [execOp, ho] using this
    · rename_i e hs hd
      split at hk
      · rename_i hu8
        simp at hk; obtain ⟨rfl, rfl⟩ := hk
        have he : P.underlying e = some (.int .u8) := by
          unfold isU8 at hu8; split at hu8
          · assumption
          · cases hu8
        obtain ⟨a, rfl, h1⟩ := inv1 rfl
        have := (ok_s2b (P := P) r src dst e hs hd he a _ h1 h).done
        simpa [execOp, ho] using this
      · cases hk
    · rename_i e hs hd
      split at hk
      · rename_i hu8
        simp at hk; obtain ⟨rfl, rfl⟩ := hk
        have he : P.underlying e = some (.int .u8) := by
          unfold isU8 at hu8; split at hu8
          · assumption
          · cases hu8
        obtain ⟨a, rfl, h1⟩ := inv1 rfl
        have := (ok_b2s (P := P) r src dst e hs he hd a _ h1 h).done
        simpa [execOp, ho] using this
      · cases hk
    · rename_i e e' hs hd
      split at hk
      · rename_i hu8
        obtain ⟨rfl, hu8⟩ := hu8
        simp at hk; obtain ⟨rfl, rfl⟩ := hk
        have he : P.underlying e = some (.int .u8) := by
          unfold isU8 at hu8; split at hu8
          · assumption
          · cases hu8
        obtain ⟨a, rfl, h1⟩ := inv1 rfl
        have := (ok_s2s (P := P) r src e hs he a _ h1 h).done
        simpa [execOp, ho] using this
      · cases hk
    · cases hk
  | makeInterface t x =>
    rw [ho] at hk; simp only at hk
    split at hk
    · cases hk
    · rename_i D hD hu
      simp at hk; obtain ⟨rfl, rfl⟩ := hk
      obtain ⟨a, rfl, h1⟩ := inv1 rfl
      have := (ok_ifc (P := P) r t D hu (by cases D <;> first | rfl | exact absurd rfl (hD _) | exact absurd hu (hD _)) a _ h1 h).done
      simpa [execOp, ho] using this
    · cases hk
  | makeFunc fn first captured =>
    rw [ho] at hk
    cases fn <;> simp only at hk <;> try (cases hk; done)
    rename_i f
    split at hk
    · rename_i hf
      simp at hk; obtain ⟨rfl, rfl⟩ := hk
      simp [opK] at h; obtain ⟨rfl, rfl, rfl⟩ := h
      have hfirst : first = #[] := by cases first; simp at hf; simp [hf]
      subst hfirst
      refine ⟨.value (.func (.func f) #[] (captured.map ρ)), .func (.func f) #[] (captured.map ρ), w, bm, by simp [execOp, ho, Instr.makeFunc], .inl rfl, r, Move.refl _ _ _, .func ?_ (fun j x hj => ?_)⟩
      · have := hr.len; simpa using this
      · have := hr.get j x hj
        simpa [List.getD] using this
    · cases hk
  | makeSlice t l c =>
    rw [ho] at hk; simp only at hk
    split at hk
    · rename_i e hu
      split at hk
      · rename_i z d hn hz hd
        split at hk
        · rename_i hs
          simp at hk; obtain ⟨rfl, rfl⟩ := hk
          obtain ⟨i, hi, hsz⟩ := szOf_info hn
          obtain ⟨i', zv, hi', hzv, hzs, hzl, hzr⟩ := zeroOf_info hz
          rw [hi] at hi'; cases hi'
          obtain ⟨a, rfl, h1⟩ := inv1 rfl
          have hby : byOf P e = i.bytes := by simp [byOf, hi]
          rw [hby] at h
          have hsame : ρ c = ρ l := by
            unfold sameOp at hs
            split at hs
            · simp at hs; subst hs; rfl
            · simp at hs; obtain ⟨rfl, rfl⟩ := hs; rfl
            · cases hs
          have := (ok_mk (P := P) r t e hu i hi zv hzv hsz z (by rw [hzs, hsz]) (hzr 0 z rfl) d a _ h1 h).done
          simpa [execOp, ho, hsame] using this
        · cases hk
      · cases hk
    · cases hk
  | slice t x lo hi mx =>
    rw [ho] at hk; simp only at hk
    have ex : execOp ρ o = (do pure (.value (← Instr.sliceAt t (ρ x) (lo.map ρ) (hi.map ρ) (mx.map ρ)))) := by simp [execOp, ho]
    rw [ex]
    split at hk
    · rename_i hu
      split at hk
      · rename_i hm
        simp at hk; obtain ⟨rfl, rfl⟩ := hk
        obtain ⟨a, vs', rfl, h1, t1⟩ : ∃ a vs', vs = a :: vs' ∧ Rep (Lof H bm) X nx w false a (ρ x) ∧ Reps (Lof H bm) X nx w false vs' ((someList lo ++ someList hi).map ρ) := by cases hr with | cons q1 t => exact ⟨_, _, rfl, q1, t⟩
        have := (ok_slcT (P := P) r t hu lo.isSome hi.isSome a _ h1 vs' _ t1 h).done
        obtain rfl : mx = none := by cases mx <;> simp at hm ⊢
        cases lo <;> cases hi <;> exact this
      · cases hk
    · rename_i e hu
      split at hk
      · rename_i n hn
        split at hk
        · cases hk
        · rename_i hm
          simp only [Option.some.injEq, Prod.mk.injEq] at hk; obtain ⟨rfl, rfl⟩ := hk
          obtain ⟨i, hii, rfl⟩ := szOf_info hn
          obtain ⟨a, vs', rfl, h1, t1⟩ : ∃ a vs', vs = a :: vs' ∧ Rep (Lof H bm) X nx w false a (ρ x) ∧ Reps (Lof H bm) X nx w false vs' ((someList lo ++ someList hi ++ someList mx).map ρ) := by cases hr with | cons q1 t => exact ⟨_, _, rfl, q1, t⟩
          have := (ok_slc (P := P) r t e hu i hii lo.isSome hi.isSome mx.isSome a _ h1 vs' _ t1 h).done
          cases lo <;> cases hi <;> cases mx <;> first | exact this | (simp at hm)
      · cases hk
    · cases hk
  | fieldAddr t x n =>
    rw [ho] at hk; simp only at hk
    split at hk
    · rename_i fs hu
      split at hk
      · rename_i f hf
        split at hk
        · rename_i s hs
          split at hk
          · cases hk
          · rename_i h0
            simp at hk; obtain ⟨rfl, rfl⟩ := hk
            obtain ⟨i, hi, rfl⟩ := szOf_info hs
            obtain ⟨a, rfl, h1⟩ := inv1 rfl
            have := (ok_fa (P := P) r t fs hu n f hf i hi h0 a _ h1 h).done
            simpa [execOp, ho] using this
        · cases hk
      · cases hk
    · cases hk
  | field t x n =>
    rw [ho] at hk; simp only at hk
    split at hk
    · rename_i fs hu
      split at hk
      · rename_i f hf
        split at hk <;> simp at hk
        · rename_i s ha hs
          obtain ⟨rfl, rfl⟩ := hk
          obtain ⟨i, hi, rfl⟩ := szOf_info hs
          obtain ⟨D, hD, hD2⟩ := isAgg_true ha
          obtain ⟨a, rfl, h1⟩ := inv1 rfl
          have := (ok_fldn (P := P) r t fs hu n f hf i hi D hD hD2 a _ h1 h).done
          simpa [execOp, ho] using this
        · rename_i ha
          obtain ⟨rfl, rfl⟩ := hk
          obtain ⟨D, hD, hD2⟩ := isAgg_false ha
          obtain ⟨a, rfl, h1⟩ := inv1 rfl
          have := (ok_fld1 (P := P) r t fs hu n f hf D hD hD2 a _ h1 h).done
          simpa [execOp, ho] using this
      · cases hk
    · cases hk
  | indexAddr t x y =>
    rw [ho] at hk; simp only at hk
    split at hk
    · rename_i e hu
      split at hk
      · rename_i n hn
        split at hk
        · cases hk
        · rename_i h0
          simp at hk; obtain ⟨rfl, rfl⟩ := hk
          obtain ⟨i, hi, rfl⟩ := szOf_info hn
          obtain ⟨a, b, rfl, h1, h2⟩ := inv2 rfl
          have := (ok_ixS (P := P) r t e hu i hi a b _ _ h1 h2 h0 h).done
          simpa [execOp, ho] using this
      · cases hk
    · rename_i len e hu
      split at hk
      · rename_i n hn
        simp at hk; obtain ⟨rfl, rfl⟩ := hk
        obtain ⟨i, hi, rfl⟩ := szOf_info hn
        obtain ⟨a, b, rfl, h1, h2⟩ := inv2 rfl
        have := (ok_ixP (P := P) r t e len hu i hi a b _ _ h1 h2 h).done
        simpa [execOp, ho] using this
      · cases hk
    · cases hk
  | index t x y =>
    rw [ho] at hk; simp only at hk
    split at hk
    · rename_i hu
      simp at hk; obtain ⟨rfl, rfl⟩ := hk
      obtain ⟨a, b, rfl, h1, h2⟩ := inv2 rfl
      have := (ok_ixT (P := P) r t hu a b _ _ h1 h2 h).done
      simpa [execOp, ho] using this
    · rename_i len e hu
      split at hk
      case h_2 => cases hk
      rename_i hsz hag
      simp at hk; obtain ⟨rfl, rfl⟩ := hk
      obtain ⟨i, hi, his⟩ := szOf_info hsz
      obtain ⟨D, hD, hD2⟩ := isAgg_false hag
      obtain ⟨a, b, rfl, h1, h2⟩ := inv2 rfl
      have := (ok_ixA1 (P := P) r t e len hu i hi his D hD hD2 a b _ _ h1 h2 h).done
      simpa [execOp, ho] using this
    · cases hk
  | extract x i =>
    rw [ho] at hk; simp at hk; obtain ⟨rfl, rfl⟩ := hk
    obtain ⟨a, rfl, h1⟩ := inv1 rfl
    have := (ok_ext (P := P) r i a _ h1 h).done
    simpa [execOp, ho] using this
  | call c =>
    rw [ho] at hk; simp only at hk
    split at hk
    · simp at hk; exact absurd hk.1.symm (hcall _ _)
    · simp at hk; exact absurd hk.1.symm (hcallv _)
    · rename_i b hb
      have ex : ∀ (s : Sem Value), builtin b c.argTypes o.type (c.args.map fun | .const _ => true | _ => false) (c.args.map ρ) = (do pure (.value (← s))) → execOp ρ o = (do pure (.value (← s))) := by
        intro s hs
        have : execOp ρ o = (do let d ← resolve ρ c o.type; invoke d.target d.args) := by simp [execOp, ho]
        rw [this]
        simp only [resolve, hb, pure_bind, invoke]
        exact hs
      split at hk
      · rename_i x t hargs htys
        have ha : c.args = #[x] := by apply Array.ext'; simpa using hargs
        have hty : c.argTypes = #[t] := by apply Array.ext'; simpa using htys
        split at hk
        · rename_i hu
          simp at hk; obtain ⟨rfl, rfl⟩ := hk
          obtain ⟨a, rfl, h1⟩ := inv1 rfl
          rw [ex (Builtin.len_ #[t] o.type #[ρ x]) (by rw [ha, hty]; simp [builtin])]
          exact (ok_lenT (P := P) r t o.type hu a _ h1 h).done
        · rename_i e hu
          simp at hk; obtain ⟨rfl, rfl⟩ := hk
          obtain ⟨a, rfl, h1⟩ := inv1 rfl
          rw [ex (Builtin.len_ #[t] o.type #[ρ x]) (by rw [ha, hty]; simp [builtin])]
          exact (ok_len (P := P) r t o.type e hu a _ h1 h).done
        · cases hk
      · rename_i x y t t' hargs htys
        split at hk
        · rename_i htt
          subst htt
          have ha : c.args = #[x, y] := by apply Array.ext'; simpa using hargs
          have hty : c.argTypes = #[t, t] := by apply Array.ext'; simpa using htys
          split at hk
          · rename_i e hu
            split at hk
            · rename_i n z d hn hz hd
              split at hk
              · cases hk
              · rename_i h0
                simp at hk; obtain ⟨rfl, rfl⟩ := hk
                obtain ⟨i, hi, rfl⟩ := szOf_info hn
                obtain ⟨i', zv, hi', hzv, hzs, hzl, hzr⟩ := zeroOf_info hz
                rw [hi] at hi'; cases hi'
                have hby : byOf P e = i.bytes := by simp [byOf, hi]
                rw [hby] at h
                obtain ⟨a, b, rfl, h1, h2⟩ := inv2 rfl
                rw [ex (Builtin.append_ #[t, t] o.type #[ρ x, ρ y]) (by rw [ha, hty]; simp [builtin])]
                exact (ok_app (P := P) r t o.type e i hu hi zv hzv hzs (by omega) d a b _ _ h1 h2 h).done
            · cases hk
          · cases hk
        · split at hk
          · rename_i e d hu hu' hd
            split at hk
            · rename_i hc
              obtain ⟨hn, hb, hz⟩ := hc
              simp at hk; obtain ⟨rfl, rfl⟩ := hk
              obtain ⟨zz, hzz⟩ := Option.isSome_iff_exists.1 hz
              obtain ⟨i, hi, hi1⟩ := szOf_info hn
              obtain ⟨i', zv, hi', hzv, hzs, hzl, hzr⟩ := zeroOf_info hzz
              rw [hi] at hi'; cases hi'
              have hby : byOf P e = i.bytes := by simp [byOf, hi]
              rw [hby] at hb
              have ha : c.args = #[x, y] := by apply Array.ext'; simpa using hargs
              have hty : c.argTypes = #[t, t'] := by apply Array.ext'; simpa using htys
              obtain ⟨a, b, rfl, h1, h2⟩ := inv2 rfl
              rw [ex (Builtin.append_ #[t, t'] o.type #[ρ x, ρ y]) (by rw [ha, hty]; simp [builtin])]
              exact (ok_apps (P := P) r t t' o.type e i hu hu' hi zv hzv hzs (by omega) hb d a b _ _ h1 h2 h).done
            · cases hk
          · cases hk
      · rename_i x y hargs
        have ha : c.args = #[x, y] := by apply Array.ext'; simpa using hargs
        simp at hk; obtain ⟨rfl, rfl⟩ := hk
        obtain ⟨a, b, rfl, h1, h2⟩ := inv2 rfl
        rw [ex (Builtin.min_ c.argTypes o.type #[ρ x, ρ y]) (by rw [ha]; simp [builtin])]
        exact (ok_mn (P := P) r _ _ a b _ _ h1 h2 h).done
      · rename_i x y hargs
        have ha : c.args = #[x, y] := by apply Array.ext'; simpa using hargs
        simp at hk; obtain ⟨rfl, rfl⟩ := hk
        obtain ⟨a, b, rfl, h1, h2⟩ := inv2 rfl
        rw [ex (Builtin.max_ c.argTypes o.type #[ρ x, ρ y]) (by rw [ha]; simp [builtin])]
        exact (ok_mx (P := P) r _ _ a b _ _ h1 h2 h).done
      · cases hk
    · cases hk
  | _ => rw [ho] at hk; cases hk
end
end Go.Ev
