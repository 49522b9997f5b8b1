/- The compiled code's run is the machine's; a function's contract out of a run. -/
import Derived.Test.YtmokhopjnjecbaaEvO
namespace Go.Ev
open Go.RowKit
set_option linter.unusedVariables false
set_option linter.unusedSimpArgs false
set_option linter.unusedSectionVars false

inductive Its (P : Program) (M : Nat → Nat) (cm : Nat → Nat) (k0 : List Item) : List It → List Item → Prop
  | nil : Its P M cm k0 [] k0
  | code {W n c cd k k'} (h : compC P M cm W n c = some cd) (t : Its P M cm k0 k k') : Its P M cm k0 (.c cd :: k) (.code c :: k')
  | blk {i m k k'} (t : Its P M cm k0 k k') : Its P M cm k0 (.blk i m :: k) (.inBlock i :: k')
  | frz {is k k'} (t : Its P M cm k0 k k') : Its P M cm k0 (.frz is :: k) k'
  | lp {W n m c cd k k'} (h : compC P M cm W n c = some cd) (t : Its P M cm k0 k k') : Its P M cm k0 (.lp m cd :: k) (.inLoop c :: k')

theorem regOf_no {z : List Nat} {l : List Op} {c : Cd} (h : regOf z l = c) : c = .reg l ∨ ∃ is, c = .regf l is := by
  unfold regOf at h
  split at h
  · exact .inl h.symm
  · exact .inr ⟨_, h.symm⟩
theorem regOf_reg {z : List Nat} {l l' : List Op} (h : regOf z l' = .reg l) : l = l' := by
  rcases regOf_no h with h | ⟨_, h⟩ <;> cases h; rfl
theorem regOf_regf {z : List Nat} {l l' : List Op} {is : List Nat} (h : regOf z l' = .regf l is) : l = l' := by
  rcases regOf_no h with h | ⟨_, h⟩ <;> cases h; rfl
section
variable {P : Program} {w0 : World} {O X : Nat → Prop} {L0 : Loc} {nx0 : Ctr} {M : Nat → Nat} {cm : Nat → Nat} {W : Wo}

theorem exit_its {k0 : List Item} {i : Nat} {m : List Bool} : ∀ {k : List It} {k' : List Item} {j : List It}, Its P M cm k0 k k' → exitK i k (fun k m => some (k, m)) none = some (j, m) → ∃ j', exitTo i k' = some j' ∧ Its P M cm k0 j j'
  | [], _, _, h, he => by cases he
  | .blk b _ :: k, _, j, h, he => by
    cases h with
    | blk t =>
      simp only [exitK] at he
      split at he
      · rename_i hb; simp at he; obtain ⟨rfl, _⟩ := he; exact ⟨_, by simp [exitTo, hb], t⟩
      · rename_i hb
        obtain ⟨j', h1, h2⟩ := exit_its t he
        refine ⟨j', ?_, h2⟩
        have : (b == i) = false := by simpa using hb
        simp [exitTo, this, h1]
  | .c _ :: k, _, j, h, he => by
    cases h with
    | code h t =>
      obtain ⟨j', h1, h2⟩ := exit_its t he
      exact ⟨j', by simp [exitTo, h1], h2⟩
  | .lp _ _ :: k, _, j, h, he => by
    cases h with
    | lp h t =>
      obtain ⟨j', h1, h2⟩ := exit_its t he
      exact ⟨j', by simp [exitTo, h1], h2⟩
  | .ops _ :: k, _, _, h, he => by cases h
  | .frz _ :: k, _, j, h, he => by
    cases h with
    | frz t => exact exit_its (k := k) t he

theorem gets_reps {L : Loc} {nx : Ctr} {w : World} {t : List AV} {tmps : Array Value} (h : TRel L X nx w t tmps) : ∀ rs : List Nat, Reps L X nx w false (gets t rs) (rs.map fun i => tmps.getD i undef)
  | [] => .nil
  | i :: rs => .cons (h.get i) (gets_reps h rs)
theorem reps_setT {L : Loc} {nx : Ctr} {w : World} {v : AV} : ∀ {t : List AV} {vs : List Value} (i : Nat), Reps L X nx w false t vs → Rep L X nx w false v (vs.getD i undef) → Reps L X nx w false (setT t i v) vs
  | [], _, _, h, _ => h
  | a :: t, _, 0, h, hv => by
    obtain ⟨u, us, rfl, h1, h2⟩ := h.inv
    exact .cons (by simpa [List.getD] using hv) h2
  | a :: t, _, i + 1, h, hv => by
    obtain ⟨u, us, rfl, h1, h2⟩ := h.inv
    exact .cons h1 (reps_setT i h2 (by simpa [List.getD] using hv))
theorem putAll_rel {L : Loc} {nx : Ctr} {w : World} {tmps : Array Value} : ∀ {is : List Nat} {vs : List AV} {t : List AV}, TRel L X nx w t tmps → Reps L X nx w true vs (is.map fun i => tmps.getD i undef) → TRel L X nx w (putAll t is vs) tmps
  | [], _, t, h, _ => by simpa [putAll] using h
  | i :: is, vs, t, h, hv => by
    cases hv with
    | cons h1 h2 =>
      refine putAll_rel (is := is) ?_ h2
      unfold TRel at h ⊢
      exact reps_setT i h (by simpa [List.getD, Array.getD_eq_getD_getElem?] using h1.weak)
theorem no_unk {φ : Nat} {t : List AV} {H : Heap} {nx : Ctr} {t1 : List AV} {H1 : Heap} {nx1 : Ctr} (h : OpsRun P φ [⟨none, none, .unk, []⟩] t H nx t1 H1 nx1) : False := by
  cases h with
  | cons h k =>
    cases h with
    | skip hg hb hne => cases hg
    | skipU hg hb => cases hg
    | exec hg h => simp [opD, opK] at h
    | call0 hg ho => cases ho
    | call4 hg ho => cases ho
    | callv0 hg ho => cases ho
    | call1 hg ho => cases ho
    | callv1 hg ho => cases ho
    | call3 hg ho => cases ho
    | call2 hg ho => cases ho
    | callv2 hg ho => cases ho
theorem runs_sim (hmix : P.follows .mixedOrders = true) {φ : Nat} {R : List AV → Heap → Ctr → Prop} {its : List It} {t : List AV} {H : Heap} {nx : Ctr} (h : RunsTo P φ R its t H nx) :
    ∀ {k0 todo : List Item} {a : Act} {w : World}, Its P M cm k0 its todo → St w0 O X L0 nx0 t H nx a w → ∀ (b : Frame) (cs : List Frame),
      ∃ e a' w' t' H' nx', (e = .normal ∨ e = .ret) ∧ R t' H' nx' ∧ St w0 O X L0 nx0 t' H' nx' a' w' ∧ Arrives P (lone (b.at a todo) cs w) b k0 cs e a' w' := by
  induction h with
  | nil h =>
    intro k0 todo a w hi st b cs
    cases hi
    exact ⟨.normal, a, w, _, _, _, .inl rfl, h, st, Steps.refl _ _⟩
  | ret h =>
    intro k0 todo a w hi st b cs
    cases hi with
    | code hc ht =>
      rename_i c k'
      cases c with
      | ret => exact ⟨.ret, a, w, _, _, _, .inr rfl, h, st, _, .one step_ret⟩
      | _ => simp only [compC] at hc <;> first | (cases hc; done) | (repeat' (split at hc)) <;> first | (cases hc; done) | (rcases regOf_no (Option.some.inj hc) with h0 | ⟨_, h0⟩ <;> cases h0)
  | skip h ih =>
    intro k0 todo a w hi st b cs
    cases hi with
    | code hc ht =>
      rename_i c k'
      cases c with
      | skip =>
        obtain ⟨e, a', w', t', H', nx', h1, h2, h3, h4⟩ := ih ht st b cs
        exact ⟨e, a', w', t', H', nx', h1, h2, h3, .of_steps (.one step_skip) h4⟩
      | label l =>
        obtain ⟨e, a', w', t', H', nx', h1, h2, h3, h4⟩ := ih ht st b cs
        exact ⟨e, a', w', t', H', nx', h1, h2, h3, .of_steps (.one step_label) h4⟩
      | _ => simp only [compC] at hc <;> first | (cases hc; done) | (repeat' (split at hc)) <;> first | (cases hc; done) | (rcases regOf_no (Option.some.inj hc) with h0 | ⟨_, h0⟩ <;> cases h0)
  | @reg l k t H nx t1 H1 nx1 h n ih =>
    intro k0 todo a w hi st b cs
    cases hi with
    | code hc ht =>
      rename_i c k'
      cases c with
      | region id ops draw =>
        have hw : (Code.region id ops draw).wp P (fun e a' w' => e = .normal ∧ St w0 O X L0 nx0 t1 H1 nx1 a' w') a w := by
          simp only [compC] at hc
          split at hc
          · rename_i l' hl'
            split at hc
            · rename_i hd
              obtain rfl : l = l' := regOf_reg (by simpa using hc)
              cases draw with
              | false => exact region_text hl' h st (fun a' w' st' => ⟨rfl, st'⟩)
              | true => exact region_drawn hmix hl' (by simpa using hd) h st (fun a' w' st' => ⟨rfl, st'⟩)
            · simp only [stopR, Option.some.injEq, Cd.reg.injEq] at hc
              subst hc; exact (no_unk h).elim
          · simp only [stopR, Option.some.injEq, Cd.reg.injEq] at hc
            subst hc; exact (no_unk h).elim
        obtain ⟨e, a1, w1, ⟨rfl, st1⟩, harr⟩ := hw b k' cs
        obtain ⟨e, a', w', t', H', nx', h1, h2, h3, h4⟩ := ih ht st1 b cs
        exact ⟨e, a', w', t', H', nx', h1, h2, h3, .of_steps harr h4⟩
      | _ => simp only [compC] at hc <;> first | (cases hc; done) | (repeat' (split at hc)) <;> first | (cases hc; done) | (rcases regOf_no (Option.some.inj hc) with h0 | ⟨_, h0⟩ <;> cases h0)
  | @regf l is k t H nx h ih =>
    intro k0 todo a w hi st b cs
    cases hi with
    | code hc ht =>
      rename_i n' c k'
      cases c with
      | region id ops draw =>
        rename_i W'
        have hc' : compC P M cm ⟨W'.m, []⟩ n' (.region id ops draw) = some (.reg l) := by
          simp only [compC] at hc ⊢
          split at hc
          · split at hc
            · rename_i hd
              rw [if_pos hd]
              obtain rfl := regOf_regf (Option.some.inj hc)
              have : ∀ l : List Op, frzOf [] l = [] := by
                intro l
                induction l with
                | nil => rfl
                | cons o l ih => simp only [frzOf]; split <;> simp [ih]
              simp [regOf, this]
            · simp [stopR] at hc
          · simp [stopR] at hc
        exact ih (.code hc' (.frz ht)) st b cs
      | _ => simp only [compC] at hc <;> first | (cases hc; done) | (repeat' (split at hc)) <;> first | (cases hc; done) | (rcases regOf_no (Option.some.inj hc) with h0 | ⟨_, h0⟩ <;> cases h0)
  | frz hm h ih =>
    intro k0 todo a w hi st b cs
    cases hi with
    | frz ht =>
      obtain ⟨hdef, bm, hrel, htr, hmv⟩ := st
      obtain ⟨vs', ids', he, _, _, hfz⟩ := frz_map (fun v val α ok r' h1 h2 => frz_ok hrel 9 v val ok r' h1 h2) _ _ _ _ (gets_reps htr _) hm
      simp only [Option.some.injEq, Prod.mk.injEq] at he
      obtain ⟨rfl, rfl⟩ := he
      obtain ⟨h7, h8⟩ := hrel.kill ids'
      refine ih ht ⟨hdef, bm, h7, putAll_rel (htr.move h8) (hfz _ _ (fun f d g b hL => ?_)), hmv.trans h8⟩ b cs
      obtain ⟨⟨cs, h1⟩, rfl⟩ := hL
      obtain ⟨h2, h3⟩ := find_kill ids' _ _ _ _ _ h1
      exact ⟨Lof.mk h2, h3⟩
  | seq h ih =>
    intro k0 todo a w hi st b cs
    cases hi with
    | code hc ht =>
      rename_i c k'
      cases c with
      | seq x y =>
        simp only [compC] at hc
        split at hc
        · rename_i hx hy
          simp at hc; obtain ⟨rfl, rfl⟩ := hc
          obtain ⟨e, a', w', t', H', nx', h1, h2, h3, h4⟩ := ih (.code hx (.code hy ht)) st b cs
          exact ⟨e, a', w', t', H', nx', h1, h2, h3, .of_steps (.one step_seq) h4⟩
        · cases hc
      | _ => simp only [compC] at hc <;> first | (cases hc; done) | (repeat' (split at hc)) <;> first | (cases hc; done) | (rcases regOf_no (Option.some.inj hc) with h0 | ⟨_, h0⟩ <;> cases h0)
  | condT he h ih =>
    intro k0 todo a w hi st b cs
    cases hi with
    | code hc ht =>
      rename_i c k'
      cases c with
      | cond v x y =>
        simp only [compC] at hc
        split at hc
        · rename_i hv hx hy
          simp at hc; obtain ⟨rfl, rfl, rfl⟩ := hc
          obtain ⟨e, a', w', t', H', nx', h1, h2, h3, h4⟩ := ih (.code hx ht) st b cs
          obtain ⟨bm, _, htr, _⟩ := st.rel
          have hev := ev_rep htr hv
          rw [he] at hev
          have hb : a.eval v = .bool true := by
            generalize a.eval v = u at hev
            cases hev; rfl
          exact ⟨e, a', w', t', H', nx', h1, h2, h3, .of_steps (.one (step_cond hb)) (by simpa using h4)⟩
        · cases hc
      | _ => simp only [compC] at hc <;> first | (cases hc; done) | (repeat' (split at hc)) <;> first | (cases hc; done) | (rcases regOf_no (Option.some.inj hc) with h0 | ⟨_, h0⟩ <;> cases h0)
  | condF he h ih =>
    intro k0 todo a w hi st b cs
    cases hi with
    | code hc ht =>
      rename_i c k'
      cases c with
      | cond v x y =>
        simp only [compC] at hc
        split at hc
        · rename_i hv hx hy
          simp at hc; obtain ⟨rfl, rfl, rfl⟩ := hc
          obtain ⟨e, a', w', t', H', nx', h1, h2, h3, h4⟩ := ih (.code hy ht) st b cs
          obtain ⟨bm, _, htr, _⟩ := st.rel
          have hev := ev_rep htr hv
          rw [he] at hev
          have hb : a.eval v = .bool false := by
            generalize a.eval v = u at hev
            cases hev; rfl
          exact ⟨e, a', w', t', H', nx', h1, h2, h3, .of_steps (.one (step_cond hb)) (by simpa using h4)⟩
        · cases hc
      | _ => simp only [compC] at hc <;> first | (cases hc; done) | (repeat' (split at hc)) <;> first | (cases hc; done) | (rcases regOf_no (Option.some.inj hc) with h0 | ⟨_, h0⟩ <;> cases h0)
  | blk h ih =>
    intro k0 todo a w hi st b cs
    cases hi with
    | code hc ht =>
      rename_i c k'
      cases c with
      | block i x =>
        simp only [compC] at hc
        split at hc
        · rename_i hx
          simp at hc; obtain ⟨rfl, _, rfl⟩ := hc
          obtain ⟨e, a', w', t', H', nx', h1, h2, h3, h4⟩ := ih (.code hx (.blk ht)) st b cs
          exact ⟨e, a', w', t', H', nx', h1, h2, h3, .of_steps (.one step_block) h4⟩
        · cases hc
      | _ => simp only [compC] at hc <;> first | (cases hc; done) | (repeat' (split at hc)) <;> first | (cases hc; done) | (rcases regOf_no (Option.some.inj hc) with h0 | ⟨_, h0⟩ <;> cases h0)
  | loop h ih =>
    intro k0 todo a w hi st b cs
    cases hi with
    | code hc ht =>
      rename_i c k'
      cases c with
      | loop x =>
        simp only [compC] at hc
        split at hc
        · rename_i hx
          simp at hc; obtain ⟨_, rfl⟩ := hc
          obtain ⟨e, a', w', t', H', nx', h1, h2, h3, h4⟩ := ih (.code hx (.lp hx ht)) st b cs
          exact ⟨e, a', w', t', H', nx', h1, h2, h3, .of_steps (.one step_loop) h4⟩
        · cases hc
      | _ => simp only [compC] at hc <;> first | (cases hc; done) | (repeat' (split at hc)) <;> first | (cases hc; done) | (rcases regOf_no (Option.some.inj hc) with h0 | ⟨_, h0⟩ <;> cases h0)
  | exit he h ih =>
    intro k0 todo a w hi st b cs
    cases hi with
    | code hc ht =>
      rename_i c k'
      cases c with
      | exit i =>
        simp [compC] at hc; subst hc
        obtain ⟨j', hj1, hj2⟩ := exit_its ht he
        obtain ⟨e, a', w', t', H', nx', h1, h2, h3, h4⟩ := ih hj2 st b cs
        exact ⟨e, a', w', t', H', nx', h1, h2, h3, .of_steps (.one (step_exit hj1)) h4⟩
      | _ => simp only [compC] at hc <;> first | (cases hc; done) | (repeat' (split at hc)) <;> first | (cases hc; done) | (rcases regOf_no (Option.some.inj hc) with h0 | ⟨_, h0⟩ <;> cases h0)
  | endB h ih =>
    intro k0 todo a w hi st b cs
    cases hi with
    | blk ht =>
      obtain ⟨e, a', w', t', H', nx', h1, h2, h3, h4⟩ := ih ht st b cs
      exact ⟨e, a', w', t', H', nx', h1, h2, h3, .of_steps (.one step_inBlock) h4⟩
  | lp h ih =>
    intro k0 todo a w hi st b cs
    cases hi with
    | lp hc ht =>
      obtain ⟨e, a', w', t', H', nx', h1, h2, h3, h4⟩ := ih (.code hc (.lp hc ht)) st b cs
      exact ⟨e, a', w', t', H', nx', h1, h2, h3, .of_steps (.one step_inLoop) h4⟩
  | drop ids h ih =>
    intro k0 todo a w hi st b cs
    obtain ⟨hdef, bm, hrel, htr, hmv⟩ := st
    obtain ⟨h7, h8⟩ := hrel.kill ids
    exact ih hi ⟨hdef, bm, h7, htr.move h8, hmv.trans h8⟩ b cs
  | wk hw h ih =>
    intro k0 todo a w hi st b cs
    obtain ⟨hdef, bm, hrel, htr, hmv⟩ := st
    exact ih hi ⟨hdef, bm, hrel, hw _ _ _ _ _ htr, hmv⟩ b cs

/-- What a function hands back. -/
def retv : List AV → AV
  | [v] => v
  | vs => .tup vs
/-- Where a result lies: in a temporary, or in the memory that it leads to. -/
inductive RS where
  | t (i : Nat) | c1 (i : Nat) | cn (i n : Nat)
def getR {α : Type} (r : RS) (t : List AV) (H : Heap) (ok : AV → α) (bad : α) : α := match r with
  | .t i => ok (getT t i)
  | .c1 i => opK .ld1 [getT t i] H zeroC 0 (fun v _ _ => ok v) bad
  | .cn i n => opK (.ldn n) [getT t i] H zeroC 0 (fun v _ _ => ok v) bad
def getsK {α : Type} : List RS → List AV → Heap → (List AV → α) → α → α
  | [], _, _, ok, _ => ok []
  | r :: rs, t, H, ok, bad => getR r t H (fun v => getsK rs t H (fun vs => ok (v :: vs)) bad) bad
def retK {α : Type} (rs : List RS) (t : List AV) (H : Heap) (ok : AV → α) (bad : α) : α := getsK rs t H (fun vs => mapK (frzK 9 H) vs (fun vs _ => ok (retv vs)) bad) bad
/-- Whatever is so by the first is so by the second, which tells less. -/
def Wk1 (x y : AV) : Prop := ∀ (L : Loc) (X : Nat → Prop) (nx : Ctr) (w : World) (p : Bool) (v : Value), Rep L X nx w p x v → Rep L X nx w p y v
theorem Wk1.refl (x : AV) : Wk1 x x := fun _ _ _ _ _ _ h => h
theorem Wk1.trans {x y z : AV} (a : Wk1 x y) (b : Wk1 y z) : Wk1 x z := fun _ _ _ _ _ _ h => b _ _ _ _ _ _ (a _ _ _ _ _ _ h)
/-- It ends, handing back that. -/
def Gives (rs : List RS) (r : AV) (t : List AV) (H : Heap) (nx : Ctr) : Prop := ∃ r', retK rs t H some none = some r' ∧ Wk1 r' r
theorem Gives.of {rs : List RS} {r : AV} {t : List AV} {H : Heap} {nx : Ctr} (h : retK rs t H some none = some r) : Gives rs r t H nx := ⟨r, h, Wk1.refl r⟩
def resOf (P : Program) : ResultVar → Option RS
  | .tmp i => some (.t i)
  | .cell a t => match isAggOf P t, szOf P t with
    | some true, some n => some (.cn a n)
    | some false, _ => some (.c1 a)
    | _, _ => none
def resOfs (P : Program) : List ResultVar → Option (List RS)
  | [] => some []
  | r :: rs => match resOf P r, resOfs P rs with
    | some x, some xs => some (x :: xs)
    | _, _ => none
theorem getR_opt {α : Type} (r : RS) (t : List AV) (H : Heap) (ok : AV → α) (bad : α) : getR r t H ok bad = match getR r t H some none with | some v => ok v | none => bad := by
  cases r with
  | t i => rfl
  | c1 i =>
    unfold getR
    simp only
    rw [opK_opD, opK_opD .ld1 _ H zeroC 0 (fun v _ _ => some v) none]
    cases opD .ld1 [getT t i] H zeroC 0 <;> rfl
  | cn i n =>
    unfold getR
    simp only
    rw [opK_opD, opK_opD (.ldn n) _ H zeroC 0 (fun v _ _ => some v) none]
    cases opD (.ldn n) [getT t i] H zeroC 0 <;> rfl
theorem getsK_opt {α : Type} : ∀ (rs : List RS) (t : List AV) (H : Heap) (ok : List AV → α) (bad : α), getsK rs t H ok bad = match getsK rs t H some none with | some v => ok v | none => bad
  | [], t, H, ok, bad => rfl
  | r :: rs, t, H, ok, bad => by
    simp only [getsK]
    rw [getR_opt r t H _ bad, getR_opt r t H (fun v => getsK rs t H (fun vs => some (v :: vs)) none) none]
    cases getR r t H some none with
    | none => rfl
    | some v =>
      simp only
      rw [getsK_opt rs t H _ bad, getsK_opt rs t H (fun vs => some (v :: vs)) none]
      cases getsK rs t H some none <;> rfl
/-- The reading of one result. -/
def readR (tmps : Array Value) : ResultVar → Sem Value
  | .tmp t => pure (tmps.getD t undef)
  | .cell a t => do loadVar t (← asAddr (tmps.getD a undef))
theorem run_res {rv : ResultVar} {rs : RS} (hc : resOf P rv = some rs) {bm : Nat → Nat → Nat} {H : Heap} {nx : Ctr} {w : World} (r : Rel w0 O X bm H nx w) {t : List AV} {tmps : Array Value} (ht : TRel (Lof H bm) X nx w t tmps) {v : AV}
    (h : getR rs t H some none = some v) : ∃ u, (readR tmps rv).run P w = .ok u w ∧ Rep (Lof H bm) X nx w false v u := by
  have ptr : ∀ (x : AV) (u : Value) {o : AK} {n : Nat} {p : AV × Heap × Ctr}, (o = .ld1 ∨ o = .ldn n) → Rep (Lof H bm) X nx w false x u → opD o [x] H nx 0 = some p → ∃ a, u = .pointer (some a) := by
    intro x u o n p ho hx h
    rcases ho with rfl | rfl <;> (unfold opD opK at h; simp only at h; split at h <;> first | (cases h; done) | (cases hx; exact ⟨_, rfl⟩))
  have fin : ∀ (tt : TypeId) (a : Nat) (o : AK) (n : Nat), (o = .ld1 ∨ o = .ldn n) → (∀ {v : AV} {H' : Heap} {nx' : Ctr}, opD o [getT t a] H nx 0 = some (v, H', nx') → ∃ v', (Instr.loadAt tt (tmps.getD a undef)).run P w = .ok v' w ∧ H' = H ∧ nx' = nx ∧ Rep (Lof H bm) X nx w false v v') →
      opK o [getT t a] H zeroC 0 (fun v _ _ => some v) none = some v → ∃ u, (readR tmps (.cell a tt)).run P w = .ok u w ∧ Rep (Lof H bm) X nx w false v u := by
    intro tt a o n ho hOK h
    rw [opK_opD] at h
    split at h
    · rename_i v1 H1 nx1 hd
      simp at h; subst h
      have hcls : cls o ≤ 1 := by rcases ho with rfl | rfl <;> simp [cls]
      obtain ⟨rfl, rfl, hall⟩ := opD_R hcls hd
      have hd2 := hall nx
      obtain ⟨u, h1, _, _, h4⟩ := hOK hd2
      obtain ⟨q, hq⟩ := ptr _ _ ho (ht.get a) hd2
      refine ⟨u, ?_, h4⟩
      rw [hq] at h1
      simp only [readR, hq]
      simpa [Instr.loadAt, Instr.sureAddr, asAddr] using h1
    · cases h
  cases rv with
  | tmp i =>
    simp [resOf] at hc; subst hc
    simp [getR] at h; subst h
    exact ⟨_, rfl, ht.get i⟩
  | cell a tt =>
    simp only [resOf] at hc
    split at hc
    · rename_i n ha hn
      simp at hc; subst hc
      obtain ⟨D, hD1, hD2⟩ := isAgg_true ha
      obtain ⟨i, hi, rfl⟩ := szOf_info hn
      exact fin tt a (.ldn i.size) i.size (.inr rfl) (fun hd => ok_ldn' r tt D hD1 hD2 i hi _ _ (ht.get a) hd) h
    · rename_i ha
      simp at hc; subst hc
      obtain ⟨D, hD1, hD2⟩ := isAgg_false ha
      exact fin tt a .ld1 0 (.inl rfl) (fun hd => ok_ld1' r tt D hD1 hD2 _ _ (ht.get a) hd) h
    · cases hc
theorem run_ress : ∀ {rvs : List ResultVar} {rs : List RS} (hc : resOfs P rvs = some rs) {bm : Nat → Nat → Nat} {H : Heap} {nx : Ctr} {w : World} (r : Rel w0 O X bm H nx w) {t : List AV} {tmps : Array Value} (ht : TRel (Lof H bm) X nx w t tmps) {vs : List AV}
    (h : getsK rs t H some none = some vs), ∃ us, (rvs.mapM (readR tmps)).run P w = .ok us w ∧ Reps (Lof H bm) X nx w false vs us
  | [], rs, hc, bm, H, nx, w, r, t, tmps, ht, vs, h => by
    simp [resOfs] at hc; subst hc
    simp [getsK] at h; subst h
    exact ⟨[], rfl, .nil⟩
  | rv :: rvs, rs, hc, bm, H, nx, w, r, t, tmps, ht, vs, h => by
    simp only [resOfs] at hc
    split at hc
    · rename_i x xs hx hxs
      simp at hc; subst hc
      simp only [getsK] at h
      rw [getR_opt] at h
      split at h
      · rename_i v hv
        rw [getsK_opt] at h
        split at h
        · rename_i vs' hvs
          simp at h; subst h
          obtain ⟨u, a1, a4⟩ := run_res hx r ht hv
          obtain ⟨us, b1, b4⟩ := run_ress hxs r ht hvs
          refine ⟨u :: us, ?_, .cons a4 b4⟩
          simp only [List.mapM_cons, Sem.run_bind, a1, Result.andThen_ok, b1, Sem.run_pure]
        · cases h
      · cases h
    · cases hc
def outV : List Value → Value
  | [v] => v
  | vs => .tuple vs.toArray
theorem run_results {fn : Func} {rs : List RS} (hrs : resOfs P fn.results.toList = some rs) {bm : Nat → Nat → Nat} {H : Heap} {nx : Ctr} {w : World} (r : Rel w0 O X bm H nx w) {t : List AV} {tmps : Array Value} (ht : TRel (Lof H bm) X nx w t tmps) {vs : List AV}
    (h : getsK rs t H some none = some vs) : ∃ us, (results fn tmps).run P w = .ok (outV us) w ∧ Reps (Lof H bm) X nx w false vs us := by
  obtain ⟨us, h1, h4⟩ := run_ress hrs r ht h
  refine ⟨us, ?_, h4⟩
  have he : results fn tmps = (do let vs ← fn.results.mapM (readR tmps); pure (if h : vs.size = 1 then vs[0] else .tuple vs)) := by
    unfold results
    congr 1
  rw [he, Array.mapM_eq_mapM_toList]
  simp only [Sem.run_bind, Sem.run_map, h1, Result.andThen_ok, Sem.run_pure]
  rcases us with _ | ⟨i, _ | ⟨j, rs⟩⟩
  · simp [outV]
  · simp [outV]
  · simp [outV]

theorem reps_fill {L : Loc} {nx : Ctr} {w : World} : ∀ n : Nat, Reps L X nx w false (List.replicate n (.tup [])) (List.replicate n undef)
  | 0 => .nil
  | n + 1 => by rw [List.replicate_succ, List.replicate_succ]; exact .cons (.tup rfl (by simp)) (reps_fill n)
theorem Reps.weak {L : Loc} {nx : Ctr} {w : World} {xs : List AV} {vs : List Value} (h : Reps L X nx w true xs vs) : Reps L X nx w false xs vs := by
  induction h with
  | nil => exact .nil
  | cons h _ ih => exact .cons h.weak ih

/-- A function's contract, out of a run of its compiled body. -/
theorem pcalls_of_runs (hmix : P.follows .mixedOrders = true) {f : Nat} {fn : Func} {c : Code} {cd : Cd} (hf : P.funcs[f]? = some fn) (hok : fnOk P f = true) (hb : fn.body = some c) {n0 : Nat} (hc : compC P M cm W n0 c = some cd)
    {rs : List RS} (hrs : resOfs P fn.results.toList = some rs) {args : List AV} {r : AV} {φ : Nat} (h : RunsX P φ (Gives rs r) [.c cd] (args ++ List.replicate (fn.ntmps - args.length) (.tup [])) [] zeroC) : PCalls P f args r := by
  refine ⟨hok, fun X w vals hX ha => ?_⟩
  refine calls_of_wp hf hb (fun b k cs => ?_)
  have hlen := ha.len
  have st : St w (fun _ => False) X none4 zeroC (args ++ List.replicate (fn.ntmps - args.length) (.tup [])) [] zeroC { tmps := vals.toArray ++ Array.replicate (fn.ntmps - vals.toArray.size) undef, defers := [] } w := by
    refine ⟨rfl, fun _ _ => 0, ⟨fun f d g cs h => by simp [find] at h, fun f d g cs _ _ _ _ h => by simp [find] at h, fun f d g b h => by simp [find] at h, fun f d g cs h => by simp [find] at h, rfl, rfl, rfl, Nat.le_refl _, fun _ _ _ => rfl, hX⟩, ?_⟩
    unfold TRel
    simp only [Array.toList_append, Array.toList_replicate, List.size_toArray, hlen]
    have hL : Lof [] (fun _ _ => 0) = none4 := by
      funext f d g b; apply propext; constructor
      · rintro ⟨⟨cs, h⟩, _⟩; simp [find] at h
      · intro h; exact h.elim
    rw [hL]
    exact ⟨ha.weak.append (reps_fill _), Move.refl _ _ _⟩
  have hr : RunsTo P φ (Gives rs r) [.c cd] (args ++ List.replicate (fn.ntmps - args.length) (.tup [])) [] zeroC := h
  obtain ⟨e, a', w', t', H', nx', he, hg, st', harr⟩ := runs_sim (M := M) (cm := cm) hmix hr (k0 := k) (todo := .code c :: k) (.code hc .nil) st b cs
  obtain ⟨hdef, bm, hrel, htr, _⟩ := st'
  refine ⟨e, a', w', ?_, harr⟩
  obtain ⟨r', hg, hwk⟩ := hg
  unfold retK at hg
  rw [getsK_opt] at hg
  split at hg
  case h_2 => cases hg
  rename_i vs0 hvs0
  obtain ⟨us, hres, hgr⟩ := run_results hrs hrel htr hvs0
  obtain ⟨vs', ids, hv, hl', hany, hfz⟩ := frz_map (fun v val α ok r' h1 h2 => frz_ok hrel 9 v val ok r' h1 h2) _ _ _ _ hgr hg
  simp at hv
  have hpure := hfz none4 zeroC (fun _ _ _ _ h => h.elim)
  have hbelow : Below w.heap.size w w' := ⟨hrel.os, hrel.tape, hrel.output, hrel.size, fun b hb => hrel.keep b hb (fun h => h)⟩
  have hrep : Rep none4 X zeroC w' true r (outV us) := by
    refine hwk _ _ _ _ _ _ ?_
    rw [← hv]
    have tup : Rep none4 X zeroC w' true (.tup vs') (.tuple us.toArray) := .tup (by simpa using hpure.len) (fun j x hx => by have := hpure.get j x hx; simpa [List.getD] using this)
    cases hpure with
    | nil => exact tup
    | cons h1 t =>
      cases t with
      | nil => exact h1
      | cons h2 t => exact tup
  rcases he with rfl | rfl
  · exact ⟨hdef, _, hres, _, rfl, hbelow, hrep⟩
  · exact ⟨hdef, _, hres, _, rfl, hbelow, hrep⟩
theorem Rel.sel {bm : Nat → Nat → Nat} {H : Heap} {nx : Ctr} {w : World} (r : Rel w0 O X bm H nx w) (ks : List (Nat × Nat)) : Rel w0 O X bm (Ev.sel ks H) nx w ∧ Move (Lof H bm) nx w (Lof (Ev.sel ks H) bm) nx w := by
  have sub : ∀ f d g b, Lof (Ev.sel ks H) bm f d g b → Lof H bm f d g b := by
    rintro f d g b ⟨⟨cs, h⟩, rfl⟩
    exact Lof.mk (find_sel h).1
  have m : Move (Lof H bm) nx w (Lof (Ev.sel ks H) bm) nx w :=
    ⟨fun _ => Nat.le_refl _, Nat.le_refl _, fun f d g b h _ => sub _ _ _ _ h, fun f d g b h _ => .inr ⟨f, d, g, sub _ _ _ _ h⟩, fun _ _ h _ => h, fun _ _ _ _ vs _ _ _ h => ⟨vs, h, rfl⟩⟩
  refine ⟨⟨?_, ?_, ?_, ?_, r.os, r.tape, r.output, r.size, r.keep, r.xlt⟩, m⟩
  · intro f d g cs h
    obtain ⟨vs, E, h1, h2, h3⟩ := r.blk _ _ _ _ (find_sel h).1
    exact ⟨vs, E, h1, h2, fun j x hx => ⟨(h3 j x hx).1.move m, (h3 j x hx).2⟩⟩
  · intro f d g cs f' d' g' cs' h h'
    exact r.inj _ _ _ _ _ _ _ _ (find_sel h).1 (find_sel h').1
  · intro f d g b h; exact r.gen _ _ _ _ (find_sel h).1
  · intro f d g cs h; exact r.own _ _ _ _ (find_sel h).1
/-- It ends, handing back that, with that heap left. -/
def GivesH (ks : List (Nat × Nat)) (rs : List RS) (r : AV) (Hout : Heap) (nx' : Ctr) (t : List AV) (H : Heap) (nx : Ctr) : Prop := Ev.sel ks H = Hout ∧ (∃ r', getsK rs t H (fun vs => some (retv vs)) none = some r' ∧ Wk1 r' r) ∧ nx = nx'
theorem GivesH.of {ks : List (Nat × Nat)} {rs : List RS} {r : AV} {Hout : Heap} {nx' : Ctr} {t : List AV} {H : Heap} {nx : Ctr} (h1 : Ev.sel ks H = Hout) (h2 : getsK rs t H (fun vs => some (retv vs)) none = some r) (h3 : nx = nx') : GivesH ks rs r Hout nx' t H nx := ⟨h1, ⟨r, h2, Wk1.refl r⟩, h3⟩

/-- A function's contract, with a part of the heap. -/
theorem hcalls_of_runs (hmix : P.follows .mixedOrders = true) {f : Nat} {fn : Func} {c : Code} {cd : Cd} (hf : P.funcs[f]? = some fn) (hok : fnOk P f = true) (hb : fn.body = some c) {n0 : Nat} (hc : compC P M cm W n0 c = some cd)
    {rs : List RS} (hrs : resOfs P fn.results.toList = some rs) {args : List AV} {Hin Hout : Heap} {nx nx' : Ctr} {r : AV} {φ : Nat} (ks : List (Nat × Nat)) (h : RunsX P φ (GivesH ks rs r Hout nx') [.c cd] (args ++ List.replicate (fn.ntmps - args.length) (.tup [])) Hin nx) : HCalls P f args Hin nx r Hout nx' := by
  refine ⟨hok, fun X w bm vals hrel0 ha => ?_⟩
  refine calls_of_wp hf hb (fun b k cs => ?_)
  have hlen := ha.len
  have st : St w (Own Hin bm) X (Lof Hin bm) nx (args ++ List.replicate (fn.ntmps - args.length) (.tup [])) Hin nx { tmps := vals.toArray ++ Array.replicate (fn.ntmps - vals.toArray.size) undef, defers := [] } w := by
    refine ⟨rfl, bm, hrel0, ?_, Move.refl _ _ _⟩
    unfold TRel
    simp only [Array.toList_append, Array.toList_replicate, List.size_toArray, hlen]
    exact ha.append (reps_fill _)
  have hr : RunsTo P φ (GivesH ks rs r Hout nx') [.c cd] (args ++ List.replicate (fn.ntmps - args.length) (.tup [])) Hin nx := h
  obtain ⟨e, a', w', t', H', nx1, he, hg, st', harr⟩ := runs_sim (M := M) (cm := cm) hmix hr (k0 := k) (todo := .code c :: k) (.code hc .nil) st b cs
  obtain ⟨hdef, bm', hrel, htr, hmv⟩ := st'
  refine ⟨e, a', w', ?_, harr⟩
  obtain ⟨rfl, ⟨r', hrv, hwk⟩, rfl⟩ := hg
  rw [getsK_opt] at hrv
  split at hrv
  case h_2 => cases hrv
  rename_i vs0 hvs0
  simp at hrv
  obtain ⟨us, hres, hgr⟩ := run_results hrs hrel htr hvs0
  obtain ⟨hrel2, hm2⟩ := hrel.sel ks
  have hrep : Rep (Lof H' bm') X nx1 w' false r (outV us) := by
    refine hwk _ _ _ _ _ _ ?_
    rw [← hrv]
    have tup : Rep (Lof H' bm') X nx1 w' false (.tup vs0) (.tuple us.toArray) := .tup (by simpa using hgr.len) (fun j x hx => by have := hgr.get j x hx; simpa [List.getD] using this)
    cases hgr with
    | nil => exact tup
    | cons h1 t =>
      cases t with
      | nil => exact h1
      | cons h2 t => exact tup
  rcases he with rfl | rfl
  · exact ⟨hdef, _, hres, _, bm', rfl, hrel2, hmv.trans hm2, hrep.move hm2⟩
  · exact ⟨hdef, _, hres, _, bm', rfl, hrel2, hmv.trans hm2, hrep.move hm2⟩

/-- Temporaries written through; loads by what nobody writes. -/
def mset (l1 l2 : List Nat) (l3 : List Nat := []) : Nat → Nat := fun i => if l1.contains i then 1 else if l2.contains i then 2 else if l3.contains i then 3 else 0
def cset (l : List Nat) (l2 : List Nat := []) (l3 : List Nat := []) (l4 : List Nat := []) : Nat → Nat := fun f => if l.contains f then 1 else if l2.contains f then 2 else if l3.contains f then 3 else if l4.contains f then 4 else 0
def compF (P : Program) (M : Nat → Nat) (cm : Nat → Nat) (W : Wo) (fn : Func) : Option Cd := match fn.body with | some c => compC P M cm W 0 c | none => none
def wsetM : List (Nat × Mk × List Bool) → Nat → Mk × List Bool
  | [], _ => (⟨[], []⟩, [])
  | (j, a, b) :: l, i => if i = j then (a, b) else wsetM l i
def wset (l : List (Nat × Mk × List Bool)) (z : List Nat := []) : Wo := ⟨wsetM l, z⟩
theorem pcallsF (hmix : P.follows .mixedOrders = true) {f : Nat} {fn : Func} {cd : Cd} (hf : P.funcs[f]? = some fn) (hok : fnOk P f = true) (hc : compF P M cm W fn = some cd) {n : Nat} (hn : fn.ntmps = n)
    {rs : List RS} (hrs : resOfs P fn.results.toList = some rs) {args : List AV} {r : AV} (h : RunsX P 0 (Gives rs r) [.c cd] (args ++ List.replicate (n - args.length) (.tup [])) [] zeroC) : PCalls P f args r := by
  subst hn
  unfold compF at hc
  split at hc
  · rename_i c hb
    exact pcalls_of_runs hmix hf hok hb hc hrs h
  · cases hc
theorem hcallsF (hmix : P.follows .mixedOrders = true) {f : Nat} {fn : Func} {cd : Cd} (hf : P.funcs[f]? = some fn) (hok : fnOk P f = true) (hc : compF P M cm W fn = some cd) {n : Nat} (hn : fn.ntmps = n)
    {rs : List RS} (hrs : resOfs P fn.results.toList = some rs) {args : List AV} {Hin Hout : Heap} {nx nx' : Ctr} {r : AV} (φ : Nat) (ks : List (Nat × Nat)) (h : RunsX P φ (GivesH ks rs r Hout nx') [.c cd] (args ++ List.replicate (n - args.length) (.tup [])) Hin nx) : HCalls P f args Hin nx r Hout nx' := by
  subst hn
  unfold compF at hc
  split at hc
  · rename_i c hb
    exact hcalls_of_runs hmix hf hok hb hc hrs ks h
  · cases hc
end
end Go.Ev
