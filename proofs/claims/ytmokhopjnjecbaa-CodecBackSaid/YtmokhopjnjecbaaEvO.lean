/- Control; and the function as a whole. -/
import Derived.Test.YtmokhopjnjecbaaEvN
namespace Go.Ev
open Go.RowKit
set_option linter.unusedVariables false
set_option linter.unusedSimpArgs false
set_option linter.unusedSectionVars false

/-- What is laid into the compiled code: which temporaries are dead at a loop's head and behind a block; which are frozen as soon as they are told. -/
structure Wo where
  m : Nat → Mk × List Bool
  z : List Nat
def frzOf (z : List Nat) : List Op → List Nat
  | [] => []
  | o :: l => match o.d with
    | some d => if z.contains d then d :: frzOf z l else frzOf z l
    | none => frzOf z l
def regOf (z : List Nat) (l : List Op) : Cd := match frzOf z l with
  | [] => .reg l
  | is => .regf l is
/-- What isn't compiled: nothing is told of it. -/
def stopR : Cd := .reg [⟨none, none, .unk, []⟩]
def compC (P : Program) (M : Nat → Nat) (cm : Nat → Nat) (W : Wo) : Nat → Code → Option Cd
  | _, .skip => some .skip
  | _, .label _ => some .skip
  | _, .region _ ops draw => match compOps P M cm ops ops.toList with
    | some l => if draw = false ∨ drawnOk ops.toList l = true then some (regOf W.z l) else some stopR
    | none => some stopR
  | n, .seq a b => match compC P M cm W n a, compC P M cm W n b with
    | some x, some y => some (.seq x y)
    | _, _ => none
  | n, .cond c a b => match arOf c, compC P M cm W n a, compC P M cm W n b with
    | some v, some x, some y => some (.cond v x y)
    | _, _, _ => none
  | _, .block i a => match compC P M cm W i a with
    | some x => some (.blk i (W.m i).2 x)
    | none => none
  | n, .loop a => match compC P M cm W n a with
    | some x => some (.loop (W.m n).1 x)
    | none => none
  | _, .exit i => some (.exit i)
  | _, .ret => some .ret
  | _, _ => none

/-- Whatever is so by the first is so by the second, which tells less. -/
def Wk (t t' : List AV) : Prop := ∀ (L : Loc) (X : Nat → Prop) (nx : Ctr) (w : World) (vs : List Value), Reps L X nx w false t vs → Reps L X nx w false t' vs
theorem Wk.killM : ∀ (m : List Bool) (t : List AV), Wk t (killM m t)
  | true :: m, a :: t => fun L X nx w vs h => by
    obtain ⟨v, vs, rfl, h1, h2⟩ := h.inv
    exact .cons .any (Wk.killM m t _ _ _ _ _ h2)
  | false :: m, a :: t => fun L X nx w vs h => by
    obtain ⟨v, vs, rfl, h1, h2⟩ := h.inv
    exact .cons h1 (Wk.killM m t _ _ _ _ _ h2)
  | [], t => fun L X nx w vs h => h
  | true :: m, [] => fun L X nx w vs h => h
  | false :: m, [] => fun L X nx w vs h => h

/-- The compiled code runs on and ends so. -/
inductive RunsTo (P : Program) (φ : Nat) (R : List AV → Heap → Ctr → Prop) : List It → List AV → Heap → Ctr → Prop
  | nil {t H nx} (h : R t H nx) : RunsTo P φ R [] t H nx
  | ret {k t H nx} (h : R t H nx) : RunsTo P φ R (.c .ret :: k) t H nx
  | skip {k t H nx} (h : RunsTo P φ R k t H nx) : RunsTo P φ R (.c .skip :: k) t H nx
  | reg {l k t H nx t1 H1 nx1} (h : OpsRun P φ l t H nx t1 H1 nx1) (n : RunsTo P φ R k t1 H1 nx1) : RunsTo P φ R (.c (.reg l) :: k) t H nx
  | regf {l is k t H nx} (h : RunsTo P φ R (.c (.reg l) :: .frz is :: k) t H nx) : RunsTo P φ R (.c (.regf l is) :: k) t H nx
  | frz {is vs ids k t H nx} (hm : mapK (frzK 9 H) (gets t is) (fun v i => some (v, i)) none = some (vs, ids)) (h : RunsTo P φ R k (putAll t is vs) (kill ids H) nx) : RunsTo P φ R (.frz is :: k) t H nx
  | seq {a b k t H nx} (h : RunsTo P φ R (.c a :: .c b :: k) t H nx) : RunsTo P φ R (.c (.seq a b) :: k) t H nx
  | condT {c a b k t H nx} (hc : ev t c = .bool true) (h : RunsTo P φ R (.c a :: k) t H nx) : RunsTo P φ R (.c (.cond c a b) :: k) t H nx
  | condF {c a b k t H nx} (hc : ev t c = .bool false) (h : RunsTo P φ R (.c b :: k) t H nx) : RunsTo P φ R (.c (.cond c a b) :: k) t H nx
  | blk {i m a k t H nx} (h : RunsTo P φ R (.c a :: .blk i m :: k) t H nx) : RunsTo P φ R (.c (.blk i m a) :: k) t H nx
  | loop {m a k t H nx} (h : RunsTo P φ R (.c a :: .lp m a :: k) t H nx) : RunsTo P φ R (.c (.loop m a) :: k) t H nx
  | exit {i k k' m t H nx} (he : exitK i k (fun k m => some (k, m)) none = some (k', m)) (h : RunsTo P φ R k' t H nx) : RunsTo P φ R (.c (.exit i) :: k) t H nx
  | endB {i m k t H nx} (h : RunsTo P φ R k t H nx) : RunsTo P φ R (.blk i m :: k) t H nx
  | lp {m a k t H nx} (h : RunsTo P φ R (.c a :: .lp m a :: k) t H nx) : RunsTo P φ R (.lp m a :: k) t H nx
  | drop {its t H nx} (ids : List (Nat × Nat)) (h : RunsTo P φ R its t (kill ids H) nx) : RunsTo P φ R its t H nx
  | wk {its t t' H nx} (hw : Wk t t') (h : RunsTo P φ R its t' H nx) : RunsTo P φ R its t H nx

/-- The same, in the midst of a region too. -/
def RunsX (P : Program) (φ : Nat) (R : List AV → Heap → Ctr → Prop) (its : List It) (t : List AV) (H : Heap) (nx : Ctr) : Prop :=
  match its with
  | .ops l :: k => ∃ t1 H1 nx1, OpsRun P φ l t H nx t1 H1 nx1 ∧ RunsTo P φ R k t1 H1 nx1
  | its => RunsTo P φ R its t H nx
def RunsO (P : Program) (φ : Nat) (R : List AV → Heap → Ctr → Prop) (k0 : List It) : Out → Prop
  | .more k t H nx => RunsX P φ R (k ++ k0) t H nx
  | .done t H nx => R t H nx
  | .fall t H nx => RunsX P φ R k0 t H nx
  | .bad => False
  | .call f mode vs ids d l k t H nx => match mode with
    | 0 => ∃ r, PCalls P f vs r ∧ (ids = [] ∨ scal r = true) ∧ RunsX P φ R (.ops l :: (k ++ k0)) (put t d r) H nx
    | 1 => ∃ r, PCalls P f vs r ∧ RunsX P φ R (.ops l :: (k ++ k0)) (put t d r) (kill ids H) nx
    | 3 => ∃ r, PCalls P f vs r ∧ RunsX P φ R (.ops l :: (k ++ k0)) (put (frzT ids H t) d r) (kill ids H) nx
    | 2 => ∃ ks r Hout nx', HCalls P f vs (sel ks H) nx r Hout nx' ∧ (rest ks H = [] ∨ (nameFree 9 (rest ks H) r = true ∧ heapFree (rest ks H) Hout = true)) ∧ RunsX P φ R (.ops l :: (k ++ k0)) (put t d r) (Hout ++ rest ks H) nx'
    | _ => False

section
variable {P : Program} {φ : Nat} {R : List AV → Heap → Ctr → Prop} {k0 : List It}

theorem RunsX.to {its : List It} {t : List AV} {H : Heap} {nx : Ctr} (h : RunsX P φ R its t H nx) (hn : ∀ l k, its ≠ .ops l :: k) : RunsTo P φ R its t H nx := by
  unfold RunsX at h
  split at h
  · exact absurd rfl (hn _ _)
  · exact h
theorem noOps {l : List Op} {k : List It} {t : List AV} {H : Heap} {nx : Ctr} (h : RunsTo P φ R (.ops l :: k) t H nx) : False := by
  generalize he : It.ops l :: k = its at h
  induction h with
  | wk hw h ih => exact ih he
  | drop ids h ih => exact ih he
  | _ => cases he
theorem RunsX.of {its : List It} {t : List AV} {H : Heap} {nx : Ctr} (h : RunsTo P φ R its t H nx) : RunsX P φ R its t H nx := by
  unfold RunsX
  split
  · exact (noOps h).elim
  · exact h
theorem RunsX.noOps {i : It} {k : List It} {t : List AV} {H : Heap} {nx : Ctr} (h : RunsX P φ R (i :: k) t H nx) (hn : ∀ l, i ≠ .ops l) : RunsTo P φ R (i :: k) t H nx :=
  h.to (fun l k' e => hn l (by simp at e; exact e.1))
theorem RunsX.op {o : Op} {l : List Op} {k : List It} {t : List AV} {H : Heap} {nx : Ctr} {t1 : List AV} {H1 : Heap} {nx1 : Ctr} (hs : OpStep P φ o t H nx t1 H1 nx1) (h : RunsX P φ R (.ops l :: k) t1 H1 nx1) : RunsX P φ R (.ops (o :: l) :: k) t H nx := by
  obtain ⟨t2, H2, nx2, h1, h2⟩ := h
  exact ⟨t2, H2, nx2, .cons hs h1, h2⟩

/-- A continuation has no half-done region below its head. -/
def flat : List It → Prop
  | [] => True
  | .ops _ :: _ => False
  | _ :: k => flat k
def flat1 : List It → Prop
  | .ops _ :: k => flat k
  | k => flat k
theorem exitK_flat {i : Nat} {m : List Bool} : ∀ {k k' : List It}, flat k → exitK i k (fun k m => some (k, m)) none = some (k', m) → flat k'
  | [], k', _, h => by cases h
  | .blk j _ :: k, k', hf, h => by
    simp only [exitK] at h
    split at h
    · simp at h; obtain ⟨rfl, _⟩ := h; exact hf
    · exact exitK_flat (k := k) hf h
  | .c _ :: k, k', hf, h => exitK_flat (k := k) hf h
  | .lp _ _ :: k, k', hf, h => exitK_flat (k := k) hf h
  | .frz _ :: k, k', hf, h => exitK_flat (k := k) hf h
  | .ops _ :: k, k', hf, h => hf.elim
theorem exitK_nat {α β : Type} (F : α → β) (i : Nat) : ∀ (k : List It) (ok : List It → List Bool → α) (bad : α), F (exitK i k ok bad) = exitK i k (fun k m => F (ok k m)) (F bad)
  | [], _, _ => rfl
  | .blk j _ :: k, ok, bad => by simp only [exitK]; split <;> first | rfl | exact exitK_nat F i k ok bad
  | .c _ :: k, ok, bad => exitK_nat F i k ok bad
  | .lp _ _ :: k, ok, bad => exitK_nat F i k ok bad
  | .frz _ :: k, ok, bad => exitK_nat F i k ok bad
  | .ops _ :: k, ok, bad => exitK_nat F i k ok bad
theorem RunsX.flatTo {its : List It} {t : List AV} {H : Heap} {nx : Ctr} (hf : flat its) (h : RunsX P φ R its t H nx) : RunsTo P φ R its t H nx :=
  h.to (fun l k e => by subst e; exact hf)
theorem flat.f1 {its : List It} (h : flat its) : flat1 its := by
  cases its with
  | nil => trivial
  | cons i k => cases i <;> first | exact h | exact h.elim

theorem flat.app : ∀ {its : List It}, flat its → flat k0 → flat (its ++ k0)
  | [], _, h => h
  | .c _ :: k, hf, h => flat.app (its := k) hf h
  | .blk _ _ :: k, hf, h => flat.app (its := k) hf h
  | .lp _ _ :: k, hf, h => flat.app (its := k) hf h
  | .frz _ :: k, hf, h => flat.app (its := k) hf h
  | .ops _ :: k, hf, h => hf.elim
theorem exitK_app {i : Nat} {m : List Bool} : ∀ {k k' : List It}, exitK i k (fun k m => some (k, m)) none = some (k', m) → exitK i (k ++ k0) (fun k m => some (k, m)) none = some (k' ++ k0, m)
  | [], k', h => by cases h
  | .blk j _ :: k, k', h => by
    simp only [exitK, List.cons_append] at h ⊢
    split at h
    · rename_i e; rw [if_pos e]; simp at h; obtain ⟨rfl, rfl⟩ := h; rfl
    · rename_i e; rw [if_neg e]; exact exitK_app h
  | .c _ :: k, k', h => exitK_app (k := k) h
  | .lp _ _ :: k, k', h => exitK_app (k := k) h
  | .frz _ :: k, k', h => exitK_app (k := k) h
  | .ops _ :: k, k', h => exitK_app (k := k) h

theorem execK_sound {o : Op} {l : List Op} {k : List It} {t : List AV} {H : Heap} {nx : Ctr} {go : List It → List AV → Heap → Ctr → Out}
    (hgo : ∀ t' H' nx', RunsO P φ R k0 (go (.ops l :: k) t' H' nx') → RunsX P φ R (.ops l :: (k ++ k0)) t' H' nx') (hg : ∀ j w, o.g = some (j, w) → getT t j = .bool w)
    (h : RunsO P φ R k0 (execK φ o l k t H nx go)) : RunsX P φ R (.ops (o :: l) :: (k ++ k0)) t H nx := by
  unfold execK at h
  have hcall : ∀ (f m : Nat) (vs : List AV), RunsO P φ R k0 (mapK (frzK 9 H) vs (fun vs' ids => .call f m vs' ids o.d l k t H nx) .bad) → ∃ vs' ids, mapK (frzK 9 H) vs (fun v i => some (v, i)) none = some (vs', ids) ∧ RunsO P φ R k0 (.call f m vs' ids o.d l k t H nx) := by
    intro f m vs h
    rw [mapF_nat (fun x => RunsO P φ R k0 x)] at h
    have h2 := mapF_nat (fun x : Option (List AV × List (Nat × Nat)) => match x with | some (vs', ids) => RunsO P φ R k0 (.call f m vs' ids o.d l k t H nx) | none => False) 9 H vs (fun v i => some (v, i)) none
    have h3 : (match mapK (frzK 9 H) vs (fun v i => some (v, i)) none with | some (vs', ids) => RunsO P φ R k0 (.call f m vs' ids o.d l k t H nx) | none => False) := by rw [h2]; exact h
    cases hmk : mapK (frzK 9 H) vs (fun v i => some (v, i)) none with
    | none => rw [hmk] at h3; exact h3.elim
    | some q => rw [hmk] at h3; exact ⟨_, _, rfl, h3⟩
  generalize hvs : evs t o.x = vs at h
  generalize hok : o.o = ak at h
  split at h
  · rename_i f mode
    split at h
    · obtain ⟨ks, r, Hout, nx', h4, h5, h6⟩ := h
      subst hvs
      exact .op (.call2 hg hok h4 h5) h6
    · have h2 := mapF_nat (fun x => RunsO P φ R k0 x) 9 [] vs (fun vs' i => match i with | [] => .call f 0 vs' [] o.d l k t H nx | _ => .bad) .bad
      have h3 := mapF_nat (fun x : Option (List AV) => match x with | some vs' => RunsO P φ R k0 (.call f 0 vs' [] o.d l k t H nx) | none => False) 9 [] vs (fun v i => match i with | [] => some v | _ => none) none
      have e : (fun (v : List AV) (i : List (Nat × Nat)) => RunsO P φ R k0 (match i with | [] => Out.call f 0 v [] o.d l k t H nx | _ => .bad)) = (fun v i => match (match i with | [] => some v | _ => none : Option (List AV)) with | some vs' => RunsO P φ R k0 (.call f 0 vs' [] o.d l k t H nx) | none => False) := by
        funext v i; cases i <;> rfl
      have h := Eq.mp h2 h
      rw [e] at h
      have h4 : (match mapK (frzK 9 []) vs (fun v i => match i with | [] => some v | _ => none) none with | some vs' => RunsO P φ R k0 (.call f 0 vs' [] o.d l k t H nx) | none => False) := by rw [h3]; exact h
      cases hq : mapK (frzK 9 []) vs (fun v i => match i with | [] => some v | _ => none) none with
      | none => rw [hq] at h4; exact h4.elim
      | some vs' =>
        rw [hq] at h4
        obtain ⟨r, h5, _, h6⟩ := h4
        subst hvs
        exact .op (.call4 hg hok hq h5) h6
    · obtain ⟨vs', ids, hm, h7⟩ := hcall _ _ _ h
      simp only [RunsO] at h7
      subst hvs
      split at h7
      · obtain ⟨r, h4, h5, h6⟩ := h7
        exact .op (.call0 hg hok hm h4 h5) h6
      · obtain ⟨r, h4, h6⟩ := h7
        exact .op (.call1 hg hok hm h4) h6
      · obtain ⟨r, h4, h6⟩ := h7
        exact .op (.call3 hg hok hm h4) h6
      · exact absurd rfl (by assumption)
      · exact h7.elim
  · split at h
    · split at h
      · obtain ⟨ks, r, Hout, nx', h4, h5, h6⟩ := h
        exact .op (.callv2 hg hok hvs h4 h5) h6
      · exact h.elim
      · obtain ⟨vs', ids, hm, h7⟩ := hcall _ _ _ h
        simp only [RunsO] at h7
        split at h7
        · obtain ⟨r, h4, h5, h6⟩ := h7
          exact .op (.callv0 hg hok hvs hm h4 h5) h6
        · obtain ⟨r, h4, h6⟩ := h7
          exact .op (.callv1 hg hok hvs hm h4) h6
        · exact absurd rfl (by assumption)
        · exact absurd rfl (by assumption)
        · exact h7.elim
    · exact h.elim
  · rw [opK_opD] at h
    split at h
    · rename_i v H' nx' hd
      subst hvs hok
      exact .op (.exec hg hd) (hgo _ _ _ h)
    · exact h.elim

theorem RunsTo.dropK {ds : List Nat} {its : List It} {t : List AV} {H : Heap} {nx : Ctr} (h : RunsTo P φ R its t (dropK φ ds H) nx) : RunsTo P φ R its t H nx := by
  unfold Ev.dropK at h
  split at h
  · exact h
  · exact .drop _ h
theorem lp_inv {m : Mk} {a : Cd} {k : List It} {t : List AV} {H : Heap} {nx : Ctr} (h : RunsTo P φ R (.lp m a :: k) t H nx) : RunsTo P φ R (.c a :: .lp m a :: k) t H nx := by
  generalize he : It.lp m a :: k = its at h
  induction h with
  | lp h => cases he; exact h
  | wk hw h ih => exact .wk hw (ih he)
  | drop ids h ih => exact .drop ids (ih he)
  | _ => cases he

theorem adv_sound' (hk0 : flat k0) : ∀ (n : Nat) (its : List It) (t : List AV) (H : Heap) (nx : Ctr), flat1 its → RunsO P φ R k0 (adv n φ its t H nx) → RunsX P φ R (its ++ k0) t H nx
  | 0, its, t, H, nx, _, h => h
  | n + 1, its, t, H, nx, hf, h => by
    have ih : ∀ {its : List It} {t : List AV} {H : Heap} {nx : Ctr}, RunsO P φ R k0 (adv n φ its t H nx) → flat its → RunsTo P φ R (its ++ k0) t H nx := fun h hf => (adv_sound' hk0 n _ _ _ _ hf.f1 h).flatTo (hf.app hk0)
    simp only [adv, advStep] at h
    split at h
    · exact h
    · exact ⟨_, _, _, .nil, ih h hf⟩
    · rename_i o l k
      split at h
      · rename_i hg
        exact execK_sound (fun t' H' nx' h => adv_sound' hk0 n (.ops l :: k) _ _ _ hf h) (fun j w e => by rw [hg] at e; cases e) h
      · rename_i j w hg
        split at h
        · rename_i b hb
          split at h
          · rename_i hbw
            subst hbw
            exact execK_sound (fun t' H' nx' h => adv_sound' hk0 n (.ops l :: k) _ _ _ hf h) (fun j' w' e => by rw [hg] at e; simp at e; obtain ⟨rfl, rfl⟩ := e; exact hb) h
          · rename_i hbw
            exact .op (.skip hg hb hbw) (adv_sound' hk0 n (.ops l :: k) _ _ _ hf h)
        · rename_i hb
          exact .op (.skipU hg hb) (adv_sound' hk0 n (.ops l :: k) _ _ _ hf h)
        · exact h.elim
    · exact RunsX.of (.endB (.wk (Wk.killM _ _) (ih h hf)))
    · rename_i is k
      rw [mapF_nat (fun x => RunsO P φ R k0 x)] at h
      have h2 := mapF_nat (fun x : Option (List AV × List (Nat × Nat)) => match x with | some (vs, ids) => RunsO P φ R k0 (adv n φ k (putAll t is vs) (kill ids H) nx) | none => False) 9 H (gets t is) (fun v i => some (v, i)) none
      have h3 : (match mapK (frzK 9 H) (gets t is) (fun v i => some (v, i)) none with | some (vs, ids) => RunsO P φ R k0 (adv n φ k (putAll t is vs) (kill ids H) nx) | none => False) := by rw [h2]; exact h
      cases hm : mapK (frzK 9 H) (gets t is) (fun v i => some (v, i)) none with
      | none => rw [hm] at h3; exact h3.elim
      | some q =>
        obtain ⟨vs, ids⟩ := q
        rw [hm] at h3
        exact RunsX.of (.frz hm (ih h3 hf))
    · exact RunsX.of (.wk (Wk.killM _ _) (.dropK (RunsX.flatTo (its := .lp _ _ :: (_ ++ k0)) (flat.app (its := .lp _ _ :: _) hf hk0) h)))
    · rename_i c k
      split at h
      · exact RunsX.of (.skip (ih h hf))
      · obtain ⟨t1, H1, nx1, h1, h2⟩ := adv_sound' hk0 n (.ops _ :: k) _ _ _ hf h
        exact RunsX.of (.reg h1 h2)
      · obtain ⟨t1, H1, nx1, h1, h2⟩ := adv_sound' hk0 n (.ops _ :: .frz _ :: k) _ _ _ hf h
        exact RunsX.of (.regf (.reg h1 h2))
      · exact RunsX.of (.seq (ih (its := .c _ :: .c _ :: k) h hf))
      · split at h
        · rename_i x hx
          split at h
          · rename_i hxx; subst hxx
            exact RunsX.of (.condT hx (ih (its := .c _ :: k) h hf))
          · rename_i hxx; simp at hxx; subst hxx
            exact RunsX.of (.condF hx (ih (its := .c _ :: k) h hf))
        · exact h.elim
      · exact RunsX.of (.blk (ih (its := .c _ :: .blk _ _ :: k) h hf))
      · refine RunsX.of (.loop (lp_inv (.wk (Wk.killM _ _) (.dropK (RunsX.flatTo (its := .lp _ _ :: (k ++ k0)) (flat.app (its := .lp _ _ :: k) hf hk0) h)))))
      · rename_i i
        have h2 := exitK_nat (fun x : Option (List It × List Bool) => match x with | some (k', m) => RunsO P φ R k0 (adv n φ k' (killM m t) H nx) | none => False) i k (fun k m => some (k, m)) none
        rw [exitK_nat (fun x => RunsO P φ R k0 x)] at h
        have h3 : (match exitK i k (fun k m => some (k, m)) none with | some (k', m) => RunsO P φ R k0 (adv n φ k' (killM m t) H nx) | none => False) := by rw [h2]; exact h
        cases hk : exitK i k (fun k m => some (k, m)) none with
        | none => rw [hk] at h3; exact h3.elim
        | some q =>
          obtain ⟨k', m⟩ := q
          rw [hk] at h3
          have hf' := exitK_flat (k := k) hf hk
          exact RunsX.of (.exit (exitK_app hk) (.wk (Wk.killM _ _) (ih h3 hf')))
      · exact RunsTo.ret h
theorem adv_sound (n : Nat) (its : List It) (t : List AV) (H : Heap) (nx : Ctr) (hf : flat1 its) (h : RunsO P φ R [] (adv n φ its t H nx)) : RunsX P φ R its t H nx := by
  have := adv_sound' (k0 := []) trivial n its t H nx hf h
  rwa [List.append_nil] at this
theorem wkX {its : List It} {t t' : List AV} {H : Heap} {nx : Ctr} (hf : flat its) (hw : Wk t t') (h : RunsX P φ R its t' H nx) : RunsX P φ R its t H nx := RunsX.of (.wk hw (h.flatTo hf))
theorem lp_step {m : Mk} {b : Cd} {k : List It} {t : List AV} {H : Heap} {nx : Ctr} (hf : flat k) (h : RunsX P φ R (.c b :: .lp m b :: k) t H nx) : RunsX P φ R (.lp m b :: k) t H nx :=
  RunsX.of (.lp (h.flatTo hf))
/-- The evaluator as a name of which no more is known than its step: Lean's kernel is not to unfold it. -/
theorem walk (n : Nat) {its : List It} {t : List AV} {H : Heap} {nx : Ctr} (hk0 : flat k0) (hf : flat1 its) (h : ∀ A : Nat → List It → List AV → Heap → Ctr → Out, (∀ n its t H nx, A (n + 1) its t H nx = advStep φ (A n) its t H nx) → RunsO P φ R k0 (A n its t H nx)) : RunsX P φ R (its ++ k0) t H nx :=
  adv_sound' hk0 n its t H nx hf (h (fun n => adv n φ) (fun n its t H nx => rfl))
theorem walk0 (n : Nat) {its : List It} {t : List AV} {H : Heap} {nx : Ctr} (hf : flat1 its) (h : ∀ A : Nat → List It → List AV → Heap → Ctr → Out, (∀ n its t H nx, A (n + 1) its t H nx = advStep φ (A n) its t H nx) → RunsO P φ R [] (A n its t H nx)) : RunsX P φ R its t H nx :=
  adv_sound n its t H nx hf (h (fun n => adv n φ) (fun n its t H nx => rfl))
theorem round {m : Mk} {b : Cd} {its : List It} {t : List AV} {H : Heap} {nx : Ctr} (n : Nat) (hk0 : flat k0) (hf : flat its) (h : ∀ A : Nat → List It → List AV → Heap → Ctr → Out, (∀ n its t H nx, A (n + 1) its t H nx = advStep φ (A n) its t H nx) → RunsO P φ R k0 (A n (.c b :: .lp m b :: its) t H nx)) : RunsX P φ R (.lp m b :: its ++ k0) t H nx :=
  lp_step (hf.app hk0) (walk n (its := .c b :: .lp m b :: its) hk0 hf h)
theorem call0 {f : Nat} {vs : List AV} {ids : List (Nat × Nat)} {d : Option Nat} {l : List Op} {k : List It} {t : List AV} {H : Heap} {nx : Ctr} {r : AV} (n : Nat) (hk0 : flat k0) (hk : flat k) (hp : PCalls P f vs r) (hs : ids = [] ∨ scal r = true)
    (h : ∀ A : Nat → List It → List AV → Heap → Ctr → Out, (∀ n its t H nx, A (n + 1) its t H nx = advStep φ (A n) its t H nx) → RunsO P φ R k0 (A n (.ops l :: k) (put t d r) H nx)) : RunsO P φ R k0 (.call f 0 vs ids d l k t H nx) :=
  ⟨r, hp, hs, walk n (its := .ops l :: k) hk0 hk h⟩
theorem call2 {f : Nat} {vs : List AV} {ids : List (Nat × Nat)} {d : Option Nat} {l : List Op} {k : List It} {t : List AV} {H : Heap} {nx : Ctr} {r : AV} {Hout : Heap} {nx' : Ctr} (n : Nat) (hk0 : flat k0) (hk : flat k) (ks : List (Nat × Nat)) {Hin Hr : Heap} (hin : sel ks H = Hin) (hre : rest ks H = Hr)
    (hp : HCalls P f vs Hin nx r Hout nx') (hf : Hr = [] ∨ (nameFree 9 Hr r = true ∧ heapFree Hr Hout = true))
    (h : ∀ A : Nat → List It → List AV → Heap → Ctr → Out, (∀ n its t H nx, A (n + 1) its t H nx = advStep φ (A n) its t H nx) → RunsO P φ R k0 (A n (.ops l :: k) (put t d r) (Hout ++ Hr) nx')) : RunsO P φ R k0 (.call f 2 vs ids d l k t H nx) := by
  subst hin hre
  exact ⟨ks, r, Hout, nx', hp, hf, walk n (its := .ops l :: k) hk0 hk h⟩
theorem call1 {f : Nat} {vs : List AV} {ids : List (Nat × Nat)} {d : Option Nat} {l : List Op} {k : List It} {t : List AV} {H : Heap} {nx : Ctr} {r : AV} (n : Nat) (hk0 : flat k0) (hk : flat k) (hp : PCalls P f vs r)
    (h : ∀ A : Nat → List It → List AV → Heap → Ctr → Out, (∀ n its t H nx, A (n + 1) its t H nx = advStep φ (A n) its t H nx) → RunsO P φ R k0 (A n (.ops l :: k) (put t d r) (kill ids H) nx)) : RunsO P φ R k0 (.call f 1 vs ids d l k t H nx) :=
  ⟨r, hp, walk n (its := .ops l :: k) hk0 hk h⟩
theorem call3 {f : Nat} {vs : List AV} {ids : List (Nat × Nat)} {d : Option Nat} {l : List Op} {k : List It} {t : List AV} {H : Heap} {nx : Ctr} {r : AV} (n : Nat) (hk0 : flat k0) (hk : flat k) (hp : PCalls P f vs r)
    (h : ∀ A : Nat → List It → List AV → Heap → Ctr → Out, (∀ n its t H nx, A (n + 1) its t H nx = advStep φ (A n) its t H nx) → RunsO P φ R k0 (A n (.ops l :: k) (put (frzT ids H t) d r) (kill ids H) nx)) : RunsO P φ R k0 (.call f 3 vs ids d l k t H nx) :=
  ⟨r, hp, walk n (its := .ops l :: k) hk0 hk h⟩
end
end Go.Ev
