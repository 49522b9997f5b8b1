/- Control; and the function as a whole. -/
import Derived.Test.YtmokhopjnjecbaaEvN
namespace Go.Ev
open Go.RowKit
set_option linter.unusedVariables false
set_option linter.unusedSimpArgs false
set_option linter.unusedSectionVars false

/-- The code, compiled. -/
def compC (P : Program) (M : Nat → Nat) (cm : Nat → Nat) : Code → Option Cd
  | .skip => some .skip
  | .label _ => some .skip
  | .region _ ops draw => match compOps P M cm ops ops.toList with
    | some l => if draw = false ∨ drawnOk ops.toList l = true then some (.reg l) else none
    | none => none
  | .seq a b => match compC P M cm a, compC P M cm b with
    | some x, some y => some (.seq x y)
    | _, _ => none
  | .cond c a b => match arOf c, compC P M cm a, compC P M cm b with
    | some v, some x, some y => some (.cond v x y)
    | _, _, _ => none
  | .block i a => match compC P M cm a with
    | some x => some (.blk i x)
    | none => none
  | .loop a => match compC P M cm a with
    | some x => some (.loop x)
    | none => none
  | .exit i => some (.exit i)
  | .ret => some .ret
  | _ => none

/-- The compiled code runs on and ends so. -/
inductive RunsTo (P : Program) (φ : Nat) (R : List AV → Heap → Nat → Prop) : List It → List AV → Heap → Nat → Prop
  | nil {t H nx} (h : R t H nx) : RunsTo P φ R [] t H nx
  | ret {k t H nx} (h : R t H nx) : RunsTo P φ R (.c .ret :: k) t H nx
  | skip {k t H nx} (h : RunsTo P φ R k t H nx) : RunsTo P φ R (.c .skip :: k) t H nx
  | reg {l k t H nx t1 H1 nx1} (h : OpsRun P φ l t H nx t1 H1 nx1) (n : RunsTo P φ R k t1 H1 nx1) : RunsTo P φ R (.c (.reg l) :: k) t H nx
  | seq {a b k t H nx} (h : RunsTo P φ R (.c a :: .c b :: k) t H nx) : RunsTo P φ R (.c (.seq a b) :: k) t H nx
  | condT {c a b k t H nx} (hc : ev t c = .bool true) (h : RunsTo P φ R (.c a :: k) t H nx) : RunsTo P φ R (.c (.cond c a b) :: k) t H nx
  | condF {c a b k t H nx} (hc : ev t c = .bool false) (h : RunsTo P φ R (.c b :: k) t H nx) : RunsTo P φ R (.c (.cond c a b) :: k) t H nx
  | blk {i a k t H nx} (h : RunsTo P φ R (.c a :: .blk i :: k) t H nx) : RunsTo P φ R (.c (.blk i a) :: k) t H nx
  | loop {a k t H nx} (h : RunsTo P φ R (.c a :: .lp a :: k) t H nx) : RunsTo P φ R (.c (.loop a) :: k) t H nx
  | exit {i k k' t H nx} (he : exitK i k some none = some k') (h : RunsTo P φ R k' t H nx) : RunsTo P φ R (.c (.exit i) :: k) t H nx
  | endB {i k t H nx} (h : RunsTo P φ R k t H nx) : RunsTo P φ R (.blk i :: k) t H nx
  | lp {a k t H nx} (h : RunsTo P φ R (.c a :: .lp a :: k) t H nx) : RunsTo P φ R (.lp a :: k) t H nx

/-- The same, in the midst of a region too. -/
def RunsX (P : Program) (φ : Nat) (R : List AV → Heap → Nat → Prop) (its : List It) (t : List AV) (H : Heap) (nx : Nat) : Prop :=
  match its with
  | .ops l :: k => ∃ t1 H1 nx1, OpsRun P φ l t H nx t1 H1 nx1 ∧ RunsTo P φ R k t1 H1 nx1
  | its => RunsTo P φ R its t H nx
def RunsO (P : Program) (φ : Nat) (R : List AV → Heap → Nat → Prop) (k0 : List It) : Out → Prop
  | .more k t H nx => RunsX P φ R (k ++ k0) t H nx
  | .done t H nx => R t H nx
  | .fall t H nx => RunsX P φ R k0 t H nx
  | .bad => False
  | .call f mode vs ids d l k t H nx => match mode with
    | 0 => ∃ r, PCalls P f vs r ∧ (ids = [] ∨ scal r = true) ∧ RunsX P φ R (.ops l :: (k ++ k0)) (put t d r) H nx
    | 1 => ∃ r, PCalls P f vs r ∧ RunsX P φ R (.ops l :: (k ++ k0)) (put t d r) (kill ids H) nx
    | 2 => ∃ ks r Hout nx', HCalls P f vs (sel ks H) nx r Hout nx' ∧ (rest ks H = [] ∨ (nameFree 9 (rest ks H) r = true ∧ heapFree (rest ks H) Hout = true)) ∧ RunsX P φ R (.ops l :: (k ++ k0)) (put t d r) (Hout ++ rest ks H) nx'
    | _ => False

section
variable {P : Program} {φ : Nat} {R : List AV → Heap → Nat → Prop} {k0 : List It}

theorem RunsX.to {its : List It} {t : List AV} {H : Heap} {nx : Nat} (h : RunsX P φ R its t H nx) (hn : ∀ l k, its ≠ .ops l :: k) : RunsTo P φ R its t H nx := by
  unfold RunsX at h
  split at h
  · exact absurd rfl (hn _ _)
  · exact h
theorem RunsX.of {its : List It} {t : List AV} {H : Heap} {nx : Nat} (h : RunsTo P φ R its t H nx) : RunsX P φ R its t H nx := by
  unfold RunsX
  split
  · cases h
  · exact h
theorem RunsX.noOps {i : It} {k : List It} {t : List AV} {H : Heap} {nx : Nat} (h : RunsX P φ R (i :: k) t H nx) (hn : ∀ l, i ≠ .ops l) : RunsTo P φ R (i :: k) t H nx :=
  h.to (fun l k' e => hn l (by simp at e; exact e.1))
theorem RunsX.op {o : Op} {l : List Op} {k : List It} {t : List AV} {H : Heap} {nx : Nat} {t1 : List AV} {H1 : Heap} {nx1 : Nat} (hs : OpStep P φ o t H nx t1 H1 nx1) (h : RunsX P φ R (.ops l :: k) t1 H1 nx1) : RunsX P φ R (.ops (o :: l) :: k) t H nx := by
  obtain ⟨t2, H2, nx2, h1, h2⟩ := h
  exact ⟨t2, H2, nx2, .cons hs h1, h2⟩

/-- A continuation has no half-done region below its head. -/
def flat : List It → Prop
  | [] => True
  | .ops _ :: _ => False
  | _ :: k => flat k
def flat1 : List It → Prop
  | .ops _ :: k => flat k
  | k => flat k
theorem exitK_flat {i : Nat} : ∀ {k k' : List It}, flat k → exitK i k some none = some k' → flat k'
  | [], k', _, h => by cases h
  | .blk j :: k, k', hf, h => by
    simp only [exitK] at h
    split at h
    · simp at h; subst h; exact hf
    · exact exitK_flat (k := k) hf h
  | .c _ :: k, k', hf, h => exitK_flat (k := k) hf h
  | .lp _ :: k, k', hf, h => exitK_flat (k := k) hf h
  | .ops _ :: k, k', hf, h => hf.elim
theorem exitK_nat {α β : Type} (F : α → β) (i : Nat) : ∀ (k : List It) (ok : List It → α) (bad : α), F (exitK i k ok bad) = exitK i k (fun k => F (ok k)) (F bad)
  | [], _, _ => rfl
  | .blk j :: k, ok, bad => by simp only [exitK]; split <;> first | rfl | exact exitK_nat F i k ok bad
  | .c _ :: k, ok, bad => exitK_nat F i k ok bad
  | .lp _ :: k, ok, bad => exitK_nat F i k ok bad
  | .ops _ :: k, ok, bad => exitK_nat F i k ok bad
theorem RunsX.flatTo {its : List It} {t : List AV} {H : Heap} {nx : Nat} (hf : flat its) (h : RunsX P φ R its t H nx) : RunsTo P φ R its t H nx :=
  h.to (fun l k e => by subst e; exact hf)
theorem flat.f1 {its : List It} (h : flat its) : flat1 its := by
  cases its with
  | nil => trivial
  | cons i k => cases i <;> first | exact h | exact h.elim

theorem flat.app : ∀ {its : List It}, flat its → flat k0 → flat (its ++ k0)
  | [], _, h => h
  | .c _ :: k, hf, h => flat.app (its := k) hf h
  | .blk _ :: k, hf, h => flat.app (its := k) hf h
  | .lp _ :: k, hf, h => flat.app (its := k) hf h
  | .ops _ :: k, hf, h => hf.elim
theorem exitK_app {i : Nat} : ∀ {k k' : List It}, exitK i k some none = some k' → exitK i (k ++ k0) some none = some (k' ++ k0)
  | [], k', h => by cases h
  | .blk j :: k, k', h => by
    simp only [exitK, List.cons_append] at h ⊢
    split at h
    · rename_i e; rw [if_pos e]; simp at h; subst h; rfl
    · rename_i e; rw [if_neg e]; exact exitK_app h
  | .c _ :: k, k', h => exitK_app (k := k) h
  | .lp _ :: k, k', h => exitK_app (k := k) h
  | .ops _ :: k, k', h => exitK_app (k := k) h

theorem execK_sound {o : Op} {l : List Op} {k : List It} {t : List AV} {H : Heap} {nx : Nat} {go : List It → List AV → Heap → Nat → Out}
    (hgo : ∀ t' H' nx', RunsO P φ R k0 (go (.ops l :: k) t' H' nx') → RunsX P φ R (.ops l :: (k ++ k0)) t' H' nx') (hg : ∀ j w, o.g = some (j, w) → getT t j = .bool w)
    (h : RunsO P φ R k0 (execK φ o l k t H nx go)) : RunsX P φ R (.ops (o :: l) :: (k ++ k0)) t H nx := by
  unfold execK at h
  have hcall : ∀ (f m : Nat) (vs : List AV), RunsO P φ R k0 (mapK (frzK 9 H) vs (fun vs' ids => .call f m vs' ids o.d l k t H nx) .bad) → ∃ vs' ids, mapK (frzK 9 H) vs (fun v i => some (v, i)) none = some (vs', ids) ∧ RunsO P φ R k0 (.call f m vs' ids o.d l k t H nx) := by
    intro f m vs h
    rw [mapF_nat (fun x => RunsO P φ R k0 x)] at h
    have h2 := mapF_nat (fun x : Option (List AV × List (Nat × Nat)) => match x with | some (vs', ids) => RunsO P φ R k0 (.call f m vs' ids o.d l k t H nx) | none => False) 9 H vs (fun v i => some (v, i)) none
    have h3 : (match mapK (frzK 9 H) vs (fun v i => some (v, i)) none with | some (vs', ids) => RunsO P φ R k0 (.call f m vs' ids o.d l k t H nx) | none => False) := by rw [h2]; exact h
    cases hmk : mapK (frzK 9 H) vs (fun v i => some (v, i)) none with
    | none => rw [hmk] at h3; exact h3.elim
    | some q => rw [hmk] at h3; exact ⟨_, _, rfl, h3⟩
  generalize hvs : evs t o.x = vs at h
  generalize hok : o.o = ak at h
  split at h
  · rename_i f mode
    split at h
    · obtain ⟨ks, r, Hout, nx', h4, h5, h6⟩ := h
      subst hvs
      exact .op (.call2 hg hok h4 h5) h6
    · obtain ⟨vs', ids, hm, h7⟩ := hcall _ _ _ h
      simp only [RunsO] at h7
      subst hvs
      split at h7
      · obtain ⟨r, h4, h5, h6⟩ := h7
        exact .op (.call0 hg hok hm h4 h5) h6
      · obtain ⟨r, h4, h6⟩ := h7
        exact .op (.call1 hg hok hm h4) h6
      · exact absurd rfl (by assumption)
      · exact h7.elim
  · split at h
    · split at h
      · obtain ⟨ks, r, Hout, nx', h4, h5, h6⟩ := h
        exact .op (.callv2 hg hok hvs h4 h5) h6
      · obtain ⟨vs', ids, hm, h7⟩ := hcall _ _ _ h
        simp only [RunsO] at h7
        split at h7
        · obtain ⟨r, h4, h5, h6⟩ := h7
          exact .op (.callv0 hg hok hvs hm h4 h5) h6
        · obtain ⟨r, h4, h6⟩ := h7
          exact .op (.callv1 hg hok hvs hm h4) h6
        · exact absurd rfl (by assumption)
        · exact h7.elim
    · exact h.elim
  · rw [opK_opD] at h
    split at h
    · rename_i v H' nx' hd
      subst hvs hok
      exact .op (.exec hg hd) (hgo _ _ _ h)
    · exact h.elim

theorem adv_sound' (hk0 : flat k0) : ∀ (n : Nat) (its : List It) (t : List AV) (H : Heap) (nx : Nat), flat1 its → RunsO P φ R k0 (adv n φ its t H nx) → RunsX P φ R (its ++ k0) t H nx
  | 0, its, t, H, nx, _, h => h
  | n + 1, its, t, H, nx, hf, h => by
    have ih : ∀ {its : List It} {t : List AV} {H : Heap} {nx : Nat}, RunsO P φ R k0 (adv n φ its t H nx) → flat its → RunsTo P φ R (its ++ k0) t H nx := fun h hf => (adv_sound' hk0 n _ _ _ _ hf.f1 h).flatTo (hf.app hk0)
    simp only [adv, advStep] at h
    split at h
    · exact h
    · exact ⟨_, _, _, .nil, ih h hf⟩
    · rename_i o l k
      split at h
      · rename_i hg
        exact execK_sound (fun t' H' nx' h => adv_sound' hk0 n (.ops l :: k) _ _ _ hf h) (fun j w e => by rw [hg] at e; cases e) h
      · rename_i j w hg
        split at h
        · rename_i b hb
          split at h
          · rename_i hbw
            subst hbw
            exact execK_sound (fun t' H' nx' h => adv_sound' hk0 n (.ops l :: k) _ _ _ hf h) (fun j' w' e => by rw [hg] at e; simp at e; obtain ⟨rfl, rfl⟩ := e; exact hb) h
          · rename_i hbw
            exact .op (.skip hg hb hbw) (adv_sound' hk0 n (.ops l :: k) _ _ _ hf h)
        · rename_i hb
          exact .op (.skipU hg hb) (adv_sound' hk0 n (.ops l :: k) _ _ _ hf h)
        · exact h.elim
    · exact RunsX.of (.endB (ih h hf))
    · exact h
    · rename_i c k
      split at h
      · exact RunsX.of (.skip (ih h hf))
      · obtain ⟨t1, H1, nx1, h1, h2⟩ := adv_sound' hk0 n (.ops _ :: k) _ _ _ hf h
        exact RunsX.of (.reg h1 h2)
      · exact RunsX.of (.seq (ih (its := .c _ :: .c _ :: k) h hf))
      · split at h
        · rename_i x hx
          split at h
          · rename_i hxx; subst hxx
            exact RunsX.of (.condT hx (ih (its := .c _ :: k) h hf))
          · rename_i hxx; simp at hxx; subst hxx
            exact RunsX.of (.condF hx (ih (its := .c _ :: k) h hf))
        · exact h.elim
      · exact RunsX.of (.blk (ih (its := .c _ :: .blk _ :: k) h hf))
      · refine RunsX.of (.loop ?_)
        have h1 : RunsTo P φ R (.lp _ :: (k ++ k0)) t H nx := h
        cases h1 with | lp h1 => exact h1
      · rename_i i
        have h2 := exitK_nat (fun x : Option (List It) => match x with | some k' => RunsO P φ R k0 (adv n φ k' t H nx) | none => False) i k some none
        rw [exitK_nat (fun x => RunsO P φ R k0 x)] at h
        have h3 : (match exitK i k some none with | some k' => RunsO P φ R k0 (adv n φ k' t H nx) | none => False) := by rw [h2]; exact h
        cases hk : exitK i k some none with
        | none => rw [hk] at h3; exact h3.elim
        | some k' =>
          rw [hk] at h3
          have hf' := exitK_flat (k := k) hf hk
          exact RunsX.of (.exit (exitK_app hk) (ih h3 hf'))
      · exact RunsTo.ret h
theorem adv_sound (n : Nat) (its : List It) (t : List AV) (H : Heap) (nx : Nat) (hf : flat1 its) (h : RunsO P φ R [] (adv n φ its t H nx)) : RunsX P φ R its t H nx := by
  have := adv_sound' (k0 := []) trivial n its t H nx hf h
  rwa [List.append_nil] at this
theorem lp_step {b : Cd} {k : List It} {t : List AV} {H : Heap} {nx : Nat} (hf : flat k) (h : RunsX P φ R (.c b :: .lp b :: k) t H nx) : RunsX P φ R (.lp b :: k) t H nx :=
  RunsX.of (.lp (h.flatTo hf))
/-- The evaluator as a name of which no more is known than its step: Lean's kernel is not to unfold it. -/
theorem walk (n : Nat) {its : List It} {t : List AV} {H : Heap} {nx : Nat} (hk0 : flat k0) (hf : flat1 its) (h : ∀ A : Nat → List It → List AV → Heap → Nat → Out, (∀ n its t H nx, A (n + 1) its t H nx = advStep φ (A n) its t H nx) → RunsO P φ R k0 (A n its t H nx)) : RunsX P φ R (its ++ k0) t H nx :=
  adv_sound' hk0 n its t H nx hf (h (fun n => adv n φ) (fun n its t H nx => rfl))
theorem walk0 (n : Nat) {its : List It} {t : List AV} {H : Heap} {nx : Nat} (hf : flat1 its) (h : ∀ A : Nat → List It → List AV → Heap → Nat → Out, (∀ n its t H nx, A (n + 1) its t H nx = advStep φ (A n) its t H nx) → RunsO P φ R [] (A n its t H nx)) : RunsX P φ R its t H nx :=
  adv_sound n its t H nx hf (h (fun n => adv n φ) (fun n its t H nx => rfl))
theorem round {b : Cd} {its : List It} {t : List AV} {H : Heap} {nx : Nat} (n : Nat) (hk0 : flat k0) (hf : flat its) (h : ∀ A : Nat → List It → List AV → Heap → Nat → Out, (∀ n its t H nx, A (n + 1) its t H nx = advStep φ (A n) its t H nx) → RunsO P φ R k0 (A n (.c b :: .lp b :: its) t H nx)) : RunsX P φ R (.lp b :: its ++ k0) t H nx :=
  lp_step (hf.app hk0) (walk n (its := .c b :: .lp b :: its) hk0 hf h)
theorem call0 {f : Nat} {vs : List AV} {ids : List (Nat × Nat)} {d : Option Nat} {l : List Op} {k : List It} {t : List AV} {H : Heap} {nx : Nat} {r : AV} (n : Nat) (hk0 : flat k0) (hk : flat k) (hp : PCalls P f vs r) (hs : ids = [] ∨ scal r = true)
    (h : ∀ A : Nat → List It → List AV → Heap → Nat → Out, (∀ n its t H nx, A (n + 1) its t H nx = advStep φ (A n) its t H nx) → RunsO P φ R k0 (A n (.ops l :: k) (put t d r) H nx)) : RunsO P φ R k0 (.call f 0 vs ids d l k t H nx) :=
  ⟨r, hp, hs, walk n (its := .ops l :: k) hk0 hk h⟩
theorem call2 {f : Nat} {vs : List AV} {ids : List (Nat × Nat)} {d : Option Nat} {l : List Op} {k : List It} {t : List AV} {H : Heap} {nx : Nat} {r : AV} {Hout : Heap} {nx' : Nat} (n : Nat) (hk0 : flat k0) (hk : flat k) (ks : List (Nat × Nat)) {Hin Hr : Heap} (hin : sel ks H = Hin) (hre : rest ks H = Hr)
    (hp : HCalls P f vs Hin nx r Hout nx') (hf : Hr = [] ∨ (nameFree 9 Hr r = true ∧ heapFree Hr Hout = true))
    (h : ∀ A : Nat → List It → List AV → Heap → Nat → Out, (∀ n its t H nx, A (n + 1) its t H nx = advStep φ (A n) its t H nx) → RunsO P φ R k0 (A n (.ops l :: k) (put t d r) (Hout ++ Hr) nx')) : RunsO P φ R k0 (.call f 2 vs ids d l k t H nx) := by
  subst hin hre
  exact ⟨ks, r, Hout, nx', hp, hf, walk n (its := .ops l :: k) hk0 hk h⟩
theorem call1 {f : Nat} {vs : List AV} {ids : List (Nat × Nat)} {d : Option Nat} {l : List Op} {k : List It} {t : List AV} {H : Heap} {nx : Nat} {r : AV} (n : Nat) (hk0 : flat k0) (hk : flat k) (hp : PCalls P f vs r)
    (h : ∀ A : Nat → List It → List AV → Heap → Nat → Out, (∀ n its t H nx, A (n + 1) its t H nx = advStep φ (A n) its t H nx) → RunsO P φ R k0 (A n (.ops l :: k) (put t d r) (kill ids H) nx)) : RunsO P φ R k0 (.call f 1 vs ids d l k t H nx) :=
  ⟨r, hp, walk n (its := .ops l :: k) hk0 hk h⟩
end
end Go.Ev
