/- A closed call, reckoned: the compiled code is run, calls and all; what comes out is the function's contract. -/
import Derived.Test.YtmokhopjnjecbaaEvQ
namespace Go.Ev
open Go.RowKit
set_option linter.unusedVariables false
set_option linter.unusedSectionVars false

abbrev Tab := Nat → Option (Cd × Nat × List RS)
/-- Each row of the table is its function's compiled code. -/
def TabOk (P : Program) (T : Tab) : Prop := ∀ f cd nt rs, T f = some (cd, nt, rs) →
  (∀ (args : List AV) (r : AV), RunsX P 0 (Gives rs r) [.c cd] (args ++ List.replicate (nt - args.length) (.tup [])) [] zeroC → PCalls P f args r) ∧
  (∀ (args : List AV) (Hin Hout : Heap) (nx nx2 : Ctr) (r : AV) (φ : Nat) (ks : List (Nat × Nat)), RunsX P φ (GivesH ks rs r Hout nx2) [.c cd] (args ++ List.replicate (nt - args.length) (.tup [])) Hin nx → HCalls P f args Hin nx r Hout nx2)
def flatB : List It → Bool
  | [] => true
  | .ops _ :: _ => false
  | _ :: k => flatB k
def flat1B : List It → Bool
  | .ops _ :: k => flatB k
  | k => flatB k
theorem flatB_of : ∀ {k : List It}, flatB k = true → flat k
  | [], _ => trivial
  | .ops _ :: _, h => by simp [flatB] at h
  | .c _ :: k, h => flatB_of (k := k) h
  | .blk _ _ :: k, h => flatB_of (k := k) h
  | .lp _ _ :: k, h => flatB_of (k := k) h
  | .frz _ :: k, h => flatB_of (k := k) h
theorem flat1B_of : ∀ {k : List It}, flat1B k = true → flat1 k
  | [], _ => trivial
  | .ops _ :: k, h => flatB_of (k := k) h
  | .c _ :: k, h => flatB_of (k := k) h
  | .blk _ _ :: k, h => flatB_of (k := k) h
  | .lp _ _ :: k, h => flatB_of (k := k) h
  | .frz _ :: k, h => flatB_of (k := k) h
def allKeys : Heap → List (Nat × Nat)
  | [] => []
  | (f, d, _, _) :: H => (f, d) :: allKeys H
def fillT (vs : List AV) (nt : Nat) : List AV := vs ++ List.replicate (nt - vs.length) (.tup [])
def goF (T : Tab) : Nat → Nat → Nat → Out → Option (List AV × Heap × Ctr × Nat)
  | 0, _, _, _ => none
  | n + 1, φ, c, o => match o with
    | .done t H nx => some (t, H, nx, c)
    | .fall t H nx => some (t, H, nx, c)
    | .bad => none
    | .more k t H nx => match k with
      | .lp m b :: k' => if flatB k' = true then goF T n φ c (adv 2000 φ (.c b :: .lp m b :: k') t H nx) else none
      | k => if flat1B k = true then goF T n φ c (adv 2000 φ k t H nx) else none
    | .call f mode vs ids d l k t H nx => if flatB k = true then (match T f with
      | none => none
      | some (cd, nt, rs) => match mode with
        | 0 => match goF T n 0 1 (adv 2000 0 [.c cd] (fillT vs nt) [] zeroC) with
          | some (t', H', _, _) => match retK rs t' H' some none with
            | some r => if (ids.isEmpty || scal r) = true then goF T n φ c (adv 2000 φ (.ops l :: k) (put t d r) H nx) else none
            | none => none
          | none => none
        | 1 => match goF T n 0 1 (adv 2000 0 [.c cd] (fillT vs nt) [] zeroC) with
          | some (t', H', _, _) => match retK rs t' H' some none with
            | some r => goF T n φ c (adv 2000 φ (.ops l :: k) (put t d r) (kill ids H) nx)
            | none => none
          | none => none
        | 3 => match goF T n 0 1 (adv 2000 0 [.c cd] (fillT vs nt) [] zeroC) with
          | some (t', H', _, _) => match retK rs t' H' some none with
            | some r => goF T n φ c (adv 2000 φ (.ops l :: k) (put (frzT ids H t) d r) (kill ids H) nx)
            | none => none
          | none => none
        | 2 => if (rest (allKeys H) H).isEmpty = true then (match goF T n c (c + 1) (adv 2000 c [.c cd] (fillT vs nt) (sel (allKeys H) H) nx) with
          | some (t', H', nx', c') => match getsK rs t' H' (fun vs => some (retv vs)) none with
            | some r => goF T n φ c' (adv 2000 φ (.ops l :: k) (put t d r) (sel (allKeys H') H' ++ rest (allKeys H) H) nx')
            | none => none
          | none => none) else none
        | _ => none) else none
section
variable {P : Program} {T : Tab}
theorem goF_sound (hT : TabOk P T) : ∀ (n φ c : Nat) (o : Out) (t : List AV) (H : Heap) (nx : Ctr) (c' : Nat), goF T n φ c o = some (t, H, nx, c') → ∀ R : List AV → Heap → Ctr → Prop, R t H nx → RunsO P φ R [] o
  | 0, _, _, _, _, _, _, _, h, _, _ => by simp [goF] at h
  | n + 1, φ, c, o, t, H, nx, c', h, R, hR => by
    have ih := goF_sound hT n
    have pure : ∀ {f : Nat} {cd : Cd} {nt : Nat} {rs : List RS} {vs : List AV} {t' : List AV} {H' : Heap} {nx' : Ctr} {c1 : Nat} {r : AV}, T f = some (cd, nt, rs) → goF T n 0 1 (adv 2000 0 [.c cd] (fillT vs nt) [] zeroC) = some (t', H', nx', c1) → retK rs t' H' some none = some r → PCalls P f vs r := by
      intro f cd nt rs vs t' H' nx' c1 r h1 h2 h3
      exact (hT _ _ _ _ h1).1 _ _ (adv_sound 2000 [.c cd] _ _ _ trivial (ih _ _ _ _ _ _ _ h2 _ (Gives.of h3)))
    cases o with
    | done t1 H1 nx1 => simp only [goF, Option.some.injEq, Prod.mk.injEq] at h; obtain ⟨rfl, rfl, rfl, _⟩ := h; exact hR
    | fall t1 H1 nx1 => simp only [goF, Option.some.injEq, Prod.mk.injEq] at h; obtain ⟨rfl, rfl, rfl, _⟩ := h; exact RunsX.of (.nil hR)
    | bad => simp [goF] at h
    | more k t1 H1 nx1 =>
      simp only [goF] at h
      split at h
      · rename_i m b k'
        split at h
        · rename_i hf
          have := ih _ _ _ _ _ _ _ h R hR
          show RunsX P φ R (.lp m b :: k' ++ []) t1 H1 nx1
          rw [List.append_nil]
          refine lp_step (flatB_of hf) (adv_sound 2000 _ _ _ _ ?_ this)
          exact flatB_of (k := k') hf
        · cases h
      · split at h
        · rename_i hf
          have := ih _ _ _ _ _ _ _ h R hR
          show RunsX P φ R (k ++ []) t1 H1 nx1
          rw [List.append_nil]
          exact adv_sound 2000 _ _ _ _ (flat1B_of hf) this
        · cases h
    | call f mode vs ids d l k t1 H1 nx1 =>
      simp only [goF] at h
      split at h
      case isFalse => cases h
      rename_i hf
      have hk := flatB_of hf
      have cont : ∀ {t2 : List AV} {H2 : Heap} {nx2 : Ctr} {c2 : Nat}, goF T n φ c2 (adv 2000 φ (.ops l :: k) t2 H2 nx2) = some (t, H, nx, c') → RunsX P φ R (.ops l :: (k ++ [])) t2 H2 nx2 := by
        intro t2 H2 nx2 c2 h
        rw [List.append_nil]
        exact adv_sound 2000 (.ops l :: k) _ _ _ hk (ih _ _ _ _ _ _ _ h R hR)
      split at h
      · cases h
      · rename_i cd nt rs hTf
        split at h
        · split at h
          · rename_i hg
            split at h
            · rename_i r hr
              split at h
              · rename_i hs
                refine ⟨r, pure hTf hg hr, ?_, cont h⟩
                simp only [Bool.or_eq_true, List.isEmpty_iff] at hs
                exact hs
              · cases h
            · cases h
          · cases h
        · split at h
          · rename_i hg
            split at h
            · rename_i r hr
              exact ⟨r, pure hTf hg hr, cont h⟩
            · cases h
          · cases h
        · split at h
          · rename_i hg
            split at h
            · rename_i r hr
              exact ⟨r, pure hTf hg hr, cont h⟩
            · cases h
          · cases h
        · split at h
          · rename_i hre
            split at h
            · rename_i t' H' nx' c1 hg
              split at h
              · rename_i r hr
                refine ⟨allKeys H1, r, sel (allKeys H') H', nx', ?_, .inl (List.isEmpty_iff.1 hre), cont h⟩
                exact (hT _ _ _ _ hTf).2 _ _ _ _ _ _ c (allKeys H') (adv_sound 2000 [.c cd] _ _ _ trivial (ih _ _ _ _ _ _ _ hg _ ⟨rfl, ⟨r, hr, Wk1.refl r⟩, rfl⟩))
              · cases h
            · cases h
          · cases h
        · cases h
/-- What a closed call gives. -/
def evalF (T : Tab) (n f : Nat) (args : List AV) : Option AV := match T f with
  | some (cd, nt, rs) => match goF T n 0 1 (adv 2000 0 [.c cd] (fillT args nt) [] zeroC) with
    | some (t', H', _, _) => retK rs t' H' some none
    | none => none
  | none => none
theorem evalF_calls (hT : TabOk P T) {n f : Nat} {args : List AV} {r : AV} (h : evalF T n f args = some r) : PCalls P f args r := by
  unfold evalF at h
  split at h
  · rename_i cd nt rs hTf
    split at h
    · rename_i hg
      exact (hT _ _ _ _ hTf).1 _ _ (adv_sound 2000 [.c cd] _ _ _ trivial (goF_sound hT n _ _ _ _ _ _ _ hg _ (Gives.of h)))
    · cases h
  · cases h
/-- What a call gives over that heap. -/
def evalH (T : Tab) (n f : Nat) (args : List AV) (Hin : Heap) (nx : Ctr) : Option (AV × Heap × Ctr) := match T f with
  | some (cd, nt, rs) => match goF T n 7 8 (adv 2000 7 [.c cd] (fillT args nt) Hin nx) with
    | some (t', H', nx', _) => match getsK rs t' H' (fun vs => some (retv vs)) none with
      | some r => some (r, sel (allKeys H') H', nx')
      | none => none
    | none => none
  | none => none
theorem evalH_calls (hT : TabOk P T) {n f : Nat} {args : List AV} {Hin : Heap} {nx : Ctr} {r : AV} {Hout : Heap} {nx' : Ctr} (h : evalH T n f args Hin nx = some (r, Hout, nx')) : HCalls P f args Hin nx r Hout nx' := by
  unfold evalH at h
  split at h
  · rename_i cd nt rs hTf
    split at h
    · rename_i t' H' nx1 c1 hg
      split at h
      · rename_i r1 hr
        simp only [Option.some.injEq, Prod.mk.injEq] at h
        obtain ⟨rfl, rfl, rfl⟩ := h
        exact (hT _ _ _ _ hTf).2 _ _ _ _ _ _ 7 (allKeys H') (adv_sound 2000 [.c cd] _ _ _ trivial (goF_sound hT n _ _ _ _ _ _ _ hg _ ⟨rfl, ⟨r1, hr, Wk1.refl r1⟩, rfl⟩))
      · cases h
    · cases h
  · cases h
/-- A table, row by row. -/
def tabOf : List (Nat × Cd × Nat × List RS) → Tab
  | [], _ => none
  | (f', x) :: l, f => if f' = f then some x else tabOf l f
theorem tab_nil : TabOk P (tabOf []) := fun f cd nt rs h => by simp [tabOf] at h
theorem tab_cons {f : Nat} {cd : Cd} {nt : Nat} {rs : List RS} {l : List (Nat × Cd × Nat × List RS)}
    (h1 : ∀ {args : List AV} {r : AV}, RunsX P 0 (Gives rs r) [.c cd] (args ++ List.replicate (nt - args.length) (.tup [])) [] zeroC → PCalls P f args r)
    (h2 : ∀ {args : List AV} {Hin Hout : Heap} {nx nx2 : Ctr} {r : AV} (φ : Nat) (ks : List (Nat × Nat)), RunsX P φ (GivesH ks rs r Hout nx2) [.c cd] (args ++ List.replicate (nt - args.length) (.tup [])) Hin nx → HCalls P f args Hin nx r Hout nx2)
    (h : TabOk P (tabOf l)) : TabOk P (tabOf ((f, cd, nt, rs) :: l)) := by
  intro f' cd' nt' rs' hf
  simp only [tabOf] at hf
  split at hf
  · rename_i he
    subst he
    simp only [Option.some.injEq, Prod.mk.injEq] at hf
    obtain ⟨rfl, rfl, rfl⟩ := hf
    exact ⟨fun _ _ h => h1 h, fun _ _ _ _ _ _ φ ks h => h2 φ ks h⟩
  · exact h _ _ _ _ hf
theorem tabOf_append (a b : List (Nat × Cd × Nat × List RS)) (f : Nat) : tabOf (a ++ b) f = match tabOf a f with | some x => some x | none => tabOf b f := by
  induction a with
  | nil => rfl
  | cons x a ih =>
    obtain ⟨f', x⟩ := x
    simp only [List.cons_append, tabOf]
    split
    · rfl
    · exact ih
theorem tab_append {a b : List (Nat × Cd × Nat × List RS)} (ha : TabOk P (tabOf a)) (hb : TabOk P (tabOf b)) : TabOk P (tabOf (a ++ b)) := by
  intro f cd nt rs h
  rw [tabOf_append] at h
  split at h
  · rename_i x hx; exact ha _ _ _ _ (hx.trans h)
  · exact hb _ _ _ _ h
end
end Go.Ev
