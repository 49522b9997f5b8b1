/- Told in continuations or plainly: the same. Which operations look at the heap. -/
import Derived.Test.YtmokhopjnjecbaaEvJ
namespace Go.Ev
set_option linter.unusedVariables false
set_option linter.unusedSimpArgs false

section
variable {α β : Type} (F : α → β)
theorem intK_nat (o : BinOp) (k : IntKind) (a b : Int) (ok : AV → α) (bad : α) : F (intK o k a b ok bad) = intK o k a b (fun v => F (ok v)) (F bad) := by
  unfold intK; split <;> first | rfl | (split <;> rfl)
theorem strK_nat (o : BinOp) (x y : ByteArray) (ok : AV → α) (bad : α) : F (strK o x y ok bad) = strK o x y (fun v => F (ok v)) (F bad) := by
  unfold strK; split <;> first | rfl | (split <;> rfl)
theorem binK_nat (o : BinOp) (x y : AV) (ok : AV → α) (bad : α) : F (binK o x y ok bad) = binK o x y (fun v => F (ok v)) (F bad) := by
  unfold binK
  split
  · split
    · split <;> rfl
    · split <;> rfl
    · split
      · exact intK_nat F _ _ _ _ _ _
      · rfl
  · exact strK_nat F _ _ _ _ _
  · rfl
theorem nilpK_nat (x : AV) (ok : Bool → α) (bad : α) : F (nilpK x ok bad) = nilpK x (fun v => F (ok v)) (F bad) := by unfold nilpK; split <;> rfl
theorem nilsK_nat (x : AV) (ok : Bool → α) (bad : α) : F (nilsK x ok bad) = nilsK x (fun v => F (ok v)) (F bad) := by unfold nilsK; split <;> rfl
theorem nilfK_nat (x : AV) (ok : Bool → α) (bad : α) : F (nilfK x ok bad) = nilfK x (fun v => F (ok v)) (F bad) := by unfold nilfK; split <;> rfl
theorem niliK_nat (x : AV) (ok : Bool → α) (bad : α) : F (niliK x ok bad) = niliK x (fun v => F (ok v)) (F bad) := by unfold niliK; split <;> rfl
theorem bndK_nat (x : AV) (m : Nat) (ok : Nat → α) (bad : α) : F (bndK x m ok bad) = bndK x m (fun v => F (ok v)) (F bad) := by
  unfold bndK; split
  · split <;> rfl
  · rfl
theorem cutK_nat (len lim : Nat) (lo hi mx : Bool) (vs : List AV) (ok : Nat → Nat → Option Nat → α) (bad : α) : F (cutK len lim lo hi mx vs ok bad) = cutK len lim lo hi mx vs (fun a b c => F (ok a b c)) (F bad) := by
  unfold cutK
  split
  · rfl
  · exact bndK_nat F _ _ _ _
  · exact bndK_nat F _ _ _ _
  · refine (bndK_nat F _ _ _ _).trans ?_; congr 1; funext h; exact bndK_nat F _ _ _ _
  · refine (bndK_nat F _ _ _ _).trans ?_; congr 1; funext h; exact bndK_nat F _ _ _ _
  · refine (bndK_nat F _ _ _ _).trans ?_; congr 1; funext h; refine (bndK_nat F _ _ _ _).trans ?_; congr 1; funext h; exact bndK_nat F _ _ _ _
  · rfl
theorem fillK_nat : ∀ (ps : List (Nat × Nat)) (vs cs : List AV) (ok : List AV → α) (bad : α), F (fillK ps vs cs ok bad) = fillK ps vs cs (fun v => F (ok v)) (F bad)
  | [], [], cs, ok, bad => rfl
  | [], v :: vs, cs, ok, bad => rfl
  | (a, b) :: ps, [], cs, ok, bad => rfl
  | (a, b) :: ps, v :: vs, cs, ok, bad => by
    simp only [fillK]
    split
    · exact fillK_nat ps vs _ ok bad
    · rfl
theorem mapF_nat (n : Nat) (H : Heap) (l : List AV) (ok : List AV → List (Nat × Nat) → α) (bad : α) : F (mapK (frzK n H) l ok bad) = mapK (frzK n H) l (fun v i => F (ok v i)) (F bad) :=
  mapK_nat F (fun {γ} => frzK (α := γ) n H) (fun F v ok bad => frzK_nat n H F v ok bad) l ok bad

theorem getB_congr {H : Heap} {f d g : Nat} {ok ok' : List AV → α} {bad : α} (h : ∀ cs, ok cs = ok' cs) : getB H f d g ok bad = getB H f d g ok' bad := by
  rw [show ok = ok' from funext h]
theorem mapF_congr {n : Nat} {H : Heap} {l : List AV} {ok ok' : List AV → List (Nat × Nat) → α} {bad : α} (h : ∀ a b, ok a b = ok' a b) : mapK (frzK n H) l ok bad = mapK (frzK n H) l ok' bad := by
  rw [show ok = ok' from funext fun a => funext fun b => h a b]
theorem opK_nat (o : AK) (vs : List AV) (H : Heap) (nx : Ctr) (φ : Nat) (ok : AV → Heap → Ctr → α) (bad : α) : F (opK o vs H nx φ ok bad) = opK o vs H nx φ (fun v H nx => F (ok v H nx)) (F bad) := by
  unfold opK appK
  split
  all_goals
    repeat' first
      | rfl
      | exact binK_nat F _ _ _ _ _
      | exact fillK_nat F _ _ _ _ _
      | exact nilpK_nat F _ _ _
      | exact nilsK_nat F _ _ _
      | exact nilfK_nat F _ _ _
      | exact niliK_nat F _ _ _
      | exact cutK_nat F _ _ _ _ _ _ _ _
      | refine (getB_nat F _ _ _ _ _ _).trans (getB_congr fun cs => ?_)
      | refine (mapF_nat F _ _ _ _ _).trans (mapF_congr fun a b => ?_)
      | split
  all_goals first
    | (refine (cutK_nat F _ _ _ _ _ _ _ _).trans ?_; congr 1; funext l h m; exact apply_ite F _ _ _)
    | exact apply_ite F _ _ _
    | (refine (apply_ite F _ _ _).trans ?_; congr 1; exact (getB_nat F _ _ _ _ _ _).trans (getB_congr fun cs => apply_ite F _ _ _))
    | (refine (apply_ite F _ _ _).trans ?_; congr 1; exact apply_ite F _ _ _)
    | (simp_all; done)
end

/-- 0: looks at its operands alone; 1: looks at the heap; 2: changes it; 3: changes what others have of it. -/
def cls : AK → Nat
  | .mv | .pick | .bin _ | .eqb _ | .eqp _ | .eqs _ | .eqi _ | .eqf _ | .not | .neg | .cpl | .conv _ | .s2b | .box | .fa _ | .fld1 _ | .fldn _ _ | .ixS _ | .ixP _ _ | .ixT | .ixA1 _
  | .slc _ _ _ _ | .slcT _ _ | .len | .lenT | .bld _ _ | .ext _ | .nck | .mn | .mx | .mkf _ | .ifc _ | .ld1r | .ldnr _ | .litr _ _ | .call _ 4 => 0
  | .ld1 | .ldn _ | .ldk _ | .ldnk _ _ | .b2s | .lit _ _ | .call _ 0 | .callv 0 => 1
  | .call _ 3 => 3
  | _ => 2

/-- Plainly told. -/
def opD (o : AK) (vs : List AV) (H : Heap) (nx : Ctr) (φ : Nat) : Option (AV × Heap × Ctr) := opK o vs H nx φ (fun v H nx => some (v, H, nx)) none
theorem opK_opD {α : Type} (o : AK) (vs : List AV) (H : Heap) (nx : Ctr) (φ : Nat) (ok : AV → Heap → Ctr → α) (bad : α) :
    opK o vs H nx φ ok bad = match opD o vs H nx φ with | some (v, H, nx) => ok v H nx | none => bad :=
  (opK_nat (fun x : Option (AV × Heap × Ctr) => match x with | some (v, H, nx) => ok v H nx | none => bad) o vs H nx φ (fun v H nx => some (v, H, nx)) none).symm

/-- What looks at its operands alone. -/
theorem opD_T {o : AK} (h0 : cls o = 0) {vs : List AV} {H : Heap} {nx : Ctr} {φ : Nat} {v : AV} {H' : Heap} {nx' : Ctr} (h : opD o vs H nx φ = some (v, H', nx')) : H' = H ∧ nx' = nx ∧ ∀ H2 nx2, opD o vs H2 nx2 φ = some (v, H2, nx2) := by
  have key : ∃ r : Option AV, ∀ H2 nx2, opD o vs H2 nx2 φ = r.map fun v => (v, H2, nx2) := by
    refine ⟨opK o vs [] zeroC φ (fun v _ _ => some v) none, fun H2 nx2 => ?_⟩
    have e1 : (opK o vs [] zeroC φ (fun v _ _ => some v) none).map (fun v => (v, H2, nx2)) = opK o vs [] zeroC φ (fun v _ _ => some (v, H2, nx2)) none := opK_nat (fun x : Option AV => x.map fun v => (v, H2, nx2)) o vs [] zeroC φ _ _
    rw [e1]
    unfold opD
    cases o <;> first | (simp [cls] at h0; done) | skip
    all_goals
      rcases vs with _ | ⟨a, _ | ⟨b, _ | ⟨c, _ | ⟨d, vs⟩⟩⟩⟩ <;> rfl
  obtain ⟨r, hr⟩ := key
  rw [hr] at h
  cases r with
  | none => cases h
  | some u => simp at h; obtain ⟨rfl, rfl, rfl⟩ := h; exact ⟨rfl, rfl, fun H2 nx2 => by rw [hr]; rfl⟩
/-- What changes nothing. -/
theorem opD_R {o : AK} (h0 : cls o ≤ 1) {vs : List AV} {H : Heap} {nx : Ctr} {φ : Nat} {v : AV} {H' : Heap} {nx' : Ctr} (h : opD o vs H nx φ = some (v, H', nx')) : H' = H ∧ nx' = nx ∧ ∀ nx2, opD o vs H nx2 φ = some (v, H, nx2) := by
  by_cases h1 : cls o = 0
  · obtain ⟨a, b, c⟩ := opD_T h1 h
    exact ⟨a, b, fun nx2 => c _ _⟩
  · have key : ∃ r : Option AV, ∀ nx2, opD o vs H nx2 φ = r.map fun v => (v, H, nx2) := by
      refine ⟨opK o vs H zeroC φ (fun v _ _ => some v) none, fun nx2 => ?_⟩
      have e1 : (opK o vs H zeroC φ (fun v _ _ => some v) none).map (fun v => (v, H, nx2)) = opK o vs H zeroC φ (fun v _ _ => some (v, H, nx2)) none := opK_nat (fun x : Option AV => x.map fun v => (v, H, nx2)) o vs H zeroC φ _ _
      rw [e1]
      unfold opD
      cases o <;> first | (simp [cls] at h0 h1; done) | skip
      all_goals
        rcases vs with _ | ⟨a, _ | ⟨b, _ | ⟨c, _ | ⟨d, vs⟩⟩⟩⟩ <;> rfl
    obtain ⟨r, hr⟩ := key
    rw [hr] at h
    cases r with
    | none => cases h
    | some u => simp at h; obtain ⟨rfl, rfl, rfl⟩ := h; exact ⟨rfl, rfl, fun nx2 => by rw [hr]; rfl⟩
end Go.Ev
