/- Regions: whatever order is drawn, what the text's order gives. Calls by contract. -/
import Derived.Test.YtmokhopjnjecbacM1
namespace Go.Ev
open Go.RowKit
set_option linter.unusedVariables false
set_option linter.unusedSimpArgs false
set_option linter.unusedSectionVars false

def fnOk (P : Program) (f : Nat) : Bool := match P.funcs[f]? with | some fn => fn.name != "runtime.NumGoroutine" && fn.body.isSome | none => false

/-- Called with these values the function gives that one, and writes nothing that was there. -/
structure PCalls (P : Program) (f : Nat) (args : List AV) (r : AV) : Prop where
  ok : fnOk P f = true
  calls : ∀ (X : Nat → Prop) (w : World) (vals : List Value), (∀ b, X b → b < w.heap.size) → Reps none4 X zeroC w true args vals →
    Calls P f vals.toArray w fun e w' => ∃ v, e = .returned v ∧ Below w.heap.size w w' ∧ Rep none4 X zeroC w' true r v

/-- The blocks of a heap's entries. -/
def Own (H : Heap) (bm : Nat → Nat → Nat) : Nat → Prop := fun b => ∃ f d g cs, find H f d = some (g, some cs) ∧ b = bm f d
/-- Called with these values over this heap the function gives that one and that heap, and writes nothing else that was there. -/
structure HCalls (P : Program) (f : Nat) (args : List AV) (Hin : Heap) (nx : Ctr) (r : AV) (Hout : Heap) (nx' : Ctr) : Prop where
  ok : fnOk P f = true
  calls : ∀ (X : Nat → Prop) (w : World) (bm : Nat → Nat → Nat) (vals : List Value), Rel w (Own Hin bm) X bm Hin nx w → Reps (Lof Hin bm) X nx w false args vals →
    Calls P f vals.toArray w fun e w' => ∃ v bm', e = .returned v ∧ Rel w (Own Hin bm) X bm' Hout nx' w' ∧ Move (Lof Hin bm) nx w (Lof Hout bm') nx' w' ∧ Rep (Lof Hout bm') X nx' w' false r v
/-- The entries of these names; and what is left without them. -/
def sel : List (Nat × Nat) → Heap → Heap
  | [], _ => []
  | (f, d) :: ks, H => match find H f d with
    | some (g, b) => (f, d, g, b) :: sel ks H
    | none => sel ks H
def rest (ks : List (Nat × Nat)) : Heap → Heap
  | [] => []
  | (f, d, g, b) :: H => if keyIn ks f d = true then rest ks H else (f, d, g, b) :: rest ks H
/-- The value names no live entry of that heap. -/
def nameFree : Nat → Heap → AV → Bool
  | 0, _, _ => false
  | n + 1, H, v => match v with
    | .ptr f d g _ => (match find H f d with | some (g', some _) => g' != g | _ => true)
    | .sl f d g _ _ _ => (match find H f d with | some (g', some _) => g' != g | _ => true)
    | .ro cs => cs.all (nameFree n H)
    | .agg cs => cs.all (nameFree n H)
    | .tup cs => cs.all (nameFree n H)
    | .func _ cs => cs.all (nameFree n H)
    | .ifc _ v => nameFree n H v
    | _ => true
def heapFree (Hr : Heap) : Heap → Bool
  | [] => true
  | (_, _, _, some cs) :: H => cs.all (nameFree 9 Hr) && heapFree Hr H
  | (_, _, _, none) :: H => heapFree Hr H

inductive OpStep (P : Program) (φ : Nat) (o : Op) (t : List AV) (H : Heap) (nx : Ctr) : List AV → Heap → Ctr → Prop
  | skip {j : Nat} {w b : Bool} (hg : o.g = some (j, w)) (hb : getT t j = .bool b) (hne : b ≠ w) : OpStep P φ o t H nx (put t o.d (.tup [])) H nx
  | skipU {j : Nat} {w : Bool} (hg : o.g = some (j, w)) (hb : getT t j = .tup []) : OpStep P φ o t H nx (put t o.d (.tup [])) H nx
  | exec {v : AV} {H' : Heap} {nx' : Ctr} (hg : ∀ j w, o.g = some (j, w) → getT t j = .bool w) (h : opD o.o (evs t o.x) H nx φ = some (v, H', nx')) : OpStep P φ o t H nx (put t o.d v) H' nx'
  | call0 {f : Nat} {vs : List AV} {ids : List (Nat × Nat)} {r : AV} (hg : ∀ j w, o.g = some (j, w) → getT t j = .bool w) (ho : o.o = .call f 0)
      (hm : mapK (frzK 9 H) (evs t o.x) (fun v i => some (v, i)) none = some (vs, ids)) (hp : PCalls P f vs r) (hs : ids = [] ∨ scal r = true) : OpStep P φ o t H nx (put t o.d r) H nx
  | call4 {f : Nat} {vs : List AV} {r : AV} (hg : ∀ j w, o.g = some (j, w) → getT t j = .bool w) (ho : o.o = .call f 4)
      (hm : mapK (frzK 9 []) (evs t o.x) (fun v i => match i with | [] => some v | _ => none) none = some vs) (hp : PCalls P f vs r) : OpStep P φ o t H nx (put t o.d r) H nx
  | callv0 {f : Nat} {caps as vs : List AV} {ids : List (Nat × Nat)} {r : AV} (hg : ∀ j w, o.g = some (j, w) → getT t j = .bool w) (ho : o.o = .callv 0) (hx : evs t o.x = .func f caps :: as)
      (hm : mapK (frzK 9 H) (as ++ caps) (fun v i => some (v, i)) none = some (vs, ids)) (hp : PCalls P f vs r) (hs : ids = [] ∨ scal r = true) : OpStep P φ o t H nx (put t o.d r) H nx
  | call1 {f : Nat} {vs : List AV} {ids : List (Nat × Nat)} {r : AV} (hg : ∀ j w, o.g = some (j, w) → getT t j = .bool w) (ho : o.o = .call f 1)
      (hm : mapK (frzK 9 H) (evs t o.x) (fun v i => some (v, i)) none = some (vs, ids)) (hp : PCalls P f vs r) : OpStep P φ o t H nx (put t o.d r) (kill ids H) nx
  | callv1 {f : Nat} {caps as vs : List AV} {ids : List (Nat × Nat)} {r : AV} (hg : ∀ j w, o.g = some (j, w) → getT t j = .bool w) (ho : o.o = .callv 1) (hx : evs t o.x = .func f caps :: as)
      (hm : mapK (frzK 9 H) (as ++ caps) (fun v i => some (v, i)) none = some (vs, ids)) (hp : PCalls P f vs r) : OpStep P φ o t H nx (put t o.d r) (kill ids H) nx
  | call3 {f : Nat} {vs : List AV} {ids : List (Nat × Nat)} {r : AV} (hg : ∀ j w, o.g = some (j, w) → getT t j = .bool w) (ho : o.o = .call f 3)
      (hm : mapK (frzK 9 H) (evs t o.x) (fun v i => some (v, i)) none = some (vs, ids)) (hp : PCalls P f vs r) : OpStep P φ o t H nx (put (frzT ids H t) o.d r) (kill ids H) nx
  | call2 {f : Nat} {ks : List (Nat × Nat)} {r : AV} {Hout : Heap} {nx' : Ctr} (hg : ∀ j w, o.g = some (j, w) → getT t j = .bool w) (ho : o.o = .call f 2)
      (hp : HCalls P f (evs t o.x) (sel ks H) nx r Hout nx') (hf : (rest ks H = [] ∨ (nameFree 9 (rest ks H) r = true ∧ heapFree (rest ks H) Hout = true))) : OpStep P φ o t H nx (put t o.d r) (Hout ++ rest ks H) nx'
  | callv2 {f : Nat} {caps as : List AV} {ks : List (Nat × Nat)} {r : AV} {Hout : Heap} {nx' : Ctr} (hg : ∀ j w, o.g = some (j, w) → getT t j = .bool w) (ho : o.o = .callv 2) (hx : evs t o.x = .func f caps :: as)
      (hp : HCalls P f (as ++ caps) (sel ks H) nx r Hout nx') (hf : (rest ks H = [] ∨ (nameFree 9 (rest ks H) r = true ∧ heapFree (rest ks H) Hout = true))) : OpStep P φ o t H nx (put t o.d r) (Hout ++ rest ks H) nx'

/-- One behind the other. -/
inductive OpsRun (P : Program) (φ : Nat) : List Op → List AV → Heap → Ctr → List AV → Heap → Ctr → Prop
  | nil {t H nx} : OpsRun P φ [] t H nx t H nx
  | cons {o l t H nx t1 H1 nx1 t2 H2 nx2} (h : OpStep P φ o t H nx t1 H1 nx1) (k : OpsRun P φ l t1 H1 nx1 t2 H2 nx2) : OpsRun P φ (o :: l) t H nx t2 H2 nx2

/-! ### what is apart may change places -/
def tmpsOf : List AR → List Nat
  | [] => []
  | .t i :: l => i :: tmpsOf l
  | .c _ :: l => tmpsOf l
def reads (o : Op) : List Nat := (match o.g with | some (j, _) => [j] | none => []) ++ tmpsOf o.x
/-- The row that alone an operation looks at and changes. -/
def rowOf : AK → Option Nat
  | .new _ k | .stk _ k | .ldk k | .ldnk _ k | .apn _ _ k => some k
  | _ => none
def bothNew (x y : Op) : Bool := match rowOf x.o, rowOf y.o with | some k1, some k2 => k1 != k2 | _, _ => false
def indep (x y : Op) : Bool :=
  (match x.d with | some d => !(reads y).contains d && y.d != some d | none => true) &&
  (match y.d with | some d => !(reads x).contains d | none => true) &&
  (cls x.o == 0 || cls y.o == 0 || (decide (cls x.o ≤ 1) && decide (cls y.o ≤ 1)) || bothNew x y) && decide (cls x.o ≤ 2) && decide (cls y.o ≤ 2)

theorem getT_setT : ∀ (t : List AV) (d : Nat) (v : AV) (j : Nat), d ≠ j → getT (setT t d v) j = getT t j
  | [], _, _, _, _ => rfl
  | a :: t, 0, v, 0, h => absurd rfl h
  | a :: t, 0, v, j + 1, h => rfl
  | a :: t, d + 1, v, 0, h => rfl
  | a :: t, d + 1, v, j + 1, h => by simp only [setT, getT]; exact getT_setT t d v j (by omega)
theorem getT_put (t : List AV) (d : Option Nat) (v : AV) (j : Nat) (h : d ≠ some j) : getT (put t d v) j = getT t j := by
  cases d with
  | none => rfl
  | some d => exact getT_setT t d v j (fun e => h (by rw [e]))
theorem evs_put (t : List AV) (d : Option Nat) (v : AV) : ∀ (xs : List AR), (∀ j ∈ tmpsOf xs, d ≠ some j) → evs (put t d v) xs = evs t xs
  | [], _ => rfl
  | .c x :: xs, h => by simp only [evs, ev]; rw [evs_put t d v xs h]
  | .t i :: xs, h => by
    simp only [evs, ev]
    rw [evs_put t d v xs (fun j hj => h j (List.mem_cons_of_mem _ hj)), getT_put t d v i (h i (List.mem_cons_self))]
theorem setT_comm (t : List AV) (a b : Nat) (u v : AV) (h : a ≠ b) : setT (setT t a u) b v = setT (setT t b v) a u := by
  induction t generalizing a b with
  | nil => rfl
  | cons x t ih =>
    cases a with
    | zero => cases b with
      | zero => exact absurd rfl h
      | succ b => rfl
    | succ a => cases b with
      | zero => rfl
      | succ b => simp only [setT]; rw [ih a b (by omega)]
theorem put_comm (t : List AV) (a b : Option Nat) (u v : AV) (h : ∀ d, a = some d → b ≠ some d) : put (put t a u) b v = put (put t b v) a u := by
  cases a with
  | none => rfl
  | some a =>
    cases b with
    | none => rfl
    | some b => exact setT_comm t a b u v (fun e => h a rfl (by rw [e]))

/-- An operation looks at no more than it reads. -/
theorem OpStep.frame {P : Program} {φ : Nat} {o : Op} {t : List AV} {H : Heap} {nx : Ctr} {t' : List AV} {H' : Heap} {nx' : Ctr} (h : OpStep P φ o t H nx t' H' nx') (hc2 : cls o.o ≤ 2) :
    ∃ v, t' = put t o.d v ∧ (cls o.o ≤ 1 → H' = H ∧ nx' = nx) ∧
      (∀ t2, (∀ j ∈ reads o, getT t2 j = getT t j) → evs t2 o.x = evs t o.x → OpStep P φ o t2 H nx (put t2 o.d v) H' nx') ∧
      (cls o.o = 0 → ∀ t2 H2 nx2, (∀ j ∈ reads o, getT t2 j = getT t j) → evs t2 o.x = evs t o.x → OpStep P φ o t2 H2 nx2 (put t2 o.d v) H2 nx2) := by
  have gd : ∀ {t2 : List AV}, (∀ j ∈ reads o, getT t2 j = getT t j) → (∀ j w, o.g = some (j, w) → getT t j = .bool w) → ∀ j w, o.g = some (j, w) → getT t2 j = .bool w := by
    intro t2 ha hg j w hj
    rw [ha j (by simp [reads, hj])]; exact hg j w hj
  cases h with
  | @skip j w b hg hb hne => exact ⟨_, rfl, fun _ => ⟨rfl, rfl⟩, fun t2 ha hx => .skip hg (by rw [ha j (by simp [reads, hg])]; exact hb) hne, fun _ t2 H2 nx2 ha hx => .skip hg (by rw [ha j (by simp [reads, hg])]; exact hb) hne⟩
  | @skipU j w hg hb => exact ⟨_, rfl, fun _ => ⟨rfl, rfl⟩, fun t2 ha hx => .skipU hg (by rw [ha j (by simp [reads, hg])]; exact hb), fun _ t2 H2 nx2 ha hx => .skipU hg (by rw [ha j (by simp [reads, hg])]; exact hb)⟩
  | exec hg h =>
    refine ⟨_, rfl, fun hc => ⟨(opD_R hc h).1, (opD_R hc h).2.1⟩, fun t2 ha hx => .exec (gd ha hg) (by rw [hx]; exact h), fun h0 t2 H2 nx2 ha hx => ?_⟩
    exact .exec (gd ha hg) (by rw [hx]; exact (opD_T h0 h).2.2 H2 nx2)
  | call0 hg ho hm hp hs => exact ⟨_, rfl, fun _ => ⟨rfl, rfl⟩, fun t2 ha hx => .call0 (gd ha hg) ho (by rw [hx]; exact hm) hp hs, fun h0 => by rw [ho] at h0; cases h0⟩
  | call4 hg ho hm hp => exact ⟨_, rfl, fun _ => ⟨rfl, rfl⟩, fun t2 ha hx => .call4 (gd ha hg) ho (by rw [hx]; exact hm) hp, fun _ t2 H2 nx2 ha hx => .call4 (gd ha hg) ho (by rw [hx]; exact hm) hp⟩
  | callv0 hg ho hx0 hm hp hs => exact ⟨_, rfl, fun _ => ⟨rfl, rfl⟩, fun t2 ha hx => .callv0 (gd ha hg) ho (by rw [hx]; exact hx0) hm hp hs, fun h0 => by rw [ho] at h0; cases h0⟩
  | call1 hg ho hm hp => exact ⟨_, rfl, fun hc => by rw [ho] at hc; simp [cls] at hc, fun t2 ha hx => .call1 (gd ha hg) ho (by rw [hx]; exact hm) hp, fun h0 => by rw [ho] at h0; cases h0⟩
  | call3 hg ho hm hp => exact absurd hc2 (by rw [ho]; simp [cls])
  | call2 hg ho hp hf => exact ⟨_, rfl, fun hc => by rw [ho] at hc; simp [cls] at hc, fun t2 ha hx => .call2 (gd ha hg) ho (by rw [hx]; exact hp) hf, fun h0 => by rw [ho] at h0; cases h0⟩
  | callv2 hg ho hx0 hp hf => exact ⟨_, rfl, fun hc => by rw [ho] at hc; simp [cls] at hc, fun t2 ha hx => .callv2 (gd ha hg) ho (by rw [hx]; exact hx0) hp hf, fun h0 => by rw [ho] at h0; cases h0⟩
  | callv1 hg ho hx0 hm hp => exact ⟨_, rfl, fun hc => by rw [ho] at hc; simp [cls] at hc, fun t2 ha hx => .callv1 (gd ha hg) ho (by rw [hx]; exact hx0) hm hp, fun h0 => by rw [ho] at h0; cases h0⟩

theorem setB_comm (f1 d1 g1 : Nat) (b1 : Option (List AV)) (f2 d2 g2 : Nat) (b2 : Option (List AV)) (h : d1 ≠ d2) : ∀ H : Heap, setB (setB H f1 d1 g1 b1) f2 d2 g2 b2 = setB (setB H f2 d2 g2 b2) f1 d1 g1 b1
  | [] => by
    have n1 : ¬ (d1 = d2 ∧ f1 = f2) := fun e => h e.1
    have n2 : ¬ (d2 = d1 ∧ f2 = f1) := fun e => h e.1.symm
    simp only [setB, if_neg n1, if_neg n2]
    rcases Nat.lt_or_ge d1 d2 with h1 | h1
    · rw [if_neg (show ¬ d2 < d1 by omega), if_pos h1]
    · rw [if_pos (show d2 < d1 by omega), if_neg (show ¬ d1 < d2 by omega)]
  | (f', d', g', b') :: H => by
    have ih := setB_comm f1 d1 g1 b1 f2 d2 g2 b2 h H
    by_cases e1 : d' = d1 ∧ f' = f1
    · obtain ⟨rfl, rfl⟩ := e1
      have n2 : ¬ (d' = d2 ∧ f' = f2) := fun e => h e.1
      simp only [setB, and_self, if_true, if_neg n2]
      rcases Nat.lt_or_ge d2 d' with h1 | h1
      · simp only [if_pos h1, setB, and_self, if_true]
        rw [if_neg (fun e => h e.1.symm), if_neg (by omega)]
      · simp only [if_neg (show ¬ d2 < d' by omega), setB, and_self, if_true]
    · by_cases e2 : d' = d2 ∧ f' = f2
      · obtain ⟨rfl, rfl⟩ := e2
        simp only [setB, and_self, if_true, if_neg e1]
        rcases Nat.lt_or_ge d1 d' with h1 | h1
        · simp only [if_pos h1, setB, and_self, if_true]
          rw [if_neg (fun e => h e.1), if_neg (by omega)]
        · simp only [if_neg (show ¬ d1 < d' by omega), setB, and_self, if_true]
      · simp only [setB, if_neg e1, if_neg e2]
        by_cases h1 : d1 < d' <;> by_cases h2 : d2 < d'
        · have n1 : ¬ (d1 = d2 ∧ f1 = f2) := fun e => h e.1
          have n2 : ¬ (d2 = d1 ∧ f2 = f1) := fun e => h e.1.symm
          simp only [if_pos h1, if_pos h2, setB, if_neg e1, if_neg e2, if_neg n1, if_neg n2]
          rcases Nat.lt_or_ge d1 d2 with h3 | h3
          · rw [if_neg (show ¬ d2 < d1 by omega), if_pos h3]
          · rw [if_pos (show d2 < d1 by omega), if_neg (show ¬ d1 < d2 by omega)]
        · simp only [if_pos h1, if_neg h2, setB, if_neg e1, if_neg e2]
          rw [if_neg (fun e => h e.1), if_neg (show ¬ d2 < d1 by omega)]
        · simp only [if_pos h2, if_neg h1, setB, if_neg e1, if_neg e2]
          rw [if_neg (fun e => h e.1.symm), if_neg (show ¬ d1 < d2 by omega)]
        · simp only [if_neg h1, if_neg h2, setB, if_neg e1, if_neg e2, ih]
theorem bump_comm (nx : Ctr) (a b : Nat) : bump (bump nx a) b = bump (bump nx b) a := by
  funext e
  unfold bump
  by_cases h : a = b
  · subst h; rfl
  · by_cases h1 : e = a <;> by_cases h2 : e = b <;> simp_all
theorem evs_nil {t : List AV} : ∀ {x : List AR}, evs t x = [] → x = []
  | [], _ => rfl
  | _ :: _, h => by simp [evs] at h
def effH (φ k : Nat) (E : Option (Nat × Option (List AV))) (H : Heap) : Heap := match E with | none => H | some (g, b) => setB H φ k g b
def effN (k : Nat) (bp : Bool) (nx : Ctr) : Ctr := if bp = true then bump nx k else nx
/-- What an append to a row that nobody writes does: nothing, or a new row. -/
theorem apn_does {sz by_ key : Nat} {x y : AV} {H : Heap} {nx : Ctr} {φ : Nat} {v : AV} {H' : Heap} {nx' : Ctr} (h : opD (.apn sz by_ key) [x, y] H nx φ = some (v, H', nx')) :
    ∃ E bp, H' = effH φ key E H ∧ nx' = effN key bp nx ∧ ∀ H2 nx2, nx2 key = nx key → opD (.apn sz by_ key) [x, y] H2 nx2 φ = some (v, effH φ key E H2, effN key bp nx2) := by
  simp only [opD, opK, pureK] at h ⊢
  split at h
  case h_5 => cases h
  · simp only [appK, if_true, Option.some.injEq, Prod.mk.injEq] at h ⊢
    obtain ⟨rfl, rfl, rfl⟩ := h
    exact ⟨none, false, rfl, rfl, fun _ _ _ => ⟨rfl, rfl, rfl⟩⟩
  · rename_i sz' es c
    simp only [appK] at h ⊢
    split at h
    case isFalse => cases h
    rename_i hs
    split at h
    · rename_i hm
      simp only [Option.some.injEq, Prod.mk.injEq] at h
      obtain ⟨rfl, rfl, rfl⟩ := h
      exact ⟨none, false, rfl, rfl, fun _ _ _ => by rw [if_pos hs, if_pos hm]; rfl⟩
    · rename_i hm
      split at h
      case isFalse => cases h
      rename_i hb
      simp only [Option.some.injEq, Prod.mk.injEq] at h
      obtain ⟨rfl, rfl, rfl⟩ := h
      exact ⟨some (nx key, _), true, rfl, rfl, fun H2 nx2 hn => by rw [if_pos hs, if_neg hm, if_pos hb, hn]; rfl⟩
  · rename_i sz' es c
    simp only [appK, if_true, Option.some.injEq, Prod.mk.injEq] at h ⊢
    obtain ⟨rfl, rfl, rfl⟩ := h
    exact ⟨none, false, rfl, rfl, fun _ _ _ => ⟨rfl, rfl, rfl⟩⟩
  · rename_i sz1 es1 c1 sz' es c
    simp only [appK] at h ⊢
    split at h
    case isFalse => cases h
    rename_i hs
    split at h
    · rename_i hm
      simp only [Option.some.injEq, Prod.mk.injEq] at h
      obtain ⟨rfl, rfl, rfl⟩ := h
      exact ⟨none, false, rfl, rfl, fun _ _ _ => by rw [if_pos hs, if_pos hm]; rfl⟩
    · rename_i hm
      cases c1 with
      | none => cases h
      | some c1 =>
        simp only at h
        split at h
        case isFalse => cases h
        rename_i hb
        simp only [Option.some.injEq, Prod.mk.injEq] at h
        obtain ⟨rfl, rfl, rfl⟩ := h
        exact ⟨some (nx key, _), true, rfl, rfl, fun H2 nx2 hn => by rw [if_pos hs, if_neg hm]; simp only; rw [if_pos hb, hn]; rfl⟩
/-- It looks at that row alone, and changes it alone. -/
theorem rowStep {P : Program} {φ : Nat} {o : Op} {k : Nat} (ho : rowOf o.o = some k) {t : List AV} {H : Heap} {nx : Ctr} {t' : List AV} {H' : Heap} {nx' : Ctr} (h : OpStep P φ o t H nx t' H' nx') :
    ∃ v E bp, t' = put t o.d v ∧ H' = effH φ k E H ∧ nx' = effN k bp nx ∧
      ∀ t2 H2 nx2, (∀ j ∈ reads o, getT t2 j = getT t j) → evs t2 o.x = evs t o.x → find H2 φ k = find H φ k → nx2 k = nx k → OpStep P φ o t2 H2 nx2 (put t2 o.d v) (effH φ k E H2) (effN k bp nx2) := by
  have nocall : ∀ f m, o.o ≠ .call f m := by intro f m e; rw [e] at ho; cases ho
  have nocallv : ∀ m, o.o ≠ .callv m := by intro m e; rw [e] at ho; cases ho
  cases h with
  | @skip j w b hg hb hne => exact ⟨_, none, false, rfl, rfl, rfl, fun t2 H2 nx2 ha _ _ _ => .skip hg (by rw [ha j (by simp [reads, hg])]; exact hb) hne⟩
  | @skipU j w hg hb => exact ⟨_, none, false, rfl, rfl, rfl, fun t2 H2 nx2 ha _ _ _ => .skipU hg (by rw [ha j (by simp [reads, hg])]; exact hb)⟩
  | @exec v _ _ hg h =>
    have gd : ∀ {t2 : List AV}, (∀ j ∈ reads o, getT t2 j = getT t j) → ∀ j w, o.g = some (j, w) → getT t2 j = .bool w := by
      intro t2 ha j w hj
      rw [ha j (by simp [reads, hj])]; exact hg j w hj
    generalize hvs : evs t o.x = vs at h
    generalize hao : o.o = ao at h ho
    unfold rowOf at ho
    split at ho
    · rename_i z k'
      cases ho
      cases vs with
      | cons a l => cases h
      | nil =>
        simp only [opD, opK, Option.some.injEq, Prod.mk.injEq] at h
        obtain ⟨rfl, rfl, rfl⟩ := h
        refine ⟨_, some (nx k, some z), true, rfl, rfl, rfl, fun t2 H2 nx2 ha hx _ hn => .exec (gd ha) ?_⟩
        rw [hao, hx, ← hn]
        rfl
    · rename_i n k'
      cases ho
      rcases vs with _ | ⟨x, _ | ⟨v0, _ | ⟨y, l⟩⟩⟩
      · cases h
      · cases h
      · cases x with
        | ptr f d g off =>
          simp only [opD, opK] at h
          split at h
          · rename_i hfd
            obtain ⟨rfl, rfl⟩ := hfd
            rw [getB_find] at h
            split at h
            · rename_i g' cs hf
              split at h
              · rename_i hgg
                subst hgg
                split at h
                · rename_i hc
                  simp only [Option.some.injEq, Prod.mk.injEq] at h
                  obtain ⟨rfl, rfl, rfl⟩ := h
                  refine ⟨_, some (g', _), false, rfl, rfl, rfl, fun t2 H2 nx2 ha hx hfi _ => .exec (gd ha) ?_⟩
                  rw [hao, hx]
                  simp only [opD, opK, and_self, if_true]
                  rw [getB_of (hfi.trans hf), if_pos hc]
                  rfl
                · cases h
              · cases h
            · cases h
          · cases h
        | _ => cases h
      · cases h
    · rename_i k'
      cases ho
      rcases vs with _ | ⟨x, _ | ⟨y, l⟩⟩
      · cases h
      · cases x with
        | ptr f d g off =>
          simp only [opD, opK] at h
          split at h
          · rename_i hfd
            obtain ⟨rfl, rfl⟩ := hfd
            rw [getB_find] at h
            split at h
            · rename_i g' cs hf
              split at h
              · rename_i hgg
                subst hgg
                split at h
                · rename_i c rst hc
                  simp only [Option.some.injEq, Prod.mk.injEq] at h
                  obtain ⟨rfl, rfl, rfl⟩ := h
                  refine ⟨_, none, false, rfl, rfl, rfl, fun t2 H2 nx2 ha hx hfi _ => .exec (gd ha) ?_⟩
                  rw [hao, hx]
                  simp only [opD, opK, and_self, if_true]
                  rw [getB_of (hfi.trans hf), hc]
                  rfl
                · cases h
              · cases h
            · cases h
          · cases h
        | _ => cases h
      · cases h
    · rename_i n k'
      cases ho
      rcases vs with _ | ⟨x, _ | ⟨y, l⟩⟩
      · cases h
      · cases x with
        | ptr f d g off =>
          simp only [opD, opK] at h
          split at h
          · rename_i hfd
            obtain ⟨rfl, rfl⟩ := hfd
            rw [getB_find] at h
            split at h
            · rename_i g' cs hf
              split at h
              · rename_i hgg
                subst hgg
                split at h
                · rename_i hc
                  simp only [Option.some.injEq, Prod.mk.injEq] at h
                  obtain ⟨rfl, rfl, rfl⟩ := h
                  refine ⟨_, none, false, rfl, rfl, rfl, fun t2 H2 nx2 ha hx hfi _ => .exec (gd ha) ?_⟩
                  rw [hao, hx]
                  simp only [opD, opK, and_self, if_true]
                  rw [getB_of (hfi.trans hf), if_pos hc]
                  rfl
                · cases h
              · cases h
            · cases h
          · cases h
        | _ => cases h
      · cases h
    · rename_i sz by_ k'
      cases ho
      rcases vs with _ | ⟨x, _ | ⟨y, _ | ⟨z, l⟩⟩⟩
      · cases h
      · cases h
      · obtain ⟨E, bp, rfl, rfl, h2⟩ := apn_does h
        refine ⟨_, E, bp, rfl, rfl, rfl, fun t2 H2 nx2 ha hx _ hn => .exec (gd ha) ?_⟩
        rw [hao, hx]
        exact h2 H2 nx2 hn
      · cases h
    · cases ho
  | call0 hg ho' => exact absurd ho' (nocall _ _)
  | call4 hg ho' => exact absurd ho' (nocall _ _)
  | callv0 hg ho' => exact absurd ho' (nocallv _)
  | call1 hg ho' => exact absurd ho' (nocall _ _)
  | callv1 hg ho' => exact absurd ho' (nocallv _)
  | call2 hg ho' => exact absurd ho' (nocall _ _)
  | callv2 hg ho' => exact absurd ho' (nocallv _)
  | call3 hg ho' => exact absurd ho' (nocall _ _)

theorem swapNew {P : Program} {φ : Nat} {x y : Op} {k1 k2 : Nat} (hox : rowOf x.o = some k1) (hoy : rowOf y.o = some k2) (hk : k1 ≠ k2) (rx : ∀ j ∈ reads y, x.d ≠ some j) (ry : ∀ j ∈ reads x, y.d ≠ some j) (dd : ∀ d, x.d = some d → y.d ≠ some d)
    {t : List AV} {H : Heap} {nx : Ctr} {t1 : List AV} {H1 : Heap} {nx1 : Ctr} {t2 : List AV} {H2 : Heap} {nx2 : Ctr}
    (hx : OpStep P φ x t H nx t1 H1 nx1) (hy : OpStep P φ y t1 H1 nx1 t2 H2 nx2) : ∃ t3 H3 nx3, OpStep P φ y t H nx t3 H3 nx3 ∧ OpStep P φ x t3 H3 nx3 t2 H2 nx2 := by
  have ne1 : ∀ (a b : Nat), a ≠ b → ∀ E (H : Heap), find (effH φ a E H) φ b = find H φ b := by
    intro a b hab E H
    unfold effH; split
    · rfl
    · exact find_setB_ne _ _ _ _ _ _ _ (fun e => hab e.2.symm)
  have ne2 : ∀ (a b : Nat), a ≠ b → ∀ bp (nx : Ctr), effN a bp nx b = nx b := by
    intro a b hab bp nx
    unfold effN; split
    · unfold bump; rw [if_neg (fun e => hab e.symm)]
    · rfl
  have c1 : ∀ E1 E2 (H : Heap), effH φ k2 E2 (effH φ k1 E1 H) = effH φ k1 E1 (effH φ k2 E2 H) := by
    intro E1 E2 H
    unfold effH
    cases E1 <;> cases E2 <;> first | rfl | exact setB_comm _ _ _ _ _ _ _ _ hk _
  have c2 : ∀ b1 b2 (nx : Ctr), effN k2 b2 (effN k1 b1 nx) = effN k1 b1 (effN k2 b2 nx) := by
    intro b1 b2 nx
    unfold effN
    cases b1 <;> cases b2 <;> first | rfl | exact bump_comm _ _ _
  obtain ⟨v1, E1, b1, rfl, rfl, rfl, m1⟩ := rowStep hox hx
  obtain ⟨v2, E2, b2, rfl, rfl, rfl, m2⟩ := rowStep hoy hy
  have ay : (∀ j ∈ reads y, getT t j = getT (put t x.d v1) j) ∧ evs t y.x = evs (put t x.d v1) y.x :=
    ⟨fun j hj => (getT_put t x.d v1 j (rx j hj)).symm, (evs_put t x.d v1 y.x (fun j hj => rx j (List.mem_append_right _ hj))).symm⟩
  have ax : (∀ j ∈ reads x, getT (put t y.d v2) j = getT t j) ∧ evs (put t y.d v2) x.x = evs t x.x :=
    ⟨fun j hj => getT_put t y.d v2 j (ry j hj), evs_put t y.d v2 x.x (fun j hj => ry j (List.mem_append_right _ hj))⟩
  refine ⟨_, _, _, m2 t H nx ay.1 ay.2 (ne1 _ _ hk _ _).symm (ne2 _ _ hk _ _).symm, ?_⟩
  rw [put_comm t x.d y.d v1 v2 dd, c1, c2]
  exact m1 _ _ _ ax.1 ax.2 (ne1 _ _ (Ne.symm hk) _ _) (ne2 _ _ (Ne.symm hk) _ _)

theorem swap {P : Program} {φ : Nat} {x y : Op} (hi : indep x y = true) {t : List AV} {H : Heap} {nx : Ctr} {t1 : List AV} {H1 : Heap} {nx1 : Ctr} {t2 : List AV} {H2 : Heap} {nx2 : Ctr}
    (hx : OpStep P φ x t H nx t1 H1 nx1) (hy : OpStep P φ y t1 H1 nx1 t2 H2 nx2) : ∃ t3 H3 nx3, OpStep P φ y t H nx t3 H3 nx3 ∧ OpStep P φ x t3 H3 nx3 t2 H2 nx2 := by
  simp only [indep, Bool.and_eq_true, Bool.or_eq_true, beq_iff_eq, decide_eq_true_eq] at hi
  obtain ⟨⟨⟨⟨hxd, hyd⟩, hc⟩, hx2⟩, hy2⟩ := hi
  have rx : ∀ j ∈ reads y, x.d ≠ some j := by
    intro j hj e
    rw [e] at hxd
    simp at hxd
    exact hxd.1 hj
  have ry : ∀ j ∈ reads x, y.d ≠ some j := by
    intro j hj e
    rw [e] at hyd
    simp at hyd
    exact hyd hj
  have dd : ∀ d, x.d = some d → y.d ≠ some d := by
    intro d e
    rw [e] at hxd
    simp at hxd
    exact hxd.2
  by_cases hbn : bothNew x y = true
  · unfold bothNew at hbn
    split at hbn
    · rename_i k1 k2 hox hoy
      exact swapNew hox hoy (by simpa using hbn) rx ry dd hx hy
    · cases hbn
  obtain ⟨v1, e1, c1, f1, g1⟩ := hx.frame hx2
  obtain ⟨v2, e2, c2, f2, g2⟩ := hy.frame hy2
  subst e1 e2
  have ay : (∀ j ∈ reads y, getT t j = getT (put t x.d v1) j) ∧ evs t y.x = evs (put t x.d v1) y.x :=
    ⟨fun j hj => (getT_put t x.d v1 j (rx j hj)).symm, (evs_put t x.d v1 y.x (fun j hj => rx j (List.mem_append_right _ hj))).symm⟩
  have ax : (∀ j ∈ reads x, getT (put t y.d v2) j = getT t j) ∧ evs (put t y.d v2) x.x = evs t x.x :=
    ⟨fun j hj => getT_put t y.d v2 j (ry j hj), evs_put t y.d v2 x.x (fun j hj => ry j (List.mem_append_right _ hj))⟩
  rw [put_comm t x.d y.d v1 v2 dd]
  rcases hc with ((h0 | h0) | ⟨h0, h0'⟩) | h0
  · obtain ⟨rfl, rfl⟩ := c1 (by omega)
    exact ⟨_, _, _, f2 t ay.1 ay.2, g1 h0 _ H2 nx2 ax.1 ax.2⟩
  · obtain ⟨rfl, rfl⟩ := c2 (by omega)
    exact ⟨_, _, _, g2 h0 t H nx ay.1 ay.2, f1 _ ax.1 ax.2⟩
  · obtain ⟨rfl, rfl⟩ := c1 h0
    obtain ⟨rfl, rfl⟩ := c2 h0'
    exact ⟨_, _, _, f2 t ay.1 ay.2, f1 _ ax.1 ax.2⟩
  · exact (hbn h0).elim
theorem bubble {P : Program} {φ : Nat} {x : Op} {B : List Op} {t2 : List AV} {H2 : Heap} {nx2 : Ctr} : ∀ (A : List Op) {t : List AV} {H : Heap} {nx : Ctr}, (∀ a ∈ A, indep a x = true) → OpsRun P φ (A ++ x :: B) t H nx t2 H2 nx2 →
    ∃ t1 H1 nx1, OpStep P φ x t H nx t1 H1 nx1 ∧ OpsRun P φ (A ++ B) t1 H1 nx1 t2 H2 nx2
  | [], t, H, nx, _, h => by cases h with | cons h k => exact ⟨_, _, _, h, k⟩
  | a :: A, t, H, nx, hi, h => by
    cases h with
    | cons h k =>
      obtain ⟨t1, H1, nx1, h1, k1⟩ := bubble A (fun b hb => hi b (List.mem_cons_of_mem _ hb)) k
      obtain ⟨t3, H3, nx3, h3, h4⟩ := swap (hi a (List.mem_cons_self)) h h1
      exact ⟨_, _, _, h3, .cons h4 k1⟩

/-! ### the orders that a region may draw -/
/-- Whom an operation waits for, as bits: its own edges and theirs. -/
def maskOf (acc : List Nat) (o : Oper) : Nat :=
  o.after.toList.foldl (fun m e => if Region.binds .any e then m ||| (1 <<< e.on) ||| acc.getD e.on 0 else m) 0
def masks : List Oper → List Nat → List Nat
  | [], acc => acc
  | o :: l, acc => masks l (acc ++ [maskOf acc o])
/-- Operation i may come ahead of whatever it doesn't wait for. -/
def freeAt (l : List Op) (m : Nat) (x : Op) : Nat → Bool
  | 0 => true
  | n + 1 => freeAt l m x n && (m.testBit n || (match l[n]? with | some y => indep y x | none => false))
def drawnGo (l : List Op) (ms : List Nat) : Nat → Bool
  | 0 => true
  | n + 1 => drawnGo l ms n && (match l[n]? with | some x => freeAt l (ms.getD n 0) x n | none => false)
def drawnOk (ops : List Oper) (l : List Op) : Bool :=
  ops.zipIdx.all (fun (o, i) => o.after.toList.all fun e => !Region.binds .any e || decide (e.on < i)) &&
  ops.all (fun o => match o.op with | .select .. => false | _ => true) && drawnGo l (masks ops []) ops.length

theorem foldl_mask (acc : List Nat) (i : Nat) : ∀ (es : List Edge) (m : Nat), (es.foldl (fun m e => if Region.binds .any e then m ||| (1 <<< e.on) ||| acc.getD e.on 0 else m) m).testBit i = true →
    m.testBit i = true ∨ ∃ e ∈ es, Region.binds .any e = true ∧ (e.on = i ∨ (acc.getD e.on 0).testBit i = true)
  | [], m, h => .inl h
  | e :: es, m, h => by
    simp only [List.foldl_cons] at h
    rcases foldl_mask acc i es _ h with h1 | ⟨e', he', h1⟩
    · split at h1
      · rename_i hb
        rw [Nat.testBit_or, Nat.testBit_or] at h1
        simp only [Bool.or_eq_true] at h1
        rcases h1 with (h1 | h1) | h1
        · exact .inl h1
        · refine .inr ⟨e, List.mem_cons_self, hb, .inl ?_⟩
          rw [Nat.one_shiftLeft, Nat.testBit_two_pow] at h1
          exact of_decide_eq_true h1
        · exact .inr ⟨e, List.mem_cons_self, hb, .inr h1⟩
      · exact .inl h1
    · exact .inr ⟨e', List.mem_cons_of_mem _ he', h1⟩
theorem masks_pre : ∀ (l : List Oper) (acc : List Nat) (j : Nat), j < acc.length → (masks l acc).getD j 0 = acc.getD j 0
  | [], acc, j, h => rfl
  | o :: l, acc, j, h => by
    simp only [masks]
    rw [masks_pre l _ j (by simp; omega)]
    simp [List.getD, List.getElem?_append_left h]
theorem masks_at : ∀ (l : List Oper) (acc : List Nat) (k : Nat) (o : Oper), l[k]? = some o → ∃ acc' : List Nat, (masks l acc).getD (acc.length + k) 0 = maskOf acc' o ∧ ∀ j, (acc'.getD j 0) ≠ 0 → (masks l acc).getD j 0 = acc'.getD j 0
  | [], acc, k, o, h => by simp at h
  | o :: l, acc, 0, o', h => by
    simp at h; subst h
    refine ⟨acc, ?_, fun j hj => ?_⟩
    · simp only [masks, Nat.add_zero]
      rw [masks_pre l _ _ (by simp)]
      simp [List.getD]
    · have hlt : j < acc.length := by
        rcases Nat.lt_or_ge j acc.length with h | h
        · exact h
        · simp [List.getD, List.getElem?_eq_none h] at hj
      exact masks_pre (o :: l) acc j hlt
  | o :: l, acc, k + 1, o', h => by
    simp at h
    obtain ⟨acc', h1, h2⟩ := masks_at l (acc ++ [maskOf acc o]) k o' h
    refine ⟨acc', ?_, h2⟩
    simp only [masks]
    rw [← h1]
    congr 1
    simp; omega
theorem mask_spec {ops : List Oper} {j : Nat} {o : Oper} (ho : ops[j]? = some o) {i : Nat} (h : ((masks ops []).getD j 0).testBit i = true) :
    ∃ e ∈ o.after.toList, Region.binds .any e = true ∧ (e.on = i ∨ ((masks ops []).getD e.on 0).testBit i = true) := by
  obtain ⟨acc', h1, h2⟩ := masks_at ops [] j o ho
  simp only [List.length_nil, Nat.zero_add] at h1
  rw [h1] at h
  rcases foldl_mask acc' i _ 0 h with h3 | ⟨e, he, hb, h3⟩
  · simp at h3
  · refine ⟨e, he, hb, h3.imp id fun h4 => ?_⟩
    rw [h2 e.on (fun e0 => by rw [e0] at h4; simp at h4)]
    exact h4
theorem freeAt_spec {l : List Op} {m : Nat} {x : Op} : ∀ {n : Nat}, freeAt l m x n = true → ∀ a, a < n → m.testBit a = true ∨ ∃ y, l[a]? = some y ∧ indep y x = true
  | 0, _, a, ha => by omega
  | n + 1, h, a, ha => by
    simp only [freeAt, Bool.and_eq_true, Bool.or_eq_true] at h
    by_cases e : a = n
    · subst e
      refine h.2.imp id fun h2 => ?_
      split at h2
      · rename_i y hy; exact ⟨y, hy, h2⟩
      · cases h2
    · exact freeAt_spec h.1 a (by omega)
theorem drawnGo_spec {l : List Op} {ms : List Nat} : ∀ {n : Nat}, drawnGo l ms n = true → ∀ i, i < n → ∃ x, l[i]? = some x ∧ ∀ a, a < i → (ms.getD i 0).testBit a = true ∨ ∃ y, l[a]? = some y ∧ indep y x = true
  | 0, _, i, hi => by omega
  | n + 1, h, i, hi => by
    simp only [drawnGo, Bool.and_eq_true] at h
    by_cases e : i = n
    · subst e
      split at h
      · rename_i x hx; exact ⟨x, hx, freeAt_spec h.2⟩
      · cases h.2
    · exact drawnGo_spec h.1 i (by omega)
end Go.Ev
/- One compiled operation in the model; a region in whatever order. -/
namespace Go.Ev
open Go.RowKit
set_option linter.unusedVariables false
set_option linter.unusedSimpArgs false
set_option linter.unusedSectionVars false

/-- A value that leads to no writable memory: what is hidden from it may change. -/
theorem Rep.hide {L : Loc} {X X' : Nat → Prop} {nx : Ctr} {w : World} {x : AV} {v : Value} (h : Rep L X nx w true x v) (hX : ∀ b, X' b → X b ∨ ∃ f d g, L f d g b) : Rep none4 X' zeroC w true x v := by
  generalize hp : true = p at h
  induction h with
  | any => subst hp; exact .any
  | int => subst hp; exact .int
  | bool => subst hp; exact .bool
  | str => subst hp; exact .str
  | nilp => subst hp; exact .nilp
  | nils => subst hp; exact .nils
  | nilm => subst hp; exact .nilm
  | nilf => subst hp; exact .nilf
  | nili => subst hp; exact .nili
  | ptr => cases hp
  | ro vv hc hr ho ih =>
    refine .ro vv hc (fun j x h => ih j x h hp) (fun hne => ?_)
    obtain ⟨h1, h2, h3⟩ := ho hne
    exact ⟨fun _ _ _ h => h, fun hx => (hX _ hx).elim h2 (fun ⟨f, d, g, h⟩ => h1 _ _ _ h), h3⟩
  | sl => cases hp
  | fz0 h hA => subst hp; exact .fz0 h hA
  | fz vv a b c d e f h g ih =>
    refine .fz vv a b c d e (fun i y j x h1 h2 => ih i y j x h1 h2 rfl) h ?_
    exact ⟨fun _ _ _ h => h, fun hx => (hX _ hx).elim g.2.1 (fun ⟨f, d, g', h⟩ => g.1 _ _ _ h), g.2.2⟩
  | agg h hr ih => exact .agg h (fun j x h => ih j x h hp)
  | tup h hr ih => exact .tup h (fun j x h => ih j x h hp)
  | func h hr ih => exact .func h (fun j x h => ih j x h hp)
  | ifc h ih => exact .ifc (ih hp)
theorem Rep.show {L : Loc} {X X' : Nat → Prop} {nx : Ctr} {w : World} {x : AV} {v : Value} (h : Rep none4 X' zeroC w true x v) (hX : ∀ b, X b → X' b) (hL : ∀ f d g b, L f d g b → X' b) : Rep L X nx w true x v := by
  generalize hp : true = p at h
  induction h with
  | any => subst hp; exact .any
  | int => subst hp; exact .int
  | bool => subst hp; exact .bool
  | str => subst hp; exact .str
  | nilp => subst hp; exact .nilp
  | nils => subst hp; exact .nils
  | nilm => subst hp; exact .nilm
  | nilf => subst hp; exact .nilf
  | nili => subst hp; exact .nili
  | ptr => cases hp
  | ro vv hc hr ho ih =>
    refine .ro vv hc (fun j x h => ih j x h hp) (fun hne => ?_)
    obtain ⟨h1, h2, h3⟩ := ho hne
    exact ⟨fun f d g h => h2 (hL _ _ _ _ h), fun hx => h2 (hX _ hx), h3⟩
  | sl => cases hp
  | fz0 h hA => subst hp; exact .fz0 h hA
  | fz vv a b c d e f h g ih =>
    refine .fz vv a b c d e (fun i y j x h1 h2 => ih i y j x h1 h2 rfl) h ?_
    exact ⟨fun f d g' h => g.2.1 (hL _ _ _ _ h), fun hx => g.2.1 (hX _ hx), g.2.2⟩
  | agg h hr ih => exact .agg h (fun j x h => ih j x h hp)
  | tup h hr ih => exact .tup h (fun j x h => ih j x h hp)
  | func h hr ih => exact .func h (fun j x h => ih j x h hp)
  | ifc h ih => exact .ifc (ih hp)
theorem Reps.hide {L : Loc} {X X' : Nat → Prop} {nx : Ctr} {w : World} {xs : List AV} {vs : List Value} (h : Reps L X nx w true xs vs) (hX : ∀ b, X' b → X b ∨ ∃ f d g, L f d g b) : Reps none4 X' zeroC w true xs vs := by
  induction h with
  | nil => exact .nil
  | cons h _ ih => exact .cons (h.hide hX) ih

theorem scal1_closed {x : AV} (hx : scal (.tup [x]) = true) {L : Loc} {X : Nat → Prop} {nx : Ctr} {w : World} {p : Bool} {v : Value} (h : Rep L X nx w p x v) : Closed x v := by
  intro L' X' nx' w' p'
  cases h with
  | int => exact .int
  | bool => exact .bool
  | str => exact .str
  | nilp => exact .nilp
  | nils => exact .nils
  | nilm => exact .nilm
  | nilf => exact .nilf
  | nili => exact .nili
  | _ => simp [scal] at hx
theorem scal_closed {x : AV} (hx : scal x = true) {L : Loc} {X : Nat → Prop} {nx : Ctr} {w : World} {p : Bool} {v : Value} (h : Rep L X nx w p x v) : Closed x v := by
  by_cases h1 : scal (.tup [x]) = true
  · exact scal1_closed h1 h
  · cases h with
    | tup hs hr =>
      intro L' X' nx' w' p'
      refine .tup hs (fun j y hj => ?_)
      have := hr j y hj
      refine scal1_closed ?_ this L' X' nx' w' p'
      simp only [scal, List.all_eq_true] at hx
      simp only [scal, List.all_cons, List.all_nil, Bool.and_true]
      exact hx y (List.mem_of_getElem? hj)
    | _ => first | (simp [scal] at hx; done) | (simp [scal] at h1; done)

/-- What a call of the function owns, and its temporaries. -/
structure St (w0 : World) (O X : Nat → Prop) (L0 : Loc) (nx0 : Ctr) (t : List AV) (H : Heap) (nx : Ctr) (a : Act) (w : World) : Prop where
  defers : a.defers = []
  rel : ∃ bm, Rel w0 O X bm H nx w ∧ TRel (Lof H bm) X nx w t a.tmps ∧ Move L0 nx0 w0 (Lof H bm) nx w

section
variable {P : Program} {w0 : World} {O X : Nat → Prop} {bm : Nat → Nat → Nat} {H : Heap} {nx : Ctr} {w : World}

theorem Reps.setT {L : Loc} {p : Bool} {v : AV} {val : Value} (hv : Rep L X nx w p v val) : ∀ {t : List AV} {vs : List Value} (d : Nat), Reps L X nx w p t vs → Reps L X nx w p (setT t d v) (vs.set d val)
  | [], vs, d, h => by have := h.inv0; subst this; simpa [Ev.setT] using h
  | x :: t, vs, 0, h => by obtain ⟨u, us, rfl, h1, h2⟩ := h.inv; exact .cons hv h2
  | x :: t, vs, d + 1, h => by obtain ⟨u, us, rfl, h1, h2⟩ := h.inv; exact .cons h1 (Reps.setT hv d h2)
theorem TRel.put {L : Loc} {t : List AV} {a : Act} {v : AV} {val : Value} (h : TRel L X nx w t a.tmps) (hv : Rep L X nx w false v val) (d : Option Nat) : TRel L X nx w (put t d v) (a.put d val).tmps := by
  cases d with
  | none => exact h
  | some d =>
    show Reps _ _ _ _ _ _ (a.tmps.setIfInBounds d val).toList
    rw [Array.toList_setIfInBounds]
    exact Reps.setT hv d h
theorem put_defers (a : Act) (d : Option Nat) (v : Value) : (a.put d v).defers = a.defers := by cases d <;> rfl
theorem TRel.move {L L' : Loc} {nx' : Ctr} {w' : World} {t : List AV} {tmps : Array Value} (m : Move L nx w L' nx' w') (h : TRel L X nx w t tmps) : TRel L' X nx' w' t tmps := Reps.move m h

theorem frzK_opt {α : Type} (n : Nat) (H : Heap) (v : AV) (ok : AV → List (Nat × Nat) → α) (bad : α) :
    frzK n H v ok bad = match frzK n H v (fun v i => some (v, i)) none with | some (v', i) => ok v' i | none => bad := by
  have := frzK_nat n H (fun o : Option (AV × List (Nat × Nat)) => match o with | some (v', i) => ok v' i | none => bad) v (fun v i => some (v, i)) none
  rw [this]
theorem keyIn_true {f d : Nat} : ∀ {ids : List (Nat × Nat)}, keyIn ids f d = true → (f, d) ∈ ids
  | [], h => by cases h
  | (f', d') :: ids, h => by
    simp only [keyIn] at h
    split at h
    · rename_i e; obtain ⟨rfl, rfl⟩ := e; exact List.mem_cons_self
    · exact List.mem_cons_of_mem _ (keyIn_true h)
theorem Rep.thaw (r : Rel w0 O X bm H nx w) (ids : List (Nat × Nat)) {v : AV} {val : Value} (h : Rep (Lof H bm) X nx w false v val) : Rep (Lof (kill ids H) bm) X nx w false (thaw ids H v) val := by
  obtain ⟨_, m⟩ := r.kill ids
  unfold Ev.thaw
  rw [frzK_opt]
  split
  · rename_i v' js hv
    obtain ⟨v2, ids2, he, _, hf⟩ := frz_ok r 9 v val _ _ h hv
    simp at he
    obtain ⟨rfl, rfl⟩ := he
    split
    · rename_i hall
      refine (hf _ nx (fun f d g b hL => ?_)).weak
      obtain ⟨⟨cs, h1⟩, rfl⟩ := hL
      obtain ⟨h2, h3⟩ := find_kill ids _ _ _ _ _ h1
      refine ⟨Lof.mk h2, fun hm => h3 ?_⟩
      exact keyIn_true (List.all_eq_true.1 hall _ hm)
    · exact h.move m
  · exact h.move m
theorem TRel.frzT (r : Rel w0 O X bm H nx w) (ids : List (Nat × Nat)) {t : List AV} {tmps : Array Value} (h : TRel (Lof H bm) X nx w t tmps) : TRel (Lof (kill ids H) bm) X nx w (frzT ids H t) tmps := by
  unfold TRel at h ⊢
  generalize tmps.toList = vs at h ⊢
  induction h with
  | nil => exact .nil
  | cons h1 _ ih => exact .cons (h1.thaw r ids) ih

/-- A call of a function that writes nothing that was there. -/
theorem call_pure {f : Nat} {vs : List AV} {rv : AV} (hp : PCalls P f vs rv) (r : Rel w0 O X bm H nx w) {as : List AV} {vals : List Value} (ha : Reps (Lof H bm) X nx w false as vals)
    {ids : List (Nat × Nat)} (hm : mapK (frzK 9 H) as (fun v i => some (v, i)) none = some (vs, ids)) :
    Calls P f vals.toArray w fun e w' => ∃ v, e = .returned v ∧ Rel w0 O X bm H nx w' ∧ Move (Lof H bm) nx w (Lof H bm) nx w' ∧ (scal rv = true → Closed rv v) ∧
      ∀ (L : Loc) nx', (∀ f d g b, L f d g b → Lof H bm f d g b ∧ (f, d) ∉ ids) → Rep L X nx' w' true rv v := by
  obtain ⟨cs', ids', he, _, _, hf⟩ := frz_map (fun v val α ok r' h1 h2 => frz_ok r 9 v val ok r' h1 h2) as vals _ _ ha hm
  simp at he
  obtain ⟨rfl, rfl⟩ := he
  let L0 : Loc := fun f d g b => Lof H bm f d g b ∧ (f, d) ∉ ids'
  have h0 := hf L0 zeroC (fun f d g b h => h)
  have hX : ∀ b, (X b ∨ ∃ f d g, L0 f d g b) → b < w.heap.size := by
    rintro b (hb | ⟨f, d, g, ⟨⟨cs, hcs⟩, rfl⟩, _⟩)
    · exact Nat.lt_of_lt_of_le (r.xlt b hb) r.size
    · obtain ⟨vs1, E1, h1, _⟩ := r.blk _ _ _ _ hcs
      rcases Nat.lt_or_ge (bm f d) w.heap.size with h2 | h2
      · exact h2
      · rw [Array.getElem?_eq_none h2] at h1; cases h1
  refine (hp.calls (fun b => X b ∨ ∃ f d g, L0 f d g b) w vals hX (h0.hide (fun b hb => hb))).mono ?_
  rintro e w' ⟨v, rfl, hb, hr⟩
  obtain ⟨r', m⟩ := r.grow hb.os hb.tape hb.output hb.size (fun b h => hb.block b h)
  exact ⟨v, rfl, r', m, fun hs => scal_closed hs hr, fun L nx' hL => hr.show (fun b h => .inl h) (fun f d g b h => .inr ⟨f, d, g, hL _ _ _ _ h⟩)⟩

theorem find_sel {H : Heap} : ∀ {ks : List (Nat × Nat)} {f d g : Nat} {b : Option (List AV)}, find (sel ks H) f d = some (g, b) → find H f d = some (g, b) ∧ keyIn ks f d = true
  | [], f, d, g, b, h => by simp [sel, find] at h
  | (f1, d1) :: ks, f, d, g, b, h => by
    simp only [sel] at h
    split at h
    · rename_i g1 b1 h1
      simp only [find] at h
      split at h
      · rename_i e
        obtain ⟨rfl, rfl⟩ := e
        simp at h; obtain ⟨rfl, rfl⟩ := h
        exact ⟨h1, by simp [keyIn]⟩
      · rename_i e
        obtain ⟨h2, h3⟩ := find_sel h
        exact ⟨h2, by simp only [keyIn, if_neg e]; exact h3⟩
    · obtain ⟨h2, h3⟩ := find_sel h
      refine ⟨h2, ?_⟩
      simp only [keyIn]; split
      · rfl
      · exact h3
theorem find_rest {ks : List (Nat × Nat)} : ∀ {H : Heap} {f d g : Nat} {b : Option (List AV)}, find (rest ks H) f d = some (g, b) → find H f d = some (g, b) ∧ keyIn ks f d = false
  | [], f, d, g, b, h => by simp [rest, find] at h
  | (f1, d1, g1, b1) :: H, f, d, g, b, h => by
    simp only [rest] at h
    split at h
    · rename_i hk
      obtain ⟨h2, h3⟩ := find_rest h
      refine ⟨?_, h3⟩
      simp only [find]
      rw [if_neg (fun e => by obtain ⟨rfl, rfl⟩ := e; rw [hk] at h3; cases h3)]
      exact h2
    · rename_i hk
      simp only [find] at h ⊢
      split at h
      · rename_i e
        rw [if_pos e]
        obtain ⟨rfl, rfl⟩ := e
        exact ⟨h, by simpa using hk⟩
      · rename_i e
        rw [if_neg e]
        exact find_rest h
theorem find_app {H1 H2 : Heap} {f d : Nat} : find (H1 ++ H2) f d = match find H1 f d with | some e => some e | none => find H2 f d := by
  induction H1 with
  | nil => rfl
  | cons e H1 ih =>
    obtain ⟨f1, d1, g1, b1⟩ := e
    simp only [List.cons_append, find]
    split
    · rfl
    · exact ih
/-- Among other entries that it does not name. -/
theorem Rep.merge {L Lm : Loc} {X X' : Nat → Prop} {nx : Ctr} {w : World} {Hr : Heap} {p : Bool} {x : AV} {v : Value} (h : Rep L X' nx w p x v) (hX : ∀ b, X b → X' b)
    (hL : ∀ f d g b, Lm f d g b → L f d g b ∨ (X' b ∧ ∃ cs, find Hr f d = some (g, some cs))) (hall : Hr = [] → ∀ f d g b, Lm f d g b → L f d g b) : (Hr = [] ∨ ∃ n, nameFree n Hr x = true) → Rep Lm X nx w p x v := by
  have av : ∀ b, (∀ f d g, ¬ L f d g b) → ¬ X' b → ∀ f d g, ¬ Lm f d g b := fun b h1 h2 f d g h => (hL f d g b h).elim (h1 f d g) (fun h => h2 h.1)
  have all : ∀ {n : Nat} {cs : List AV}, cs.all (nameFree n Hr) = true → ∀ (j : Nat) y, cs[j]? = some y → nameFree n Hr y = true := fun h j y hj => List.all_eq_true.1 h y (List.mem_of_getElem? hj)
  have nm : ∀ {f d g : Nat} {b : Nat}, (Hr = [] ∨ (match find Hr f d with | some (g', some _) => g' != g | _ => true) = true) → Lm f d g b → L f d g b := by
    intro f d g b h hb
    rcases h with h | h
    · exact hall h _ _ _ _ hb
    · rcases hL _ _ _ _ hb with h1 | ⟨_, cs, h1⟩
      · exact h1
      · rw [h1] at h; simp at h
  induction h with
  | any => exact fun _ => .any
  | int => exact fun _ => .int
  | bool => exact fun _ => .bool
  | str => exact fun _ => .str
  | nilp => exact fun _ => .nilp
  | nils => exact fun _ => .nils
  | nilm => exact fun _ => .nilm
  | nilf => exact fun _ => .nilf
  | nili => exact fun _ => .nili
  | ptr hg h =>
    intro hn
    refine .ptr hg (fun b hb => h b (nm ?_ hb))
    rcases hn with hn | ⟨n, hn⟩
    · exact .inl hn
    · cases n with
      | zero => cases hn
      | succ n => exact .inr hn
  | ro vv hc hr ho ih =>
    intro hn
    refine .ro vv hc (fun j y hj => ih j y hj ?_) (fun hne => ⟨av _ (ho hne).1 (ho hne).2.1, fun hx => (ho hne).2.1 (hX _ hx), (ho hne).2.2⟩)
    rcases hn with hn | ⟨n, hn⟩
    · exact .inl hn
    · cases n with
      | zero => cases hn
      | succ n => exact .inr ⟨n, all hn j y hj⟩
  | sl hg hl h =>
    intro hn
    refine .sl hg hl (fun b hb => h b (nm ?_ hb))
    rcases hn with hn | ⟨n, hn⟩
    · exact .inl hn
    · cases n with
      | zero => cases hn
      | succ n => exact .inr hn
  | fz0 a b => exact fun _ => .fz0 a b
  | fz vv a b c d e f h g ih =>
    intro hn
    refine .fz vv a b c d e (fun i y j z h1 h2 => ?_) h ⟨av _ g.1 g.2.1, fun hx => g.2.1 (hX _ hx), g.2.2⟩
    exact ((f i y j z h1 h2).hide (X' := fun b => X' b ∨ ∃ f d g, L f d g b) (fun b h => h)).show (fun b h => .inl (hX b h)) (fun f d g b h => (hL f d g b h).elim (fun h => .inr ⟨_, _, _, h⟩) (fun h => .inl h.1))
  | agg h hr ih =>
    intro hn
    refine .agg h (fun j y hj => ih j y hj ?_)
    rcases hn with hn | ⟨n, hn⟩
    · exact .inl hn
    · cases n with
      | zero => cases hn
      | succ n => exact .inr ⟨n, all hn j y hj⟩
  | tup h hr ih =>
    intro hn
    refine .tup h (fun j y hj => ih j y hj ?_)
    rcases hn with hn | ⟨n, hn⟩
    · exact .inl hn
    · cases n with
      | zero => cases hn
      | succ n => exact .inr ⟨n, all hn j y hj⟩
  | func h hr ih =>
    intro hn
    refine .func h (fun j y hj => ih j y hj ?_)
    rcases hn with hn | ⟨n, hn⟩
    · exact .inl hn
    · cases n with
      | zero => cases hn
      | succ n => exact .inr ⟨n, all hn j y hj⟩
  | ifc h ih =>
    intro hn
    refine .ifc (ih ?_)
    rcases hn with hn | ⟨n, hn⟩
    · exact .inl hn
    · cases n with
      | zero => cases hn
      | succ n => exact .inr ⟨n, hn⟩

/-- A part of the heap, the rest set aside. -/
theorem Rep.part {L L' : Loc} {X X' : Nat → Prop} {nx : Ctr} {w : World} {p : Bool} {x : AV} {v : Value} (h : Rep L X nx w p x v) (hL : ∀ f d g b, L' f d g b → L f d g b) (hX : ∀ b, X' b → X b ∨ ∃ f d g, L f d g b) : Rep L' X' nx w p x v := by
  induction h with
  | any => exact .any
  | int => exact .int
  | bool => exact .bool
  | str => exact .str
  | nilp => exact .nilp
  | nils => exact .nils
  | nilm => exact .nilm
  | nilf => exact .nilf
  | nili => exact .nili
  | ptr hg h => exact .ptr hg (fun b hb => h b (hL _ _ _ _ hb))
  | ro vv hc hr ho ih => exact .ro vv hc ih (fun hne => ⟨fun f d g h => (ho hne).1 f d g (hL _ _ _ _ h), fun hx => (hX _ hx).elim (ho hne).2.1 (fun ⟨f, d, g, h⟩ => (ho hne).1 f d g h), (ho hne).2.2⟩)
  | sl hg hl h => exact .sl hg hl (fun b hb => h b (hL _ _ _ _ hb))
  | fz0 a b => exact .fz0 a b
  | fz vv a b c d e f h g ih => exact .fz vv a b c d e ih h ⟨fun f d g' h => g.1 f d g' (hL _ _ _ _ h), fun hx => (hX _ hx).elim g.2.1 (fun ⟨f, d, g', h⟩ => g.1 f d g' h), g.2.2⟩
  | agg h hr ih => exact .agg h ih
  | tup h hr ih => exact .tup h ih
  | func h hr ih => exact .func h ih
  | ifc h ih => exact .ifc ih
theorem Reps.part {L L' : Loc} {X X' : Nat → Prop} {nx : Ctr} {w : World} {p : Bool} {xs : List AV} {vs : List Value} (h : Reps L X nx w p xs vs) (hL : ∀ f d g b, L' f d g b → L f d g b) (hX : ∀ b, X' b → X b ∨ ∃ f d g, L f d g b) : Reps L' X' nx w p xs vs := by
  induction h with
  | nil => exact .nil
  | cons h _ ih => exact .cons (h.part hL hX) ih
theorem heapFree_find {Hr : Heap} : ∀ {H : Heap} {f d g : Nat} {cs : List AV}, heapFree Hr H = true → find H f d = some (g, some cs) → cs.all (nameFree 9 Hr) = true
  | [], f, d, g, cs, _, h => by simp [find] at h
  | (f1, d1, g1, b1) :: H, f, d, g, cs, hf, h => by
    simp only [find] at h
    split at h
    · simp at h; obtain ⟨rfl, rfl⟩ := h
      simp only [heapFree, Bool.and_eq_true] at hf
      exact hf.1
    · cases b1 with
      | none => exact heapFree_find (by simpa only [heapFree] using hf) h
      | some cs1 => simp only [heapFree, Bool.and_eq_true] at hf; exact heapFree_find hf.2 h

/-- A call of a function that gets a part of the heap. -/
theorem call_heap {f : Nat} {ks : List (Nat × Nat)} {as : List AV} {vals : List Value} {rv : AV} {Hout : Heap} {nx' : Ctr} (hp : HCalls P f as (sel ks H) nx rv Hout nx') (r : Rel w0 O X bm H nx w) (ha : Reps (Lof H bm) X nx w false as vals)
    (hf : rest ks H = [] ∨ (nameFree 9 (rest ks H) rv = true ∧ heapFree (rest ks H) Hout = true)) :
    Calls P f vals.toArray w fun e w' => ∃ v bmm, e = .returned v ∧ Rel w0 O X bmm (Hout ++ rest ks H) nx' w' ∧ Move (Lof H bm) nx w (Lof (Hout ++ rest ks H) bmm) nx' w' ∧ Rep (Lof (Hout ++ rest ks H) bmm) X nx' w' false rv v := by
  have lt : ∀ {f d g : Nat} {cs : List AV}, find H f d = some (g, some cs) → bm f d < w.heap.size := by
    intro f d g cs h
    obtain ⟨vs1, E1, h1, _⟩ := r.blk _ _ _ _ h
    rcases Nat.lt_or_ge (bm f d) w.heap.size with h2 | h2
    · exact h2
    · rw [Array.getElem?_eq_none h2] at h1; cases h1
  have inS : ∀ f d g b, Lof (sel ks H) bm f d g b → Lof H bm f d g b := by
    rintro f d g b ⟨⟨cs, h⟩, rfl⟩; exact Lof.mk (find_sel h).1
  have inR : ∀ f d g b, Lof (rest ks H) bm f d g b → Lof H bm f d g b := by
    rintro f d g b ⟨⟨cs, h⟩, rfl⟩; exact Lof.mk (find_rest h).1
  have apart : ∀ {b : Nat}, Own (sel ks H) bm b → Own (rest ks H) bm b → False := by
    rintro b ⟨f1, d1, g1, cs1, h1, rfl⟩ ⟨f2, d2, g2, cs2, h2, he⟩
    obtain ⟨k1, k2⟩ := find_sel h1
    obtain ⟨k3, k4⟩ := find_rest h2
    obtain ⟨rfl, rfl⟩ := r.inj _ _ _ _ _ _ _ _ k1 k3 he
    rw [k2] at k4; cases k4
  have hX' : ∀ b, (X b ∨ Own (rest ks H) bm b) → X b ∨ ∃ f d g, Lof H bm f d g b := by
    rintro b (h | ⟨f, d, g, cs, h, rfl⟩)
    · exact .inl h
    · exact .inr ⟨f, d, g, Lof.mk (find_rest h).1⟩
  have hin : Rel w (Own (sel ks H) bm) (fun b => X b ∨ Own (rest ks H) bm b) bm (sel ks H) nx w := by
    refine ⟨?_, ?_, ?_, ?_, rfl, rfl, rfl, Nat.le_refl _, fun _ _ _ => rfl, ?_⟩
    · intro f d g cs h
      obtain ⟨vs, E, h1, h2, h3⟩ := r.blk _ _ _ _ (find_sel h).1
      exact ⟨vs, E, h1, h2, fun j x hx => ⟨(h3 j x hx).1.part inS hX', (h3 j x hx).2⟩⟩
    · intro f d g cs f' d' g' cs' h h'
      exact r.inj _ _ _ _ _ _ _ _ (find_sel h).1 (find_sel h').1
    · intro f d g b h; exact r.gen _ _ _ _ (find_sel h).1
    · intro f d g cs h
      refine ⟨.inr ⟨f, d, g, cs, h, rfl⟩, ?_⟩
      rintro (h1 | h1)
      · exact (r.own _ _ _ _ (find_sel h).1).2 h1
      · exact apart ⟨f, d, g, cs, h, rfl⟩ h1
    · rintro b (h | ⟨f, d, g, cs, h, rfl⟩)
      · exact Nat.lt_of_lt_of_le (r.xlt b h) r.size
      · exact lt (find_rest h).1
  refine (hp.calls (fun b => X b ∨ Own (rest ks H) bm b) w bm vals hin (ha.part inS hX')).mono ?_
  rintro e w' ⟨v, bm', rfl, rl, mv, rep⟩
  let bmm : Nat → Nat → Nat := fun f d => if (find Hout f d).isSome then bm' f d else bm f d
  have b1 : ∀ {f d : Nat} {q : Nat × Option (List AV)}, find Hout f d = some q → bmm f d = bm' f d := by intro f d q h; simp [bmm, h]
  have b2 : ∀ {f d : Nat}, find Hout f d = none → bmm f d = bm f d := by intro f d h; simp [bmm, h]
  have split2 : ∀ {f d g : Nat} {b : Option (List AV)}, find (Hout ++ rest ks H) f d = some (g, b) → (find Hout f d = some (g, b) ∧ bmm f d = bm' f d) ∨ (find Hout f d = none ∧ find (rest ks H) f d = some (g, b) ∧ bmm f d = bm f d) := by
    intro f d g b h
    rw [find_app] at h
    cases ho : find Hout f d with
    | none => rw [ho] at h; exact .inr ⟨rfl, h, b2 ho⟩
    | some q => rw [ho] at h; simp at h; subst h; exact .inl ⟨rfl, b1 ho⟩
  have lm : ∀ f d g b, Lof (Hout ++ rest ks H) bmm f d g b → Lof Hout bm' f d g b ∨ (find Hout f d = none ∧ Lof (rest ks H) bm f d g b) := by
    rintro f d g b ⟨⟨cs, h⟩, rfl⟩
    rcases split2 h with ⟨h1, h2⟩ | ⟨h1, h2, h3⟩
    · rw [h2]; exact .inl (Lof.mk h1)
    · rw [h3]; exact .inr ⟨h1, Lof.mk h2⟩
  have still : ∀ {f d g : Nat} {cs : List AV}, find (rest ks H) f d = some (g, some cs) → w'.heap[bm f d]? = w.heap[bm f d]? := by
    intro f d g cs h
    exact rl.keep _ (lt (find_rest h).1) (fun ho => apart ho ⟨f, d, g, cs, h, rfl⟩)
  have m : Move (Lof H bm) nx w (Lof (Hout ++ rest ks H) bmm) nx' w' := by
    refine ⟨mv.hnx, mv.size, fun f d g b h hg => ?_, fun f d g b h hg => ?_, fun a u hc hL => ?_, fun f d g b vs E h hg hb => ?_⟩
    · rcases lm _ _ _ _ h with h | ⟨_, h⟩
      · exact inS _ _ _ _ (mv.old _ _ _ _ h hg)
      · exact inR _ _ _ _ h
    · rcases lm _ _ _ _ h with h | ⟨_, h⟩
      · exact (mv.new _ _ _ _ h hg).imp id (fun ⟨f', d', g', h⟩ => ⟨f', d', g', inS _ _ _ _ h⟩)
      · exact .inr ⟨f, d, g, inR _ _ _ _ h⟩
    · have hl := World.block_lt_of_cell? w a hc
      rw [World.cell?_of_block (w := w) (rl.keep _ hl (fun ⟨f, d, g, cs, h, he⟩ => hL f d g (by rw [he]; exact Lof.mk (find_sel h).1)))]
      exact hc
    · rcases lm _ _ _ _ h with h | ⟨_, h⟩
      · exact mv.blk _ _ _ _ _ _ h hg hb
      · obtain ⟨⟨cs, hq⟩, rfl⟩ := h
        exact ⟨vs, by rw [still hq]; exact hb, rfl⟩
  have mg : ∀ {x : AV} {u : Value}, Rep (Lof Hout bm') (fun b => X b ∨ Own (rest ks H) bm b) nx' w' false x u → (rest ks H = [] ∨ ∃ n, nameFree n (rest ks H) x = true) → Rep (Lof (Hout ++ rest ks H) bmm) X nx' w' false x u := by
    intro x u hx hn
    refine hx.merge (fun b h => .inl h) (fun f d g b h => ?_) (fun h0 f d g b h => ?_) hn
    · rcases lm _ _ _ _ h with h | ⟨_, ⟨⟨cs, hq⟩, rfl⟩⟩
      · exact .inl h
      · exact .inr ⟨.inr ⟨f, d, g, cs, hq, rfl⟩, cs, hq⟩
    · rcases lm _ _ _ _ h with h | ⟨_, ⟨⟨cs, hq⟩, rfl⟩⟩
      · exact h
      · rw [h0] at hq; simp [find] at hq
  refine ⟨v, bmm, rfl, ⟨?_, ?_, ?_, ?_, rl.os.trans r.os, rl.tape.trans r.tape, rl.output.trans r.output, Nat.le_trans r.size rl.size, ?_, r.xlt⟩, m, mg rep (hf.imp id (fun h => ⟨9, h.1⟩))⟩
  · intro f d g cs h
    rcases split2 h with ⟨h1, h2⟩ | ⟨h1, h2, h3⟩
    · obtain ⟨vs, E, k1, k2, k3⟩ := rl.blk _ _ _ _ h1
      refine ⟨vs, E, by rw [h2]; exact k1, k2, fun j x hx => ⟨mg (k3 j x hx).1 (hf.imp id (fun hq => ⟨9, ?_⟩)), (k3 j x hx).2⟩⟩
      exact List.all_eq_true.1 (heapFree_find hq.2 h1) x (List.mem_of_getElem? hx)
    · obtain ⟨vs, E, k1, k2, k3⟩ := r.blk _ _ _ _ (find_rest h2).1
      exact ⟨vs, E, by rw [h3, still h2]; exact k1, k2, fun j x hx => ⟨(k3 j x hx).1.move m, (k3 j x hx).2⟩⟩
  · intro f d g cs f' d' g' cs' h h' he
    rcases split2 h with ⟨h1, h2⟩ | ⟨h1, h2, h3⟩ <;> rcases split2 h' with ⟨h1', h2'⟩ | ⟨h1', h2', h3'⟩
    · rw [h2, h2'] at he; exact rl.inj _ _ _ _ _ _ _ _ h1 h1' he
    · rw [h2, h3'] at he
      exact absurd (.inr ⟨f', d', g', cs', h2', he⟩) (rl.own _ _ _ _ h1).2
    · rw [h3, h2'] at he
      exact absurd (.inr ⟨f, d, g, cs, h2, he.symm⟩) (rl.own _ _ _ _ h1').2
    · rw [h3, h3'] at he; exact r.inj _ _ _ _ _ _ _ _ (find_rest h2).1 (find_rest h2').1 he
  · intro f d g b h
    rcases split2 h with ⟨h1, _⟩ | ⟨_, h2, _⟩
    · exact rl.gen _ _ _ _ h1
    · exact Nat.lt_of_lt_of_le (r.gen _ _ _ _ (find_rest h2).1) (mv.hnx _)
  · intro f d g cs h
    rcases split2 h with ⟨h1, h2⟩ | ⟨h1, h2, h3⟩
    · rw [h2]
      obtain ⟨k1, k2⟩ := rl.own _ _ _ _ h1
      refine ⟨?_, fun hx => k2 (.inl hx)⟩
      rcases k1 with k1 | ⟨f', d', g', cs', k3, k4⟩
      · exact .inl (Nat.le_trans r.size k1)
      · rw [k4]; exact (r.own _ _ _ _ (find_sel k3).1).1
    · rw [h3]; exact r.own _ _ _ _ (find_rest h2).1
  · intro b hb hO
    rw [rl.keep b (Nat.lt_of_lt_of_le hb r.size) (fun ⟨f, d, g, cs, h, he⟩ => ?_)]
    · exact r.keep b hb hO
    · rcases (r.own _ _ _ _ (find_sel h).1).1 with k | k
      · omega
      · exact hO (by rw [he]; exact k)

theorem wanted_true {ops : Array Oper} {o : Oper} {o' : Op} {t : List AV} {a : Act} (ht : TRel (Lof H bm) X nx w t a.tmps)
    (hgo : match o.guard with | none => o'.g = none | some (j, b) => ∃ t', (ops[j]?).bind (·.dst) = some t' ∧ o'.g = some (t', b))
    (hg : ∀ j w, o'.g = some (j, w) → getT t j = .bool w) : Region.wanted o (yielded ops a.tmps) = true := by
  unfold Region.wanted
  cases hgd : o.guard with
  | none => rfl
  | some q =>
    obtain ⟨j, b⟩ := q
    rw [hgd] at hgo
    obtain ⟨t', h1, h2⟩ := hgo
    have h3 := ht.get t'
    rw [hg _ _ h2] at h3
    simp only [yielded, h1, Option.bind_some, beq_iff_eq]
    cases h4 : a.tmps[t']? with
    | none => simp [Array.getD_eq_getD_getElem?, h4, undef] at h3; cases h3
    | some u => simp [Array.getD_eq_getD_getElem?, h4] at h3; cases h3; rfl
theorem wanted_false {ops : Array Oper} {o : Oper} {o' : Op} {t : List AV} {a : Act} (ht : TRel (Lof H bm) X nx w t a.tmps)
    (hgo : match o.guard with | none => o'.g = none | some (j, b) => ∃ t', (ops[j]?).bind (·.dst) = some t' ∧ o'.g = some (t', b))
    {j : Nat} {b : Bool} (hg : o'.g = some (j, b)) (hne : getT t j = .tup [] ∨ ∃ b', getT t j = .bool b' ∧ b' ≠ b) : Region.wanted o (yielded ops a.tmps) = false := by
  unfold Region.wanted
  cases hgd : o.guard with
  | none => rw [hgd] at hgo; rw [hgo] at hg; cases hg
  | some q =>
    obtain ⟨j', b1⟩ := q
    rw [hgd] at hgo
    obtain ⟨t', h1, h2⟩ := hgo
    rw [h2] at hg
    simp at hg
    obtain ⟨rfl, rfl⟩ := hg
    have h3 := ht.get t'
    simp only [yielded, h1, Option.bind_some, beq_eq_false_iff_ne]
    rcases hne with h | ⟨b', h, hb⟩
    · rw [h] at h3
      cases h4 : a.tmps[t']? with
      | none => simp
      | some u => simp [Array.getD_eq_getD_getElem?, h4] at h3; cases h3; simp
    · rw [h] at h3
      cases h4 : a.tmps[t']? with
      | none => simp
      | some u => simp [Array.getD_eq_getD_getElem?, h4] at h3; cases h3; simpa using hb

theorem Reps.cast {L : Loc} {p : Bool} {xs : List AV} {vs us : List Value} (h : Reps L X nx w p xs vs) (e : vs = us) : Reps L X nx w p xs us := e ▸ h

theorem map_nil_ids {H : Heap} {xs vs : List AV} (h : mapK (frzK 9 []) xs (fun v i => match i with | [] => some v | _ => none) none = some vs) : mapK (frzK 9 H) xs (fun v i => some (v, i)) none = some (vs, []) := by
  have h1 := mapF_nil (fun H v α ok r => frzK_nil 9 H v ok r) H xs _ _ h
  have h2 := mapF_nat (fun x : Option (List AV × List (Nat × Nat)) => match x with | some (v, i) => (match i with | [] => some v | _ => none) | none => none) 9 H xs (fun v i => some (v, i)) none
  simp only at h2
  rw [← h2] at h1
  cases hq : mapK (frzK 9 H) xs (fun v i => some (v, i)) none with
  | none => rw [hq] at h1; cases h1
  | some q =>
    obtain ⟨v, i⟩ := q
    rw [hq] at h1
    cases i with
    | nil => simp only [Option.some.injEq] at h1; rw [h1]
    | cons a i => cases h1
theorem compOp_inv {M : Nat → Nat} {cm : Nat → Nat} {ops : Array Oper} {o : Oper} {o' : Op} (h : compOp P M cm ops o = some o') :
    ∃ xs, compK P M cm o = some (o'.o, xs) ∧ arsOf xs = some o'.x ∧ o'.d = o.dst ∧ (match o.guard with | none => o'.g = none | some (j, b) => ∃ t', (ops[j]?).bind (·.dst) = some t' ∧ o'.g = some (t', b)) := by
  unfold compOp at h
  split at h
  · rename_i k xs hk
    split at h
    · rename_i as has
      split at h
      · rename_i hg
        simp at h; subst h
        exact ⟨xs, hk, has, rfl, by rw [hg]⟩
      · rename_i j b hg
        split at h
        · rename_i t' ht'
          simp at h; subst h
          exact ⟨xs, hk, has, rfl, by rw [hg]; exact ⟨t', ht', rfl⟩⟩
        · cases h
    · cases h
  · cases h

theorem compK_call {M : Nat → Nat} {cm : Nat → Nat} {o : Oper} {f m : Nat} {xs : List Operand} (h : compK P M cm o = some (.call f m, xs)) : ∃ c, o.op = .call c ∧ c.callee = .value (.func f) ∧ xs = c.args.toList := by
  unfold compK at h
  cases ho : o.op
  case call c =>
    rw [ho] at h
    simp only at h
    cases hc : c.callee with
    | value x =>
      rw [hc] at h
      cases x <;> simp at h
      obtain ⟨⟨rfl, rfl⟩, rfl⟩ := h
      exact ⟨c, rfl, hc, rfl⟩
    | builtin b =>
      rw [hc] at h
      simp only at h
      repeat' (split at h)
      all_goals simp at h
    | invoke r m => rw [hc] at h; simp at h
  all_goals
    rw [ho] at h
    simp only at h
    repeat' (split at h)
    all_goals first | (simp at h; done) | simp_all
theorem compK_callv {M : Nat → Nat} {cm : Nat → Nat} {o : Oper} {m : Nat} {xs : List Operand} (h : compK P M cm o = some (.callv m, xs)) : ∃ c x, o.op = .call c ∧ c.callee = .value x ∧ xs = x :: c.args.toList := by
  unfold compK at h
  cases ho : o.op
  case call c =>
    rw [ho] at h
    simp only at h
    cases hc : c.callee with
    | value x =>
      rw [hc] at h
      cases x <;> simp at h
      all_goals
        obtain ⟨rfl, rfl⟩ := h
        exact ⟨c, _, rfl, hc, rfl⟩
    | builtin b =>
      rw [hc] at h
      simp only at h
      repeat' (split at h)
      all_goals simp at h
    | invoke r m => rw [hc] at h; simp at h
  all_goals
    rw [ho] at h
    simp only at h
    repeat' (split at h)
    all_goals first | (simp at h; done) | simp_all

theorem run_callFunc_ok {f : Nat} (hok : fnOk P f = true) (args : Array Value) : (callFunc f args).run P w = .ok (.enter f args) w := by
  unfold fnOk at hok
  split at hok
  · rename_i fn hf
    simp at hok
    obtain ⟨b, hb⟩ := Option.isSome_iff_exists.1 hok.2
    simp [callFunc, hf, hok.1, hb]
  · cases hok
end
end Go.Ev
/- A compiled region in the model. -/
namespace Go.Ev
open Go.RowKit
set_option linter.unusedVariables false
set_option linter.unusedSimpArgs false
set_option linter.unusedSectionVars false

section
variable {P : Program} {w0 : World} {O X : Nat → Prop} {L0 : Loc} {nx0 : Ctr} {H : Heap} {nx : Ctr} {w : World}

theorem op_wp {M : Nat → Nat} {cm : Nat → Nat} {ops : Array Oper} {i : Nat} {o : Oper} {o' : Op} (ho : ops[i]? = some o) (hc : compOp P M cm ops o = some o')
    {φ : Nat} {t t' : List AV} {H' : Heap} {nx' : Ctr} (hs : OpStep P φ o' t H nx t' H' nx') {a : Act} (st : St w0 O X L0 nx0 t H nx a w)
    {Q : Exit → Act → World → Prop} {K : Act → World → Prop} (hK : ∀ a' w', St w0 O X L0 nx0 t' H' nx' a' w' → K a' w') : wpOp P ops Q i K a w := by
  obtain ⟨xs, hk, has, hd, hgo⟩ := compOp_inv hc
  obtain ⟨hdef, bm, hrel, ht, hmv⟩ := st
  unfold wpOp
  simp only [ho]
  have hvs := evs_rep (a := a) ht has
  cases hs with
  | @skip j b b' hg hb hne =>
    rw [wanted_false ht hgo hg (.inr ⟨_, hb, hne⟩)]
    simp only [Bool.false_eq_true, if_false]
    exact hK _ _ ⟨by rw [put_defers]; exact hdef, bm, hrel, by rw [hd]; exact ht.put (.tup rfl (by simp)) _, hmv⟩
  | @skipU j b hg hb =>
    rw [wanted_false ht hgo hg (.inl hb)]
    simp only [Bool.false_eq_true, if_false]
    exact hK _ _ ⟨by rw [put_defers]; exact hdef, bm, hrel, by rw [hd]; exact ht.put (.tup rfl (by simp)) _, hmv⟩
  | @exec v _ _ hg h =>
    rw [wanted_true ht hgo hg]
    simp only [if_true]
    refine .inl ?_
    have hnc : ∀ f m, o'.o ≠ .call f m := by
      intro f m e; rw [e] at h; unfold opD opK at h
      split at h <;> simp_all
    have hncv : ∀ m, o'.o ≠ .callv m := by
      intro m e; rw [e] at h; unfold opD opK at h
      split at h <;> simp_all
    obtain ⟨n, v', w', bm', h1, h2, h3, h4, h5⟩ := op_sound hk hnc hncv hrel hvs h
    unfold Oper.wp
    rw [h1]
    have fin : ∀ u, Rep (Lof H' bm') X nx' w' false v u → St w0 O X L0 nx0 (put t o'.d v) H' nx' (a.put o.dst u) w' := fun u hu => ⟨by rw [put_defers]; exact hdef, bm', h3, by rw [hd]; exact (ht.move h4).put hu _, hmv.trans h4⟩
    rcases h2 with rfl | ⟨rfl, rfl⟩
    · rw [Oper.upon_value]; exact hK _ _ (fin _ h5)
    · rw [Oper.upon_skip]; exact hK _ _ (fin _ h5)
  | @call0 f vs ids rv hg hop hm hp hsc =>
    rw [wanted_true ht hgo hg]
    simp only [if_true]
    refine .inl ?_
    rw [hop] at hk
    obtain ⟨c, hoc, hcc, rfl⟩ := compK_call hk
    have he : (execOp a.eval o).run P w = .ok (.enter f (c.args.map a.eval)) w := by
      simp only [execOp, hoc, resolve, hcc, Act.eval, Deferred.ofValue, Sem.run_bind, Sem.run_pure, Result.andThen_ok, invoke]
      simp only [Array.empty_append, Array.append_empty]
      exact run_callFunc_ok hp.ok _
    unfold Oper.wp
    rw [he, Oper.upon_enter]
    have hcall := call_pure hp hrel (vals := (c.args.map a.eval).toList) (hvs.cast (by simp)) hm
    rw [Array.toArray_toList] at hcall
    refine hcall.mono ?_
    rintro e w' ⟨v, rfl, h3, h4, h5, h6⟩
    refine hK _ _ ⟨by rw [put_defers]; exact hdef, bm, h3, ?_, hmv.trans h4⟩
    rw [hd]
    refine (ht.move h4).put ?_ _
    rcases hsc with rfl | hsc
    · exact (h6 (Lof H bm) nx (fun f d g b h => ⟨h, by simp⟩)).weak
    · exact h5 hsc _ _ _ _ _
  | @call4 f vs rv hg hop hm4 hp =>
    have hm := map_nil_ids (H := H) hm4
    rw [wanted_true ht hgo hg]
    simp only [if_true]
    refine .inl ?_
    rw [hop] at hk
    obtain ⟨c, hoc, hcc, rfl⟩ := compK_call hk
    have he : (execOp a.eval o).run P w = .ok (.enter f (c.args.map a.eval)) w := by
      simp only [execOp, hoc, resolve, hcc, Act.eval, Deferred.ofValue, Sem.run_bind, Sem.run_pure, Result.andThen_ok, invoke]
      simp only [Array.empty_append, Array.append_empty]
      exact run_callFunc_ok hp.ok _
    unfold Oper.wp
    rw [he, Oper.upon_enter]
    have hcall := call_pure hp hrel (vals := (c.args.map a.eval).toList) (hvs.cast (by simp)) hm
    rw [Array.toArray_toList] at hcall
    refine hcall.mono ?_
    rintro e w' ⟨v, rfl, h3, h4, h5, h6⟩
    refine hK _ _ ⟨by rw [put_defers]; exact hdef, bm, h3, ?_, hmv.trans h4⟩
    rw [hd]
    refine (ht.move h4).put ?_ _
    exact (h6 (Lof H bm) nx (fun f d g b h => ⟨h, by simp⟩)).weak
  | @callv0 f caps as vs ids rv hg hop hx hm hp hsc =>
    rw [wanted_true ht hgo hg]
    simp only [if_true]
    refine .inl ?_
    rw [hop] at hk
    obtain ⟨c, x, hoc, hcc, rfl⟩ := compK_callv hk
    rw [hx] at hvs
    simp only [List.map_cons] at hvs
    obtain ⟨u, us, hu, hf, has'⟩ := hvs.inv
    simp only [List.cons.injEq] at hu
    obtain ⟨rfl, rfl⟩ := hu
    cases hfe : a.eval x with
    | func fn first caps' =>
      rw [hfe] at hf
      cases hf with
      | func hsz hr =>
        have he : (execOp a.eval o).run P w = .ok (.enter f (c.args.map a.eval ++ caps')) w := by
          simp only [execOp, hoc, resolve, hcc, hfe, Deferred.ofValue, Sem.run_bind, Sem.run_pure, Result.andThen_ok, invoke]
          simp only [Array.empty_append]
          exact run_callFunc_ok hp.ok _
        unfold Oper.wp
        rw [he, Oper.upon_enter]
        have hcaps : Reps (Lof H bm) X nx w false caps caps'.toList := Reps.of _ _ (by simpa using hsz) (fun j y hy => by have := hr j y hy; simpa [List.getD] using this)
        have hcall := call_pure hp hrel (vals := (c.args.map a.eval ++ caps').toList) ((has'.append hcaps).cast (by simp)) hm
        rw [Array.toArray_toList] at hcall
        refine hcall.mono ?_
        rintro e w' ⟨v, rfl, h3, h4, h5, h6⟩
        refine hK _ _ ⟨by rw [put_defers]; exact hdef, bm, h3, ?_, hmv.trans h4⟩
        rw [hd]
        refine (ht.move h4).put ?_ _
        rcases hsc with rfl | hsc
        · exact (h6 (Lof H bm) nx (fun f d g b h => ⟨h, by simp⟩)).weak
        · exact h5 hsc _ _ _ _ _
    | _ => rw [hfe] at hf; cases hf
  | @callv1 f caps as vs ids rv hg hop hx hm hp =>
    rw [wanted_true ht hgo hg]
    simp only [if_true]
    refine .inl ?_
    rw [hop] at hk
    obtain ⟨c, x, hoc, hcc, rfl⟩ := compK_callv hk
    rw [hx] at hvs
    simp only [List.map_cons] at hvs
    obtain ⟨u, us, hu, hf, has'⟩ := hvs.inv
    simp only [List.cons.injEq] at hu
    obtain ⟨rfl, rfl⟩ := hu
    cases hfe : a.eval x with
    | func fn first caps' =>
      rw [hfe] at hf
      cases hf with
      | func hsz hr =>
        have he : (execOp a.eval o).run P w = .ok (.enter f (c.args.map a.eval ++ caps')) w := by
          simp only [execOp, hoc, resolve, hcc, hfe, Deferred.ofValue, Sem.run_bind, Sem.run_pure, Result.andThen_ok, invoke]
          simp only [Array.empty_append]
          exact run_callFunc_ok hp.ok _
        unfold Oper.wp
        rw [he, Oper.upon_enter]
        have hcaps : Reps (Lof H bm) X nx w false caps caps'.toList := Reps.of _ _ (by simpa using hsz) (fun j y hy => by have := hr j y hy; simpa [List.getD] using this)
        have hcall := call_pure hp hrel (vals := (c.args.map a.eval ++ caps').toList) ((has'.append hcaps).cast (by simp)) hm
        rw [Array.toArray_toList] at hcall
        refine hcall.mono ?_
        rintro e w' ⟨v, rfl, h3, h4, h5, h6⟩
        obtain ⟨h7, h8⟩ := h3.kill ids
        refine hK _ _ ⟨by rw [put_defers]; exact hdef, bm, h7, ?_, (hmv.trans h4).trans h8⟩
        rw [hd]
        refine ((ht.move h4).move h8).put ?_ _
        refine (h6 (Lof (kill ids H) bm) nx (fun f d g b h => ?_)).weak
        obtain ⟨⟨cs, h⟩, rfl⟩ := h
        obtain ⟨h1, h2⟩ := find_kill ids _ _ _ _ _ h
        exact ⟨Lof.mk h1, h2⟩
    | _ => rw [hfe] at hf; cases hf
  | @call1 f vs ids rv hg hop hm hp =>
    rw [wanted_true ht hgo hg]
    simp only [if_true]
    refine .inl ?_
    rw [hop] at hk
    obtain ⟨c, hoc, hcc, rfl⟩ := compK_call hk
    have he : (execOp a.eval o).run P w = .ok (.enter f (c.args.map a.eval)) w := by
      simp only [execOp, hoc, resolve, hcc, Act.eval, Deferred.ofValue, Sem.run_bind, Sem.run_pure, Result.andThen_ok, invoke]
      simp only [Array.empty_append, Array.append_empty]
      exact run_callFunc_ok hp.ok _
    unfold Oper.wp
    rw [he, Oper.upon_enter]
    have hcall := call_pure hp hrel (vals := (c.args.map a.eval).toList) (hvs.cast (by simp)) hm
    rw [Array.toArray_toList] at hcall
    refine hcall.mono ?_
    rintro e w' ⟨v, rfl, h3, h4, h5, h6⟩
    obtain ⟨h7, h8⟩ := h3.kill ids
    refine hK _ _ ⟨by rw [put_defers]; exact hdef, bm, h7, ?_, (hmv.trans h4).trans h8⟩
    rw [hd]
    refine ((ht.move h4).move h8).put ?_ _
    refine (h6 (Lof (kill ids H) bm) nx (fun f d g b h => ?_)).weak
    obtain ⟨⟨cs, h⟩, rfl⟩ := h
    obtain ⟨h1, h2⟩ := find_kill ids _ _ _ _ _ h
    exact ⟨Lof.mk h1, h2⟩
  | @call3 f vs ids rv hg hop hm hp =>
    rw [wanted_true ht hgo hg]
    simp only [if_true]
    refine .inl ?_
    rw [hop] at hk
    obtain ⟨c, hoc, hcc, rfl⟩ := compK_call hk
    have he : (execOp a.eval o).run P w = .ok (.enter f (c.args.map a.eval)) w := by
      simp only [execOp, hoc, resolve, hcc, Act.eval, Deferred.ofValue, Sem.run_bind, Sem.run_pure, Result.andThen_ok, invoke]
      simp only [Array.empty_append, Array.append_empty]
      exact run_callFunc_ok hp.ok _
    unfold Oper.wp
    rw [he, Oper.upon_enter]
    have hcall := call_pure hp hrel (vals := (c.args.map a.eval).toList) (hvs.cast (by simp)) hm
    rw [Array.toArray_toList] at hcall
    refine hcall.mono ?_
    rintro e w' ⟨v, rfl, h3, h4, h5, h6⟩
    obtain ⟨h7, h8⟩ := h3.kill ids
    refine hK _ _ ⟨by rw [put_defers]; exact hdef, bm, h7, ?_, (hmv.trans h4).trans h8⟩
    rw [hd]
    refine (TRel.frzT h3 ids (ht.move h4)).put ?_ _
    refine (h6 (Lof (kill ids H) bm) nx (fun f d g b h => ?_)).weak
    obtain ⟨⟨cs, h⟩, rfl⟩ := h
    obtain ⟨h1, h2⟩ := find_kill ids _ _ _ _ _ h
    exact ⟨Lof.mk h1, h2⟩
  | @callv2 f caps as ks rv Hout nx2 hg hop hx hp hf =>
    rw [wanted_true ht hgo hg]
    simp only [if_true]
    refine .inl ?_
    rw [hop] at hk
    obtain ⟨c, x, hoc, hcc, rfl⟩ := compK_callv hk
    rw [hx] at hvs
    simp only [List.map_cons] at hvs
    obtain ⟨u, us, hu, hf0, has'⟩ := hvs.inv
    simp only [List.cons.injEq] at hu
    obtain ⟨rfl, rfl⟩ := hu
    cases hfe : a.eval x with
    | func fn first caps' =>
      rw [hfe] at hf0
      cases hf0 with
      | func hsz hr =>
        have he : (execOp a.eval o).run P w = .ok (.enter f (c.args.map a.eval ++ caps')) w := by
          simp only [execOp, hoc, resolve, hcc, hfe, Deferred.ofValue, Sem.run_bind, Sem.run_pure, Result.andThen_ok, invoke]
          simp only [Array.empty_append]
          exact run_callFunc_ok hp.ok _
        unfold Oper.wp
        rw [he, Oper.upon_enter]
        have hcaps : Reps (Lof H bm) X nx w false caps caps'.toList := Reps.of _ _ (by simpa using hsz) (fun j y hy => by have := hr j y hy; simpa [List.getD] using this)
        have hcall := call_heap hp hrel (vals := (c.args.map a.eval ++ caps').toList) ((has'.append hcaps).cast (by simp)) hf
        rw [Array.toArray_toList] at hcall
        refine hcall.mono ?_
        rintro e w' ⟨v, bmm, rfl, h3, h4, h5⟩
        refine hK _ _ ⟨by rw [put_defers]; exact hdef, bmm, h3, ?_, hmv.trans h4⟩
        rw [hd]
        exact (ht.move h4).put h5 _
    | _ => rw [hfe] at hf0; cases hf0
  | @call2 f ks rv Hout nx2 hg hop hp hf =>
    rw [wanted_true ht hgo hg]
    simp only [if_true]
    refine .inl ?_
    rw [hop] at hk
    obtain ⟨c, hoc, hcc, rfl⟩ := compK_call hk
    have he : (execOp a.eval o).run P w = .ok (.enter f (c.args.map a.eval)) w := by
      simp only [execOp, hoc, resolve, hcc, Act.eval, Deferred.ofValue, Sem.run_bind, Sem.run_pure, Result.andThen_ok, invoke]
      simp only [Array.empty_append, Array.append_empty]
      exact run_callFunc_ok hp.ok _
    unfold Oper.wp
    rw [he, Oper.upon_enter]
    have hcall := call_heap hp hrel (vals := (c.args.map a.eval).toList) (hvs.cast (by simp)) hf
    rw [Array.toArray_toList] at hcall
    refine hcall.mono ?_
    rintro e w' ⟨v, bmm, rfl, h3, h4, h5⟩
    refine hK _ _ ⟨by rw [put_defers]; exact hdef, bmm, h3, ?_, hmv.trans h4⟩
    rw [hd]
    exact (ht.move h4).put h5 _

/-- The operations of a region, compiled. -/
def compOps (P : Program) (M : Nat → Nat) (cm : Nat → Nat) (ops : Array Oper) : List Oper → Option (List Op)
  | [] => some []
  | o :: l => match compOp P M cm ops o, compOps P M cm ops l with
    | some x, some xs => some (x :: xs)
    | _, _ => none
theorem compOps_spec {M : Nat → Nat} {cm : Nat → Nat} {ops : Array Oper} : ∀ {l : List Oper} {l' : List Op}, compOps P M cm ops l = some l' → l'.length = l.length ∧ ∀ (i : Nat) o, l[i]? = some o → ∃ o', l'[i]? = some o' ∧ compOp P M cm ops o = some o'
  | [], l', h => by simp [compOps] at h; subst h; simp
  | o :: l, l', h => by
    simp only [compOps] at h
    split at h
    · rename_i x xs h1 h2
      simp at h; subst h
      obtain ⟨i1, i2⟩ := compOps_spec h2
      refine ⟨by simp [i1], fun i o' ho => ?_⟩
      cases i with
      | zero => simp at ho; subst ho; exact ⟨x, rfl, h1⟩
      | succ i => simp at ho; simpa using i2 i o' ho
    · cases h

/-- In the text's order. -/
theorem wpOps_run {M : Nat → Nat} {cm : Nat → Nat} {ops : Array Oper} {Q : Exit → Act → World → Prop} {φ : Nat} {t' : List AV} {H' : Heap} {nx' : Ctr} :
    ∀ (l : List Op) (is : List Nat) {t : List AV} {H : Heap} {nx : Ctr} {a : Act} {w : World}, is.length = l.length → (∀ (k : Nat) i, is[k]? = some i → ∃ o o', ops[i]? = some o ∧ l[k]? = some o' ∧ compOp P M cm ops o = some o') →
      OpsRun P φ l t H nx t' H' nx' → St w0 O X L0 nx0 t H nx a w → (∀ a' w', St w0 O X L0 nx0 t' H' nx' a' w' → Q .normal a' w') → wpOps P ops Q is a w
  | [], [], t, H, nx, a, w, _, _, hr, st, hQ => by cases hr; exact hQ _ _ st
  | [], _ :: _, t, H, nx, a, w, hl, _, _, _, _ => by simp at hl
  | _ :: _, [], t, H, nx, a, w, hl, _, _, _, _ => by simp at hl
  | x :: l, i :: is, t, H, nx, a, w, hl, hi, hr, st, hQ => by
    cases hr with
    | cons h k =>
      obtain ⟨o, o', h1, h2, h3⟩ := hi 0 i rfl
      simp at h2; subst h2
      rw [wpOps_cons]
      exact op_wp h1 h3 h st (fun a' w' st' => wpOps_run l is (by simpa using hl) (fun k j hj => hi (k + 1) j (by simpa using hj)) k st' hQ)

theorem region_text {M : Nat → Nat} {cm : Nat → Nat} {id : Nat} {ops : Array Oper} {l : List Op} (hc : compOps P M cm ops ops.toList = some l) {φ : Nat} {t t' : List AV} {H' : Heap} {nx' : Ctr}
    (hr : OpsRun P φ l t H nx t' H' nx') {a : Act} (st : St w0 O X L0 nx0 t H nx a w) {Q : Exit → Act → World → Prop} (hQ : ∀ a' w', St w0 O X L0 nx0 t' H' nx' a' w' → Q .normal a' w') : (Code.region id ops false).wp P Q a w := by
  obtain ⟨h1, h2⟩ := compOps_spec hc
  refine wp_region (wpOps_run (M := M) (cm := cm) l _ (by rw [h1]; simp) (fun k i hi => ?_) hr st hQ)
  have hk : k < ops.size := by have := (List.getElem?_eq_some_iff.1 hi).1; simpa using this
  rw [List.getElem?_range hk] at hi
  simp at hi; subst hi
  obtain ⟨o', h3, h4⟩ := h2 k ops[k] (by simp [hk])
  exact ⟨ops[k], o', by simp [hk], h3, h4⟩

/-- Those that are not drawn yet, in the text's order. -/
def pend (listed : Array Bool) : List (Op × Nat) → List Op
  | [] => []
  | (x, i) :: l => if listed.getD i true then pend listed l else x :: pend listed l
theorem pend_append (listed : Array Bool) : ∀ (l m : List (Op × Nat)), pend listed (l ++ m) = pend listed l ++ pend listed m
  | [], m => rfl
  | (x, i) :: l, m => by simp only [List.cons_append, pend]; split <;> simp [pend_append listed l m]
theorem mem_pend {listed : Array Bool} {x : Op} : ∀ {l : List (Op × Nat)}, x ∈ pend listed l → ∃ i, (x, i) ∈ l ∧ listed.getD i true = false
  | [], h => by simp [pend] at h
  | (y, i) :: l, h => by
    simp only [pend] at h
    split at h
    · obtain ⟨j, h1, h2⟩ := mem_pend h; exact ⟨j, List.mem_cons_of_mem _ h1, h2⟩
    · rename_i hl
      rcases List.mem_cons.1 h with rfl | h
      · exact ⟨i, List.mem_cons_self, by simpa using hl⟩
      · obtain ⟨j, h1, h2⟩ := mem_pend h; exact ⟨j, List.mem_cons_of_mem _ h1, h2⟩
theorem pend_set {listed : Array Bool} {i : Nat} : ∀ (l : List (Op × Nat)), (∀ y j, (y, j) ∈ l → j ≠ i) → pend (listed.setIfInBounds i true) l = pend listed l
  | [], _ => rfl
  | (y, j) :: l, h => by
    simp only [pend]
    rw [pend_set l (fun y j hj => h y j (List.mem_cons_of_mem _ hj)), getD_set_ne true (fun e => h y j (List.mem_cons_self) e.symm)]
theorem pend_nil {listed : Array Bool} : ∀ {l : List (Op × Nat)}, (∀ y j, (y, j) ∈ l → listed.getD j true = true) → pend listed l = []
  | [], _ => rfl
  | (y, j) :: l, h => by
    simp only [pend, h y j (List.mem_cons_self), if_true]
    exact pend_nil (fun y j hj => h y j (List.mem_cons_of_mem _ hj))

theorem mem_zipIdx {α : Type} {l : List α} {x : α} {i : Nat} (h : (x, i) ∈ l.zipIdx) : l[i]? = some x := by
  have := List.mem_zipIdx_iff_getElem?.1 h; simpa using this
theorem zipIdx_split {α : Type} {l : List α} {x : α} {i : Nat} (h : l[i]? = some x) : l.zipIdx = (l.take i).zipIdx ++ (x, i) :: (l.drop (i + 1)).zipIdx (i + 1) := by
  obtain ⟨hlt, hx⟩ := List.getElem?_eq_some_iff.1 h
  conv => lhs; rw [← List.take_append_drop i l, List.zipIdx_append, List.drop_eq_getElem_cons hlt, hx, List.zipIdx_cons]
  simp [Nat.min_eq_left (Nat.le_of_lt hlt)]
theorem mem_zipIdx_drop {α : Type} {l : List α} {x : α} {j k : Nat} (h : (x, j) ∈ (l.drop k).zipIdx k) : k ≤ j := (List.le_snd_of_mem_zipIdx h)
theorem mem_zipIdx_take {α : Type} {l : List α} {x : α} {j k : Nat} (h : (x, j) ∈ (l.take k).zipIdx) : j < k ∧ l[j]? = some x := by
  have h1 := mem_zipIdx h
  have hlt := (List.getElem?_eq_some_iff.1 h1).1
  simp at hlt
  rw [List.getElem?_take_of_lt (by omega)] at h1
  exact ⟨by omega, h1⟩

theorem wpAny_run {M : Nat → Nat} {cm : Nat → Nat} {ops : Array Oper} {l : List Op} (hc : compOps P M cm ops ops.toList = some l) (hd : drawnOk ops.toList l = true)
    {Q : Exit → Act → World → Prop} {φ : Nat} {t' : List AV} {H' : Heap} {nx' : Ctr} (hQ : ∀ a' w', St w0 O X L0 nx0 t' H' nx' a' w' → Q .normal a' w') :
    ∀ (fuel : Nat) (listed : Array Bool) {t : List AV} {H : Heap} {nx : Ctr} {a : Act} {w : World}, listed.size = ops.size →
      (∀ i, listed.getD i false = true → ∀ k, ((masks ops.toList []).getD i 0).testBit k = true → listed.getD k false = true) →
      (pend listed l.zipIdx).length ≤ fuel → OpsRun P φ (pend listed l.zipIdx) t H nx t' H' nx' → St w0 O X L0 nx0 t H nx a w → wpAny P .any ops Q fuel listed a w := by
  obtain ⟨hl1, hl2⟩ := compOps_spec hc
  simp only [drawnOk, Bool.and_eq_true] at hd
  obtain ⟨⟨hedge, hsel⟩, hgo⟩ := hd
  have hreadyMask : ∀ {listed : Array Bool}, (∀ i, listed.getD i false = true → ∀ k, ((masks ops.toList []).getD i 0).testBit k = true → listed.getD k false = true) → ∀ i, i ∈ Region.ready .any ops listed →
      ∀ k, ((masks ops.toList []).getD i 0).testBit k = true → listed.getD k false = true := by
    intro listed hcl i hi k hk
    obtain ⟨_, o, ho, hall⟩ := mem_ready.1 hi
    obtain ⟨e, he, hb, h3⟩ := mask_spec (ops := ops.toList) (by simpa using ho) hk
    have h4 := hall e (by simpa using he) hb
    rcases h3 with rfl | h3
    · exact h4
    · exact hcl _ h4 _ h3
  have hstep : ∀ (listed : Array Bool) (i : Nat), listed.size = ops.size → i ∈ Region.ready .any ops listed → (∀ i, listed.getD i false = true → ∀ k, ((masks ops.toList []).getD i 0).testBit k = true → listed.getD k false = true) →
      ∃ o o', ops[i]? = some o ∧ compOp P M cm ops o = some o' ∧ ∃ A B, pend listed l.zipIdx = A ++ o' :: B ∧ pend (listed.setIfInBounds i true) l.zipIdx = A ++ B ∧ ∀ a ∈ A, indep a o' = true := by
    intro listed i hsz hi hcl
    obtain ⟨hun, o, ho, hall⟩ := mem_ready.1 hi
    have hlt := (Array.getElem?_eq_some_iff.1 ho).1
    obtain ⟨o', ho', hco⟩ := hl2 i o (by simpa using ho)
    obtain ⟨x, hx, hfree⟩ := drawnGo_spec hgo i (by simpa using hlt)
    rw [ho'] at hx
    simp at hx; subst hx
    refine ⟨o, o', ho, hco, pend listed (l.take i).zipIdx, pend listed ((l.drop (i + 1)).zipIdx (i + 1)), ?_, ?_, ?_⟩
    · rw [zipIdx_split ho', pend_append]; simp only [pend, hun]; rfl
    · rw [zipIdx_split ho', pend_append]
      simp only [pend]
      have : (listed.setIfInBounds i true).getD i true = true := by simp
      rw [this, if_pos rfl, pend_set _ (fun y j hj => by have := (mem_zipIdx_take hj).1; omega), pend_set _ (fun y j hj => by have := mem_zipIdx_drop hj; omega)]
    · intro b hb
      obtain ⟨j, hj, hju⟩ := mem_pend hb
      obtain ⟨hji, hjl⟩ := mem_zipIdx_take hj
      rcases hfree j hji with h | ⟨y, hy, h⟩
      · have := hreadyMask hcl i hi j h
        rcases Nat.lt_or_ge j listed.size with h5 | h5
        · simp [h5] at this hju; rw [this] at hju; cases hju
        · simp [Array.getElem?_eq_none h5] at this
      · rw [hjl] at hy; simp at hy; subst hy; exact h
  have hready : ∀ (listed : Array Bool), listed.size = ops.size → Region.ready .any ops listed = [] → pend listed l.zipIdx = [] := by
    intro listed hsz hr
    refine pend_nil (fun y j hj => ?_)
    have key : ∀ n, ∀ j, j < n → j < ops.size → listed.getD j true = true := by
      intro n
      induction n with
      | zero => intro j h; omega
      | succ n ih =>
        intro j hj hjs
        by_cases hjn : j < n
        · exact ih j hjn hjs
        have hjn : j = n := by omega
        subst hjn
        by_cases hun : listed.getD j true = true
        · exact hun
        exfalso
        have : j ∈ Region.ready .any ops listed := by
          refine mem_ready.2 ⟨by simpa using hun, ops[j], by simp [hjs], fun e he hb => ?_⟩
          have h1 := List.all_eq_true.1 hedge (ops[j], j) (List.mem_zipIdx_iff_getElem?.2 (by simp [hjs]))
          have h1 := List.all_eq_true.1 h1 e (by simpa using he)
          simp [hb] at h1
          have h2 := ih e.on h1 (by omega)
          rw [Array.getD_eq_getD_getElem?] at h2 ⊢
          rw [Array.getElem?_eq_getElem (by omega)] at h2 ⊢
          exact h2
        rw [hr] at this; cases this
    have hlt := (List.getElem?_eq_some_iff.1 (mem_zipIdx hj)).1
    exact key (j + 1) j (by omega) (by rw [hl1] at hlt; simpa using hlt)
  intro fuel
  induction fuel with
  | zero =>
    intro listed t H nx a w hsz hcl hf hr st
    have h0 : pend listed l.zipIdx = [] := List.eq_nil_of_length_eq_zero (by omega)
    rw [h0] at hr
    cases hr
    refine ⟨?_, hQ _ _ st⟩
    cases hrd : Region.ready .any ops listed with
    | nil => rfl
    | cons i r =>
      obtain ⟨o, o', _, _, A, B, h1, _⟩ := hstep listed i hsz (by rw [hrd]; simp) hcl
      rw [h0] at h1; simp at h1
  | succ fuel ih =>
    intro listed t H nx a w hsz hcl hf hr st
    refine ⟨fun hrd => ?_, fun i hi => ?_⟩
    · rw [hready listed hsz hrd] at hr
      cases hr
      exact hQ _ _ st
    · obtain ⟨o, o', h1, h2, A, B, h3, h4, h5⟩ := hstep listed i hsz hi hcl
      rw [h3] at hr
      obtain ⟨t1, H1, nx1, hx, hk⟩ := bubble A h5 hr
      refine op_wp h1 h2 hx st (fun a' w' st' => ih _ (by simpa using hsz) (fun j hj k hk => ?_) ?_ (by rw [h4]; exact hk) st')
      · by_cases hji : j = i
        · subst hji
          exact getD_set_true (hreadyMask hcl j hi k hk)
        · rw [getD_set_ne false (fun e => hji e.symm)] at hj
          exact getD_set_true (hcl j hj k hk)
      · rw [h4]; rw [h3] at hf; simp at hf ⊢; omega

theorem region_drawn (hmix : P.follows .mixedOrders = true) {M : Nat → Nat} {cm : Nat → Nat} {id : Nat} {ops : Array Oper} {l : List Op} (hc : compOps P M cm ops ops.toList = some l) (hd : drawnOk ops.toList l = true) {φ : Nat} {t t' : List AV} {H' : Heap} {nx' : Ctr}
    (hr : OpsRun P φ l t H nx t' H' nx') {a : Act} (st : St w0 O X L0 nx0 t H nx a w) {Q : Exit → Act → World → Prop} (hQ : ∀ a' w', St w0 O X L0 nx0 t' H' nx' a' w' → Q .normal a' w') : (Code.region id ops true).wp P Q a w := by
  have hp : pend (Array.replicate ops.size false) l.zipIdx = l := by
    have key : ∀ (m : List Op) (s : Nat), s + m.length ≤ ops.size → pend (Array.replicate ops.size false) (m.zipIdx s) = m := by
      intro m
      induction m with
      | nil => intro s _; rfl
      | cons x m ih =>
        intro s hs
        simp only [List.length_cons] at hs
        have : (Array.replicate ops.size false).getD s true = false := by rw [Array.getD_eq_getD_getElem?, Array.getElem?_eq_getElem (by simp; omega)]; simp
        simp only [List.zipIdx_cons, pend, this, Bool.false_eq_true, if_false]
        rw [ih (s + 1) (by omega)]
    exact key l 0 (by have := (compOps_spec hc).1; simp at this; omega)
  refine wp_region_any hmix (wpAny_run hc hd hQ ops.size _ (by simp) (fun i hi => ?_) ?_ (by rw [hp]; exact hr) ?_)
  · exfalso
    rw [Array.getD_eq_getD_getElem?] at hi
    rcases Nat.lt_or_ge i ops.size with h | h
    · rw [Array.getElem?_eq_getElem (by simpa using h)] at hi; simp at hi
    · rw [Array.getElem?_eq_none (by simpa using h)] at hi; simp at hi
  · rw [hp]; have := (compOps_spec hc).1; simp at this; omega
  · obtain ⟨hdef, bm, h1, h2, hmv⟩ := st
    obtain ⟨r', m⟩ := h1.grow (w' := { w with drawn := w.drawn + 1 }) rfl rfl rfl (Nat.le_refl _) (fun _ _ => rfl)
    exact ⟨hdef, bm, r', h2.move m, hmv.trans m⟩
end
end Go.Ev
/- Control; and the function as a whole. -/
namespace Go.Ev
open Go.RowKit
set_option linter.unusedVariables false
set_option linter.unusedSimpArgs false
set_option linter.unusedSectionVars false

/-- What is laid into the compiled code: which temporaries are dead at a loop's head and behind a block; which are frozen as soon as they are told. -/
structure Wo where
  m : Nat → Mk × List Bool
  z : List Nat
def frzOf (z : List Nat) : List Op → List Nat
  | [] => []
  | o :: l => match o.d with
    | some d => if z.contains d then d :: frzOf z l else frzOf z l
    | none => frzOf z l
def regOf (z : List Nat) (l : List Op) : Cd := match frzOf z l with
  | [] => .reg l
  | is => .regf l is
/-- What isn't compiled: nothing is told of it. -/
def stopR : Cd := .reg [⟨none, none, .unk, []⟩]
def compC (P : Program) (M : Nat → Nat) (cm : Nat → Nat) (W : Wo) : Nat → Code → Option Cd
  | _, .skip => some .skip
  | _, .label _ => some .skip
  | _, .region _ ops draw => match compOps P M cm ops ops.toList with
    | some l => if draw = false ∨ drawnOk ops.toList l = true then some (regOf W.z l) else some stopR
    | none => some stopR
  | n, .seq a b => match compC P M cm W n a, compC P M cm W n b with
    | some x, some y => some (.seq x y)
    | _, _ => none
  | n, .cond c a b => match arOf c, compC P M cm W n a, compC P M cm W n b with
    | some v, some x, some y => some (.cond v x y)
    | _, _, _ => none
  | _, .block i a => match compC P M cm W i a with
    | some x => some (.blk i (W.m i).2 x)
    | none => none
  | n, .loop a => match compC P M cm W n a with
    | some x => some (.loop (W.m n).1 x)
    | none => none
  | _, .exit i => some (.exit i)
  | _, .ret => some .ret
  | _, _ => none

/-- Whatever is so by the first is so by the second, which tells less. -/
def Wk (t t' : List AV) : Prop := ∀ (L : Loc) (X : Nat → Prop) (nx : Ctr) (w : World) (vs : List Value), Reps L X nx w false t vs → Reps L X nx w false t' vs
theorem Wk.killM : ∀ (m : List Bool) (t : List AV), Wk t (killM m t)
  | true :: m, a :: t => fun L X nx w vs h => by
    obtain ⟨v, vs, rfl, h1, h2⟩ := h.inv
    exact .cons .any (Wk.killM m t _ _ _ _ _ h2)
  | false :: m, a :: t => fun L X nx w vs h => by
    obtain ⟨v, vs, rfl, h1, h2⟩ := h.inv
    exact .cons h1 (Wk.killM m t _ _ _ _ _ h2)
  | [], t => fun L X nx w vs h => h
  | true :: m, [] => fun L X nx w vs h => h
  | false :: m, [] => fun L X nx w vs h => h

/-- A heap told less. -/
def WkH (H H' : Heap) : Prop := (∀ bm, Lof H bm = Lof H' bm) ∧ ∀ (w0 : World) (O X : Nat → Prop) (bm : Nat → Nat → Nat) (nx : Ctr) (w : World), Rel w0 O X bm H nx w → Rel w0 O X bm H' nx w
/-- The compiled code runs on and ends so. -/
inductive RunsTo (P : Program) (φ : Nat) (R : List AV → Heap → Ctr → Prop) : List It → List AV → Heap → Ctr → Prop
  | nil {t H nx} (h : R t H nx) : RunsTo P φ R [] t H nx
  | ret {k t H nx} (h : R t H nx) : RunsTo P φ R (.c .ret :: k) t H nx
  | skip {k t H nx} (h : RunsTo P φ R k t H nx) : RunsTo P φ R (.c .skip :: k) t H nx
  | reg {l k t H nx t1 H1 nx1} (h : OpsRun P φ l t H nx t1 H1 nx1) (n : RunsTo P φ R k t1 H1 nx1) : RunsTo P φ R (.c (.reg l) :: k) t H nx
  | regf {l is k t H nx} (h : RunsTo P φ R (.c (.reg l) :: .frz is :: k) t H nx) : RunsTo P φ R (.c (.regf l is) :: k) t H nx
  | frz {is vs ids k t H nx} (hm : mapK (frzK 9 H) (gets t is) (fun v i => some (v, i)) none = some (vs, ids)) (h : RunsTo P φ R k (putAll t is vs) (kill ids H) nx) : RunsTo P φ R (.frz is :: k) t H nx
  | seq {a b k t H nx} (h : RunsTo P φ R (.c a :: .c b :: k) t H nx) : RunsTo P φ R (.c (.seq a b) :: k) t H nx
  | condT {c a b k t H nx} (hc : ev t c = .bool true) (h : RunsTo P φ R (.c a :: k) t H nx) : RunsTo P φ R (.c (.cond c a b) :: k) t H nx
  | condF {c a b k t H nx} (hc : ev t c = .bool false) (h : RunsTo P φ R (.c b :: k) t H nx) : RunsTo P φ R (.c (.cond c a b) :: k) t H nx
  | blk {i m a k t H nx} (h : RunsTo P φ R (.c a :: .blk i m :: k) t H nx) : RunsTo P φ R (.c (.blk i m a) :: k) t H nx
  | loop {m a k t H nx} (h : RunsTo P φ R (.c a :: .lp m a :: k) t H nx) : RunsTo P φ R (.c (.loop m a) :: k) t H nx
  | exit {i k k' m t H nx} (he : exitK i k (fun k m => some (k, m)) none = some (k', m)) (h : RunsTo P φ R k' t H nx) : RunsTo P φ R (.c (.exit i) :: k) t H nx
  | endB {i m k t H nx} (h : RunsTo P φ R k t H nx) : RunsTo P φ R (.blk i m :: k) t H nx
  | lp {m a k t H nx} (h : RunsTo P φ R (.c a :: .lp m a :: k) t H nx) : RunsTo P φ R (.lp m a :: k) t H nx
  | drop {its t H nx} (ids : List (Nat × Nat)) (h : RunsTo P φ R its t (kill ids H) nx) : RunsTo P φ R its t H nx
  | wk {its t t' H nx} (hw : Wk t t') (h : RunsTo P φ R its t' H nx) : RunsTo P φ R its t H nx
  | wkH {its t H H' nx} (hw : WkH H H') (h : RunsTo P φ R its t H' nx) : RunsTo P φ R its t H nx

/-- The same, in the midst of a region too. -/
def RunsX (P : Program) (φ : Nat) (R : List AV → Heap → Ctr → Prop) (its : List It) (t : List AV) (H : Heap) (nx : Ctr) : Prop :=
  match its with
  | .ops l :: k => ∃ t1 H1 nx1, OpsRun P φ l t H nx t1 H1 nx1 ∧ RunsTo P φ R k t1 H1 nx1
  | its => RunsTo P φ R its t H nx
def RunsO (P : Program) (φ : Nat) (R : List AV → Heap → Ctr → Prop) (k0 : List It) : Out → Prop
  | .more k t H nx => RunsX P φ R (k ++ k0) t H nx
  | .done t H nx => R t H nx
  | .fall t H nx => RunsX P φ R k0 t H nx
  | .bad => False
  | .call f mode vs ids d l k t H nx => match mode with
    | 0 => ∃ r, PCalls P f vs r ∧ (ids = [] ∨ scal r = true) ∧ RunsX P φ R (.ops l :: (k ++ k0)) (put t d r) H nx
    | 1 => ∃ r, PCalls P f vs r ∧ RunsX P φ R (.ops l :: (k ++ k0)) (put t d r) (kill ids H) nx
    | 3 => ∃ r, PCalls P f vs r ∧ RunsX P φ R (.ops l :: (k ++ k0)) (put (frzT ids H t) d r) (kill ids H) nx
    | 2 => ∃ ks r Hout nx', HCalls P f vs (sel ks H) nx r Hout nx' ∧ (rest ks H = [] ∨ (nameFree 9 (rest ks H) r = true ∧ heapFree (rest ks H) Hout = true)) ∧ RunsX P φ R (.ops l :: (k ++ k0)) (put t d r) (Hout ++ rest ks H) nx'
    | _ => False

section
variable {P : Program} {φ : Nat} {R : List AV → Heap → Ctr → Prop} {k0 : List It}

theorem RunsX.to {its : List It} {t : List AV} {H : Heap} {nx : Ctr} (h : RunsX P φ R its t H nx) (hn : ∀ l k, its ≠ .ops l :: k) : RunsTo P φ R its t H nx := by
  unfold RunsX at h
  split at h
  · exact absurd rfl (hn _ _)
  · exact h
theorem noOps {l : List Op} {k : List It} {t : List AV} {H : Heap} {nx : Ctr} (h : RunsTo P φ R (.ops l :: k) t H nx) : False := by
  generalize he : It.ops l :: k = its at h
  induction h with
  | wk hw h ih => exact ih he
  | wkH hw h ih => exact ih he
  | drop ids h ih => exact ih he
  | _ => cases he
theorem RunsX.of {its : List It} {t : List AV} {H : Heap} {nx : Ctr} (h : RunsTo P φ R its t H nx) : RunsX P φ R its t H nx := by
  unfold RunsX
  split
  · exact (noOps h).elim
  · exact h
theorem RunsX.noOps {i : It} {k : List It} {t : List AV} {H : Heap} {nx : Ctr} (h : RunsX P φ R (i :: k) t H nx) (hn : ∀ l, i ≠ .ops l) : RunsTo P φ R (i :: k) t H nx :=
  h.to (fun l k' e => hn l (by simp at e; exact e.1))
theorem RunsX.op {o : Op} {l : List Op} {k : List It} {t : List AV} {H : Heap} {nx : Ctr} {t1 : List AV} {H1 : Heap} {nx1 : Ctr} (hs : OpStep P φ o t H nx t1 H1 nx1) (h : RunsX P φ R (.ops l :: k) t1 H1 nx1) : RunsX P φ R (.ops (o :: l) :: k) t H nx := by
  obtain ⟨t2, H2, nx2, h1, h2⟩ := h
  exact ⟨t2, H2, nx2, .cons hs h1, h2⟩

/-- A continuation has no half-done region below its head. -/
def flat : List It → Prop
  | [] => True
  | .ops _ :: _ => False
  | _ :: k => flat k
def flat1 : List It → Prop
  | .ops _ :: k => flat k
  | k => flat k
theorem exitK_flat {i : Nat} {m : List Bool} : ∀ {k k' : List It}, flat k → exitK i k (fun k m => some (k, m)) none = some (k', m) → flat k'
  | [], k', _, h => by cases h
  | .blk j _ :: k, k', hf, h => by
    simp only [exitK] at h
    split at h
    · simp at h; obtain ⟨rfl, _⟩ := h; exact hf
    · exact exitK_flat (k := k) hf h
  | .c _ :: k, k', hf, h => exitK_flat (k := k) hf h
  | .lp _ _ :: k, k', hf, h => exitK_flat (k := k) hf h
  | .frz _ :: k, k', hf, h => exitK_flat (k := k) hf h
  | .ops _ :: k, k', hf, h => hf.elim
theorem exitK_nat {α β : Type} (F : α → β) (i : Nat) : ∀ (k : List It) (ok : List It → List Bool → α) (bad : α), F (exitK i k ok bad) = exitK i k (fun k m => F (ok k m)) (F bad)
  | [], _, _ => rfl
  | .blk j _ :: k, ok, bad => by simp only [exitK]; split <;> first | rfl | exact exitK_nat F i k ok bad
  | .c _ :: k, ok, bad => exitK_nat F i k ok bad
  | .lp _ _ :: k, ok, bad => exitK_nat F i k ok bad
  | .frz _ :: k, ok, bad => exitK_nat F i k ok bad
  | .ops _ :: k, ok, bad => exitK_nat F i k ok bad
theorem RunsX.flatTo {its : List It} {t : List AV} {H : Heap} {nx : Ctr} (hf : flat its) (h : RunsX P φ R its t H nx) : RunsTo P φ R its t H nx :=
  h.to (fun l k e => by subst e; exact hf)
theorem flat.f1 {its : List It} (h : flat its) : flat1 its := by
  cases its with
  | nil => trivial
  | cons i k => cases i <;> first | exact h | exact h.elim

theorem flat.app : ∀ {its : List It}, flat its → flat k0 → flat (its ++ k0)
  | [], _, h => h
  | .c _ :: k, hf, h => flat.app (its := k) hf h
  | .blk _ _ :: k, hf, h => flat.app (its := k) hf h
  | .lp _ _ :: k, hf, h => flat.app (its := k) hf h
  | .frz _ :: k, hf, h => flat.app (its := k) hf h
  | .ops _ :: k, hf, h => hf.elim
theorem exitK_app {i : Nat} {m : List Bool} : ∀ {k k' : List It}, exitK i k (fun k m => some (k, m)) none = some (k', m) → exitK i (k ++ k0) (fun k m => some (k, m)) none = some (k' ++ k0, m)
  | [], k', h => by cases h
  | .blk j _ :: k, k', h => by
    simp only [exitK, List.cons_append] at h ⊢
    split at h
    · rename_i e; rw [if_pos e]; simp at h; obtain ⟨rfl, rfl⟩ := h; rfl
    · rename_i e; rw [if_neg e]; exact exitK_app h
  | .c _ :: k, k', h => exitK_app (k := k) h
  | .lp _ _ :: k, k', h => exitK_app (k := k) h
  | .frz _ :: k, k', h => exitK_app (k := k) h
  | .ops _ :: k, k', h => exitK_app (k := k) h

theorem execK_sound {o : Op} {l : List Op} {k : List It} {t : List AV} {H : Heap} {nx : Ctr} {go : List It → List AV → Heap → Ctr → Out}
    (hgo : ∀ t' H' nx', RunsO P φ R k0 (go (.ops l :: k) t' H' nx') → RunsX P φ R (.ops l :: (k ++ k0)) t' H' nx') (hg : ∀ j w, o.g = some (j, w) → getT t j = .bool w)
    (h : RunsO P φ R k0 (execK φ o l k t H nx go)) : RunsX P φ R (.ops (o :: l) :: (k ++ k0)) t H nx := by
  unfold execK at h
  have hcall : ∀ (f m : Nat) (vs : List AV), RunsO P φ R k0 (mapK (frzK 9 H) vs (fun vs' ids => .call f m vs' ids o.d l k t H nx) .bad) → ∃ vs' ids, mapK (frzK 9 H) vs (fun v i => some (v, i)) none = some (vs', ids) ∧ RunsO P φ R k0 (.call f m vs' ids o.d l k t H nx) := by
    intro f m vs h
    rw [mapF_nat (fun x => RunsO P φ R k0 x)] at h
    have h2 := mapF_nat (fun x : Option (List AV × List (Nat × Nat)) => match x with | some (vs', ids) => RunsO P φ R k0 (.call f m vs' ids o.d l k t H nx) | none => False) 9 H vs (fun v i => some (v, i)) none
    have h3 : (match mapK (frzK 9 H) vs (fun v i => some (v, i)) none with | some (vs', ids) => RunsO P φ R k0 (.call f m vs' ids o.d l k t H nx) | none => False) := by rw [h2]; exact h
    cases hmk : mapK (frzK 9 H) vs (fun v i => some (v, i)) none with
    | none => rw [hmk] at h3; exact h3.elim
    | some q => rw [hmk] at h3; exact ⟨_, _, rfl, h3⟩
  generalize hvs : evs t o.x = vs at h
  generalize hok : o.o = ak at h
  split at h
  · rename_i f mode
    split at h
    · obtain ⟨ks, r, Hout, nx', h4, h5, h6⟩ := h
      subst hvs
      exact .op (.call2 hg hok h4 h5) h6
    · have h2 := mapF_nat (fun x => RunsO P φ R k0 x) 9 [] vs (fun vs' i => match i with | [] => .call f 0 vs' [] o.d l k t H nx | _ => .bad) .bad
      have h3 := mapF_nat (fun x : Option (List AV) => match x with | some vs' => RunsO P φ R k0 (.call f 0 vs' [] o.d l k t H nx) | none => False) 9 [] vs (fun v i => match i with | [] => some v | _ => none) none
      have e : (fun (v : List AV) (i : List (Nat × Nat)) => RunsO P φ R k0 (match i with | [] => Out.call f 0 v [] o.d l k t H nx | _ => .bad)) = (fun v i => match (match i with | [] => some v | _ => none : Option (List AV)) with | some vs' => RunsO P φ R k0 (.call f 0 vs' [] o.d l k t H nx) | none => False) := by
        funext v i; cases i <;> rfl
      have h := Eq.mp h2 h
      rw [e] at h
      have h4 : (match mapK (frzK 9 []) vs (fun v i => match i with | [] => some v | _ => none) none with | some vs' => RunsO P φ R k0 (.call f 0 vs' [] o.d l k t H nx) | none => False) := by rw [h3]; exact h
      cases hq : mapK (frzK 9 []) vs (fun v i => match i with | [] => some v | _ => none) none with
      | none => rw [hq] at h4; exact h4.elim
      | some vs' =>
        rw [hq] at h4
        obtain ⟨r, h5, _, h6⟩ := h4
        subst hvs
        exact .op (.call4 hg hok hq h5) h6
    · obtain ⟨vs', ids, hm, h7⟩ := hcall _ _ _ h
      simp only [RunsO] at h7
      subst hvs
      split at h7
      · obtain ⟨r, h4, h5, h6⟩ := h7
        exact .op (.call0 hg hok hm h4 h5) h6
      · obtain ⟨r, h4, h6⟩ := h7
        exact .op (.call1 hg hok hm h4) h6
      · obtain ⟨r, h4, h6⟩ := h7
        exact .op (.call3 hg hok hm h4) h6
      · exact absurd rfl (by assumption)
      · exact h7.elim
  · split at h
    · split at h
      · obtain ⟨ks, r, Hout, nx', h4, h5, h6⟩ := h
        exact .op (.callv2 hg hok hvs h4 h5) h6
      · exact h.elim
      · obtain ⟨vs', ids, hm, h7⟩ := hcall _ _ _ h
        simp only [RunsO] at h7
        split at h7
        · obtain ⟨r, h4, h5, h6⟩ := h7
          exact .op (.callv0 hg hok hvs hm h4 h5) h6
        · obtain ⟨r, h4, h6⟩ := h7
          exact .op (.callv1 hg hok hvs hm h4) h6
        · exact absurd rfl (by assumption)
        · exact absurd rfl (by assumption)
        · exact h7.elim
    · exact h.elim
  · rw [opK_opD] at h
    split at h
    · rename_i v H' nx' hd
      subst hvs hok
      exact .op (.exec hg hd) (hgo _ _ _ h)
    · exact h.elim

theorem RunsTo.dropK {ds : List Nat} {its : List It} {t : List AV} {H : Heap} {nx : Ctr} (h : RunsTo P φ R its t (dropK φ ds H) nx) : RunsTo P φ R its t H nx := by
  unfold Ev.dropK at h
  split at h
  · exact h
  · exact .drop _ h
theorem lp_inv {m : Mk} {a : Cd} {k : List It} {t : List AV} {H : Heap} {nx : Ctr} (h : RunsTo P φ R (.lp m a :: k) t H nx) : RunsTo P φ R (.c a :: .lp m a :: k) t H nx := by
  generalize he : It.lp m a :: k = its at h
  induction h with
  | lp h => cases he; exact h
  | wk hw h ih => exact .wk hw (ih he)
  | wkH hw h ih => exact .wkH hw (ih he)
  | drop ids h ih => exact .drop ids (ih he)
  | _ => cases he

theorem adv_sound' (hk0 : flat k0) : ∀ (n : Nat) (its : List It) (t : List AV) (H : Heap) (nx : Ctr), flat1 its → RunsO P φ R k0 (adv n φ its t H nx) → RunsX P φ R (its ++ k0) t H nx
  | 0, its, t, H, nx, _, h => h
  | n + 1, its, t, H, nx, hf, h => by
    have ih : ∀ {its : List It} {t : List AV} {H : Heap} {nx : Ctr}, RunsO P φ R k0 (adv n φ its t H nx) → flat its → RunsTo P φ R (its ++ k0) t H nx := fun h hf => (adv_sound' hk0 n _ _ _ _ hf.f1 h).flatTo (hf.app hk0)
    simp only [adv, advStep] at h
    split at h
    · exact h
    · exact ⟨_, _, _, .nil, ih h hf⟩
    · rename_i o l k
      split at h
      · rename_i hg
        exact execK_sound (fun t' H' nx' h => adv_sound' hk0 n (.ops l :: k) _ _ _ hf h) (fun j w e => by rw [hg] at e; cases e) h
      · rename_i j w hg
        split at h
        · rename_i b hb
          split at h
          · rename_i hbw
            subst hbw
            exact execK_sound (fun t' H' nx' h => adv_sound' hk0 n (.ops l :: k) _ _ _ hf h) (fun j' w' e => by rw [hg] at e; simp at e; obtain ⟨rfl, rfl⟩ := e; exact hb) h
          · rename_i hbw
            exact .op (.skip hg hb hbw) (adv_sound' hk0 n (.ops l :: k) _ _ _ hf h)
        · rename_i hb
          exact .op (.skipU hg hb) (adv_sound' hk0 n (.ops l :: k) _ _ _ hf h)
        · exact h.elim
    · exact RunsX.of (.endB (.wk (Wk.killM _ _) (ih h hf)))
    · rename_i is k
      rw [mapF_nat (fun x => RunsO P φ R k0 x)] at h
      have h2 := mapF_nat (fun x : Option (List AV × List (Nat × Nat)) => match x with | some (vs, ids) => RunsO P φ R k0 (adv n φ k (putAll t is vs) (kill ids H) nx) | none => False) 9 H (gets t is) (fun v i => some (v, i)) none
      have h3 : (match mapK (frzK 9 H) (gets t is) (fun v i => some (v, i)) none with | some (vs, ids) => RunsO P φ R k0 (adv n φ k (putAll t is vs) (kill ids H) nx) | none => False) := by rw [h2]; exact h
      cases hm : mapK (frzK 9 H) (gets t is) (fun v i => some (v, i)) none with
      | none => rw [hm] at h3; exact h3.elim
      | some q =>
        obtain ⟨vs, ids⟩ := q
        rw [hm] at h3
        exact RunsX.of (.frz hm (ih h3 hf))
    · exact RunsX.of (.wk (Wk.killM _ _) (.dropK (RunsX.flatTo (its := .lp _ _ :: (_ ++ k0)) (flat.app (its := .lp _ _ :: _) hf hk0) h)))
    · rename_i c k
      split at h
      · exact RunsX.of (.skip (ih h hf))
      · obtain ⟨t1, H1, nx1, h1, h2⟩ := adv_sound' hk0 n (.ops _ :: k) _ _ _ hf h
        exact RunsX.of (.reg h1 h2)
      · obtain ⟨t1, H1, nx1, h1, h2⟩ := adv_sound' hk0 n (.ops _ :: .frz _ :: k) _ _ _ hf h
        exact RunsX.of (.regf (.reg h1 h2))
      · exact RunsX.of (.seq (ih (its := .c _ :: .c _ :: k) h hf))
      · split at h
        · rename_i x hx
          split at h
          · rename_i hxx; subst hxx
            exact RunsX.of (.condT hx (ih (its := .c _ :: k) h hf))
          · rename_i hxx; simp at hxx; subst hxx
            exact RunsX.of (.condF hx (ih (its := .c _ :: k) h hf))
        · exact h.elim
      · exact RunsX.of (.blk (ih (its := .c _ :: .blk _ _ :: k) h hf))
      · refine RunsX.of (.loop (lp_inv (.wk (Wk.killM _ _) (.dropK (RunsX.flatTo (its := .lp _ _ :: (k ++ k0)) (flat.app (its := .lp _ _ :: k) hf hk0) h)))))
      · rename_i i
        have h2 := exitK_nat (fun x : Option (List It × List Bool) => match x with | some (k', m) => RunsO P φ R k0 (adv n φ k' (killM m t) H nx) | none => False) i k (fun k m => some (k, m)) none
        rw [exitK_nat (fun x => RunsO P φ R k0 x)] at h
        have h3 : (match exitK i k (fun k m => some (k, m)) none with | some (k', m) => RunsO P φ R k0 (adv n φ k' (killM m t) H nx) | none => False) := by rw [h2]; exact h
        cases hk : exitK i k (fun k m => some (k, m)) none with
        | none => rw [hk] at h3; exact h3.elim
        | some q =>
          obtain ⟨k', m⟩ := q
          rw [hk] at h3
          have hf' := exitK_flat (k := k) hf hk
          exact RunsX.of (.exit (exitK_app hk) (.wk (Wk.killM _ _) (ih h3 hf')))
      · exact RunsTo.ret h
theorem adv_sound (n : Nat) (its : List It) (t : List AV) (H : Heap) (nx : Ctr) (hf : flat1 its) (h : RunsO P φ R [] (adv n φ its t H nx)) : RunsX P φ R its t H nx := by
  have := adv_sound' (k0 := []) trivial n its t H nx hf h
  rwa [List.append_nil] at this
theorem wkX {its : List It} {t t' : List AV} {H : Heap} {nx : Ctr} (hf : flat its) (hw : Wk t t') (h : RunsX P φ R its t' H nx) : RunsX P φ R its t H nx := RunsX.of (.wk hw (h.flatTo hf))
theorem lp_step {m : Mk} {b : Cd} {k : List It} {t : List AV} {H : Heap} {nx : Ctr} (hf : flat k) (h : RunsX P φ R (.c b :: .lp m b :: k) t H nx) : RunsX P φ R (.lp m b :: k) t H nx :=
  RunsX.of (.lp (h.flatTo hf))
/-- The evaluator as a name of which no more is known than its step: Lean's kernel is not to unfold it. -/
theorem walk (n : Nat) {its : List It} {t : List AV} {H : Heap} {nx : Ctr} (hk0 : flat k0) (hf : flat1 its) (h : ∀ A : Nat → List It → List AV → Heap → Ctr → Out, (∀ n its t H nx, A (n + 1) its t H nx = advStep φ (A n) its t H nx) → RunsO P φ R k0 (A n its t H nx)) : RunsX P φ R (its ++ k0) t H nx :=
  adv_sound' hk0 n its t H nx hf (h (fun n => adv n φ) (fun n its t H nx => rfl))
theorem walk0 (n : Nat) {its : List It} {t : List AV} {H : Heap} {nx : Ctr} (hf : flat1 its) (h : ∀ A : Nat → List It → List AV → Heap → Ctr → Out, (∀ n its t H nx, A (n + 1) its t H nx = advStep φ (A n) its t H nx) → RunsO P φ R [] (A n its t H nx)) : RunsX P φ R its t H nx :=
  adv_sound n its t H nx hf (h (fun n => adv n φ) (fun n its t H nx => rfl))
theorem round {m : Mk} {b : Cd} {its : List It} {t : List AV} {H : Heap} {nx : Ctr} (n : Nat) (hk0 : flat k0) (hf : flat its) (h : ∀ A : Nat → List It → List AV → Heap → Ctr → Out, (∀ n its t H nx, A (n + 1) its t H nx = advStep φ (A n) its t H nx) → RunsO P φ R k0 (A n (.c b :: .lp m b :: its) t H nx)) : RunsX P φ R (.lp m b :: its ++ k0) t H nx :=
  lp_step (hf.app hk0) (walk n (its := .c b :: .lp m b :: its) hk0 hf h)
theorem call0 {f : Nat} {vs : List AV} {ids : List (Nat × Nat)} {d : Option Nat} {l : List Op} {k : List It} {t : List AV} {H : Heap} {nx : Ctr} {r : AV} (n : Nat) (hk0 : flat k0) (hk : flat k) (hp : PCalls P f vs r) (hs : ids = [] ∨ scal r = true)
    (h : ∀ A : Nat → List It → List AV → Heap → Ctr → Out, (∀ n its t H nx, A (n + 1) its t H nx = advStep φ (A n) its t H nx) → RunsO P φ R k0 (A n (.ops l :: k) (put t d r) H nx)) : RunsO P φ R k0 (.call f 0 vs ids d l k t H nx) :=
  ⟨r, hp, hs, walk n (its := .ops l :: k) hk0 hk h⟩
theorem call2 {f : Nat} {vs : List AV} {ids : List (Nat × Nat)} {d : Option Nat} {l : List Op} {k : List It} {t : List AV} {H : Heap} {nx : Ctr} {r : AV} {Hout : Heap} {nx' : Ctr} (n : Nat) (hk0 : flat k0) (hk : flat k) (ks : List (Nat × Nat)) {Hin Hr : Heap} (hin : sel ks H = Hin) (hre : rest ks H = Hr)
    (hp : HCalls P f vs Hin nx r Hout nx') (hf : Hr = [] ∨ (nameFree 9 Hr r = true ∧ heapFree Hr Hout = true))
    (h : ∀ A : Nat → List It → List AV → Heap → Ctr → Out, (∀ n its t H nx, A (n + 1) its t H nx = advStep φ (A n) its t H nx) → RunsO P φ R k0 (A n (.ops l :: k) (put t d r) (Hout ++ Hr) nx')) : RunsO P φ R k0 (.call f 2 vs ids d l k t H nx) := by
  subst hin hre
  exact ⟨ks, r, Hout, nx', hp, hf, walk n (its := .ops l :: k) hk0 hk h⟩
theorem call1 {f : Nat} {vs : List AV} {ids : List (Nat × Nat)} {d : Option Nat} {l : List Op} {k : List It} {t : List AV} {H : Heap} {nx : Ctr} {r : AV} (n : Nat) (hk0 : flat k0) (hk : flat k) (hp : PCalls P f vs r)
    (h : ∀ A : Nat → List It → List AV → Heap → Ctr → Out, (∀ n its t H nx, A (n + 1) its t H nx = advStep φ (A n) its t H nx) → RunsO P φ R k0 (A n (.ops l :: k) (put t d r) (kill ids H) nx)) : RunsO P φ R k0 (.call f 1 vs ids d l k t H nx) :=
  ⟨r, hp, walk n (its := .ops l :: k) hk0 hk h⟩
theorem call3 {f : Nat} {vs : List AV} {ids : List (Nat × Nat)} {d : Option Nat} {l : List Op} {k : List It} {t : List AV} {H : Heap} {nx : Ctr} {r : AV} (n : Nat) (hk0 : flat k0) (hk : flat k) (hp : PCalls P f vs r)
    (h : ∀ A : Nat → List It → List AV → Heap → Ctr → Out, (∀ n its t H nx, A (n + 1) its t H nx = advStep φ (A n) its t H nx) → RunsO P φ R k0 (A n (.ops l :: k) (put (frzT ids H t) d r) (kill ids H) nx)) : RunsO P φ R k0 (.call f 3 vs ids d l k t H nx) :=
  ⟨r, hp, walk n (its := .ops l :: k) hk0 hk h⟩
end
end Go.Ev
/- The compiled code's run is the machine's; a function's contract out of a run. -/
namespace Go.Ev
open Go.RowKit
set_option linter.unusedVariables false
set_option linter.unusedSimpArgs false
set_option linter.unusedSectionVars false

inductive Its (P : Program) (M : Nat → Nat) (cm : Nat → Nat) (k0 : List Item) : List It → List Item → Prop
  | nil : Its P M cm k0 [] k0
  | code {W n c cd k k'} (h : compC P M cm W n c = some cd) (t : Its P M cm k0 k k') : Its P M cm k0 (.c cd :: k) (.code c :: k')
  | blk {i m k k'} (t : Its P M cm k0 k k') : Its P M cm k0 (.blk i m :: k) (.inBlock i :: k')
  | frz {is k k'} (t : Its P M cm k0 k k') : Its P M cm k0 (.frz is :: k) k'
  | lp {W n m c cd k k'} (h : compC P M cm W n c = some cd) (t : Its P M cm k0 k k') : Its P M cm k0 (.lp m cd :: k) (.inLoop c :: k')

theorem regOf_no {z : List Nat} {l : List Op} {c : Cd} (h : regOf z l = c) : c = .reg l ∨ ∃ is, c = .regf l is := by
  unfold regOf at h
  split at h
  · exact .inl h.symm
  · exact .inr ⟨_, h.symm⟩
theorem regOf_reg {z : List Nat} {l l' : List Op} (h : regOf z l' = .reg l) : l = l' := by
  rcases regOf_no h with h | ⟨_, h⟩ <;> cases h; rfl
theorem regOf_regf {z : List Nat} {l l' : List Op} {is : List Nat} (h : regOf z l' = .regf l is) : l = l' := by
  rcases regOf_no h with h | ⟨_, h⟩ <;> cases h; rfl
section
variable {P : Program} {w0 : World} {O X : Nat → Prop} {L0 : Loc} {nx0 : Ctr} {M : Nat → Nat} {cm : Nat → Nat} {W : Wo}

theorem exit_its {k0 : List Item} {i : Nat} {m : List Bool} : ∀ {k : List It} {k' : List Item} {j : List It}, Its P M cm k0 k k' → exitK i k (fun k m => some (k, m)) none = some (j, m) → ∃ j', exitTo i k' = some j' ∧ Its P M cm k0 j j'
  | [], _, _, h, he => by cases he
  | .blk b _ :: k, _, j, h, he => by
    cases h with
    | blk t =>
      simp only [exitK] at he
      split at he
      · rename_i hb; simp at he; obtain ⟨rfl, _⟩ := he; exact ⟨_, by simp [exitTo, hb], t⟩
      · rename_i hb
        obtain ⟨j', h1, h2⟩ := exit_its t he
        refine ⟨j', ?_, h2⟩
        have : (b == i) = false := by simpa using hb
        simp [exitTo, this, h1]
  | .c _ :: k, _, j, h, he => by
    cases h with
    | code h t =>
      obtain ⟨j', h1, h2⟩ := exit_its t he
      exact ⟨j', by simp [exitTo, h1], h2⟩
  | .lp _ _ :: k, _, j, h, he => by
    cases h with
    | lp h t =>
      obtain ⟨j', h1, h2⟩ := exit_its t he
      exact ⟨j', by simp [exitTo, h1], h2⟩
  | .ops _ :: k, _, _, h, he => by cases h
  | .frz _ :: k, _, j, h, he => by
    cases h with
    | frz t => exact exit_its (k := k) t he

theorem gets_reps {L : Loc} {nx : Ctr} {w : World} {t : List AV} {tmps : Array Value} (h : TRel L X nx w t tmps) : ∀ rs : List Nat, Reps L X nx w false (gets t rs) (rs.map fun i => tmps.getD i undef)
  | [] => .nil
  | i :: rs => .cons (h.get i) (gets_reps h rs)
theorem reps_setT {L : Loc} {nx : Ctr} {w : World} {v : AV} : ∀ {t : List AV} {vs : List Value} (i : Nat), Reps L X nx w false t vs → Rep L X nx w false v (vs.getD i undef) → Reps L X nx w false (setT t i v) vs
  | [], _, _, h, _ => h
  | a :: t, _, 0, h, hv => by
    obtain ⟨u, us, rfl, h1, h2⟩ := h.inv
    exact .cons (by simpa [List.getD] using hv) h2
  | a :: t, _, i + 1, h, hv => by
    obtain ⟨u, us, rfl, h1, h2⟩ := h.inv
    exact .cons h1 (reps_setT i h2 (by simpa [List.getD] using hv))
theorem putAll_rel {L : Loc} {nx : Ctr} {w : World} {tmps : Array Value} : ∀ {is : List Nat} {vs : List AV} {t : List AV}, TRel L X nx w t tmps → Reps L X nx w true vs (is.map fun i => tmps.getD i undef) → TRel L X nx w (putAll t is vs) tmps
  | [], _, t, h, _ => by simpa [putAll] using h
  | i :: is, vs, t, h, hv => by
    cases hv with
    | cons h1 h2 =>
      refine putAll_rel (is := is) ?_ h2
      unfold TRel at h ⊢
      exact reps_setT i h (by simpa [List.getD, Array.getD_eq_getD_getElem?] using h1.weak)
theorem no_unk {φ : Nat} {t : List AV} {H : Heap} {nx : Ctr} {t1 : List AV} {H1 : Heap} {nx1 : Ctr} (h : OpsRun P φ [⟨none, none, .unk, []⟩] t H nx t1 H1 nx1) : False := by
  cases h with
  | cons h k =>
    cases h with
    | skip hg hb hne => cases hg
    | skipU hg hb => cases hg
    | exec hg h => simp [opD, opK] at h
    | call0 hg ho => cases ho
    | call4 hg ho => cases ho
    | callv0 hg ho => cases ho
    | call1 hg ho => cases ho
    | callv1 hg ho => cases ho
    | call3 hg ho => cases ho
    | call2 hg ho => cases ho
    | callv2 hg ho => cases ho
theorem runs_sim (hmix : P.follows .mixedOrders = true) {φ : Nat} {R : List AV → Heap → Ctr → Prop} {its : List It} {t : List AV} {H : Heap} {nx : Ctr} (h : RunsTo P φ R its t H nx) :
    ∀ {k0 todo : List Item} {a : Act} {w : World}, Its P M cm k0 its todo → St w0 O X L0 nx0 t H nx a w → ∀ (b : Frame) (cs : List Frame),
      ∃ e a' w' t' H' nx', (e = .normal ∨ e = .ret) ∧ R t' H' nx' ∧ St w0 O X L0 nx0 t' H' nx' a' w' ∧ Arrives P (lone (b.at a todo) cs w) b k0 cs e a' w' := by
  induction h with
  | nil h =>
    intro k0 todo a w hi st b cs
    cases hi
    exact ⟨.normal, a, w, _, _, _, .inl rfl, h, st, Steps.refl _ _⟩
  | ret h =>
    intro k0 todo a w hi st b cs
    cases hi with
    | code hc ht =>
      rename_i c k'
      cases c with
      | ret => exact ⟨.ret, a, w, _, _, _, .inr rfl, h, st, _, .one step_ret⟩
      | _ => simp only [compC] at hc <;> first | (cases hc; done) | (repeat' (split at hc)) <;> first | (cases hc; done) | (rcases regOf_no (Option.some.inj hc) with h0 | ⟨_, h0⟩ <;> cases h0)
  | skip h ih =>
    intro k0 todo a w hi st b cs
    cases hi with
    | code hc ht =>
      rename_i c k'
      cases c with
      | skip =>
        obtain ⟨e, a', w', t', H', nx', h1, h2, h3, h4⟩ := ih ht st b cs
        exact ⟨e, a', w', t', H', nx', h1, h2, h3, .of_steps (.one step_skip) h4⟩
      | label l =>
        obtain ⟨e, a', w', t', H', nx', h1, h2, h3, h4⟩ := ih ht st b cs
        exact ⟨e, a', w', t', H', nx', h1, h2, h3, .of_steps (.one step_label) h4⟩
      | _ => simp only [compC] at hc <;> first | (cases hc; done) | (repeat' (split at hc)) <;> first | (cases hc; done) | (rcases regOf_no (Option.some.inj hc) with h0 | ⟨_, h0⟩ <;> cases h0)
  | @reg l k t H nx t1 H1 nx1 h n ih =>
    intro k0 todo a w hi st b cs
    cases hi with
    | code hc ht =>
      rename_i c k'
      cases c with
      | region id ops draw =>
        have hw : (Code.region id ops draw).wp P (fun e a' w' => e = .normal ∧ St w0 O X L0 nx0 t1 H1 nx1 a' w') a w := by
          simp only [compC] at hc
          split at hc
          · rename_i l' hl'
            split at hc
            · rename_i hd
              obtain rfl : l = l' := regOf_reg (by simpa using hc)
              cases draw with
              | false => exact region_text hl' h st (fun a' w' st' => ⟨rfl, st'⟩)
              | true => exact region_drawn hmix hl' (by simpa using hd) h st (fun a' w' st' => ⟨rfl, st'⟩)
            · simp only [stopR, Option.some.injEq, Cd.reg.injEq] at hc
              subst hc; exact (no_unk h).elim
          · simp only [stopR, Option.some.injEq, Cd.reg.injEq] at hc
            subst hc; exact (no_unk h).elim
        obtain ⟨e, a1, w1, ⟨rfl, st1⟩, harr⟩ := hw b k' cs
        obtain ⟨e, a', w', t', H', nx', h1, h2, h3, h4⟩ := ih ht st1 b cs
        exact ⟨e, a', w', t', H', nx', h1, h2, h3, .of_steps harr h4⟩
      | _ => simp only [compC] at hc <;> first | (cases hc; done) | (repeat' (split at hc)) <;> first | (cases hc; done) | (rcases regOf_no (Option.some.inj hc) with h0 | ⟨_, h0⟩ <;> cases h0)
  | @regf l is k t H nx h ih =>
    intro k0 todo a w hi st b cs
    cases hi with
    | code hc ht =>
      rename_i n' c k'
      cases c with
      | region id ops draw =>
        rename_i W'
        have hc' : compC P M cm ⟨W'.m, []⟩ n' (.region id ops draw) = some (.reg l) := by
          simp only [compC] at hc ⊢
          split at hc
          · split at hc
            · rename_i hd
              rw [if_pos hd]
              obtain rfl := regOf_regf (Option.some.inj hc)
              have : ∀ l : List Op, frzOf [] l = [] := by
                intro l
                induction l with
                | nil => rfl
                | cons o l ih => simp only [frzOf]; split <;> simp [ih]
              simp [regOf, this]
            · simp [stopR] at hc
          · simp [stopR] at hc
        exact ih (.code hc' (.frz ht)) st b cs
      | _ => simp only [compC] at hc <;> first | (cases hc; done) | (repeat' (split at hc)) <;> first | (cases hc; done) | (rcases regOf_no (Option.some.inj hc) with h0 | ⟨_, h0⟩ <;> cases h0)
  | frz hm h ih =>
    intro k0 todo a w hi st b cs
    cases hi with
    | frz ht =>
      obtain ⟨hdef, bm, hrel, htr, hmv⟩ := st
      obtain ⟨vs', ids', he, _, _, hfz⟩ := frz_map (fun v val α ok r' h1 h2 => frz_ok hrel 9 v val ok r' h1 h2) _ _ _ _ (gets_reps htr _) hm
      simp only [Option.some.injEq, Prod.mk.injEq] at he
      obtain ⟨rfl, rfl⟩ := he
      obtain ⟨h7, h8⟩ := hrel.kill ids'
      refine ih ht ⟨hdef, bm, h7, putAll_rel (htr.move h8) (hfz _ _ (fun f d g b hL => ?_)), hmv.trans h8⟩ b cs
      obtain ⟨⟨cs, h1⟩, rfl⟩ := hL
      obtain ⟨h2, h3⟩ := find_kill ids' _ _ _ _ _ h1
      exact ⟨Lof.mk h2, h3⟩
  | seq h ih =>
    intro k0 todo a w hi st b cs
    cases hi with
    | code hc ht =>
      rename_i c k'
      cases c with
      | seq x y =>
        simp only [compC] at hc
        split at hc
        · rename_i hx hy
          simp at hc; obtain ⟨rfl, rfl⟩ := hc
          obtain ⟨e, a', w', t', H', nx', h1, h2, h3, h4⟩ := ih (.code hx (.code hy ht)) st b cs
          exact ⟨e, a', w', t', H', nx', h1, h2, h3, .of_steps (.one step_seq) h4⟩
        · cases hc
      | _ => simp only [compC] at hc <;> first | (cases hc; done) | (repeat' (split at hc)) <;> first | (cases hc; done) | (rcases regOf_no (Option.some.inj hc) with h0 | ⟨_, h0⟩ <;> cases h0)
  | condT he h ih =>
    intro k0 todo a w hi st b cs
    cases hi with
    | code hc ht =>
      rename_i c k'
      cases c with
      | cond v x y =>
        simp only [compC] at hc
        split at hc
        · rename_i hv hx hy
          simp at hc; obtain ⟨rfl, rfl, rfl⟩ := hc
          obtain ⟨e, a', w', t', H', nx', h1, h2, h3, h4⟩ := ih (.code hx ht) st b cs
          obtain ⟨bm, _, htr, _⟩ := st.rel
          have hev := ev_rep htr hv
          rw [he] at hev
          have hb : a.eval v = .bool true := by
            generalize a.eval v = u at hev
            cases hev; rfl
          exact ⟨e, a', w', t', H', nx', h1, h2, h3, .of_steps (.one (step_cond hb)) (by simpa using h4)⟩
        · cases hc
      | _ => simp only [compC] at hc <;> first | (cases hc; done) | (repeat' (split at hc)) <;> first | (cases hc; done) | (rcases regOf_no (Option.some.inj hc) with h0 | ⟨_, h0⟩ <;> cases h0)
  | condF he h ih =>
    intro k0 todo a w hi st b cs
    cases hi with
    | code hc ht =>
      rename_i c k'
      cases c with
      | cond v x y =>
        simp only [compC] at hc
        split at hc
        · rename_i hv hx hy
          simp at hc; obtain ⟨rfl, rfl, rfl⟩ := hc
          obtain ⟨e, a', w', t', H', nx', h1, h2, h3, h4⟩ := ih (.code hy ht) st b cs
          obtain ⟨bm, _, htr, _⟩ := st.rel
          have hev := ev_rep htr hv
          rw [he] at hev
          have hb : a.eval v = .bool false := by
            generalize a.eval v = u at hev
            cases hev; rfl
          exact ⟨e, a', w', t', H', nx', h1, h2, h3, .of_steps (.one (step_cond hb)) (by simpa using h4)⟩
        · cases hc
      | _ => simp only [compC] at hc <;> first | (cases hc; done) | (repeat' (split at hc)) <;> first | (cases hc; done) | (rcases regOf_no (Option.some.inj hc) with h0 | ⟨_, h0⟩ <;> cases h0)
  | blk h ih =>
    intro k0 todo a w hi st b cs
    cases hi with
    | code hc ht =>
      rename_i c k'
      cases c with
      | block i x =>
        simp only [compC] at hc
        split at hc
        · rename_i hx
          simp at hc; obtain ⟨rfl, _, rfl⟩ := hc
          obtain ⟨e, a', w', t', H', nx', h1, h2, h3, h4⟩ := ih (.code hx (.blk ht)) st b cs
          exact ⟨e, a', w', t', H', nx', h1, h2, h3, .of_steps (.one step_block) h4⟩
        · cases hc
      | _ => simp only [compC] at hc <;> first | (cases hc; done) | (repeat' (split at hc)) <;> first | (cases hc; done) | (rcases regOf_no (Option.some.inj hc) with h0 | ⟨_, h0⟩ <;> cases h0)
  | loop h ih =>
    intro k0 todo a w hi st b cs
    cases hi with
    | code hc ht =>
      rename_i c k'
      cases c with
      | loop x =>
        simp only [compC] at hc
        split at hc
        · rename_i hx
          simp at hc; obtain ⟨_, rfl⟩ := hc
          obtain ⟨e, a', w', t', H', nx', h1, h2, h3, h4⟩ := ih (.code hx (.lp hx ht)) st b cs
          exact ⟨e, a', w', t', H', nx', h1, h2, h3, .of_steps (.one step_loop) h4⟩
        · cases hc
      | _ => simp only [compC] at hc <;> first | (cases hc; done) | (repeat' (split at hc)) <;> first | (cases hc; done) | (rcases regOf_no (Option.some.inj hc) with h0 | ⟨_, h0⟩ <;> cases h0)
  | exit he h ih =>
    intro k0 todo a w hi st b cs
    cases hi with
    | code hc ht =>
      rename_i c k'
      cases c with
      | exit i =>
        simp [compC] at hc; subst hc
        obtain ⟨j', hj1, hj2⟩ := exit_its ht he
        obtain ⟨e, a', w', t', H', nx', h1, h2, h3, h4⟩ := ih hj2 st b cs
        exact ⟨e, a', w', t', H', nx', h1, h2, h3, .of_steps (.one (step_exit hj1)) h4⟩
      | _ => simp only [compC] at hc <;> first | (cases hc; done) | (repeat' (split at hc)) <;> first | (cases hc; done) | (rcases regOf_no (Option.some.inj hc) with h0 | ⟨_, h0⟩ <;> cases h0)
  | endB h ih =>
    intro k0 todo a w hi st b cs
    cases hi with
    | blk ht =>
      obtain ⟨e, a', w', t', H', nx', h1, h2, h3, h4⟩ := ih ht st b cs
      exact ⟨e, a', w', t', H', nx', h1, h2, h3, .of_steps (.one step_inBlock) h4⟩
  | lp h ih =>
    intro k0 todo a w hi st b cs
    cases hi with
    | lp hc ht =>
      obtain ⟨e, a', w', t', H', nx', h1, h2, h3, h4⟩ := ih (.code hc (.lp hc ht)) st b cs
      exact ⟨e, a', w', t', H', nx', h1, h2, h3, .of_steps (.one step_inLoop) h4⟩
  | drop ids h ih =>
    intro k0 todo a w hi st b cs
    obtain ⟨hdef, bm, hrel, htr, hmv⟩ := st
    obtain ⟨h7, h8⟩ := hrel.kill ids
    exact ih hi ⟨hdef, bm, h7, htr.move h8, hmv.trans h8⟩ b cs
  | wk hw h ih =>
    intro k0 todo a w hi st b cs
    obtain ⟨hdef, bm, hrel, htr, hmv⟩ := st
    exact ih hi ⟨hdef, bm, hrel, hw _ _ _ _ _ htr, hmv⟩ b cs
  | wkH hw h ih =>
    intro k0 todo a w hi st b cs
    obtain ⟨hdef, bm, hrel, htr, hmv⟩ := st
    rw [hw.1 bm] at htr hmv
    exact ih hi ⟨hdef, bm, hw.2 _ _ _ _ _ _ hrel, htr, hmv⟩ b cs

/-- What a function hands back. -/
def retv : List AV → AV
  | [v] => v
  | vs => .tup vs
/-- Where a result lies: in a temporary, or in the memory that it leads to. -/
inductive RS where
  | t (i : Nat) | c1 (i : Nat) | cn (i n : Nat)
def getR {α : Type} (r : RS) (t : List AV) (H : Heap) (ok : AV → α) (bad : α) : α := match r with
  | .t i => ok (getT t i)
  | .c1 i => opK .ld1 [getT t i] H zeroC 0 (fun v _ _ => ok v) bad
  | .cn i n => opK (.ldn n) [getT t i] H zeroC 0 (fun v _ _ => ok v) bad
def getsK {α : Type} : List RS → List AV → Heap → (List AV → α) → α → α
  | [], _, _, ok, _ => ok []
  | r :: rs, t, H, ok, bad => getR r t H (fun v => getsK rs t H (fun vs => ok (v :: vs)) bad) bad
def retK {α : Type} (rs : List RS) (t : List AV) (H : Heap) (ok : AV → α) (bad : α) : α := getsK rs t H (fun vs => mapK (frzK 9 H) vs (fun vs _ => ok (retv vs)) bad) bad
/-- Whatever is so by the first is so by the second, which tells less. -/
def Wk1 (x y : AV) : Prop := ∀ (L : Loc) (X : Nat → Prop) (nx : Ctr) (w : World) (p : Bool) (v : Value), Rep L X nx w p x v → Rep L X nx w p y v
theorem Wk1.refl (x : AV) : Wk1 x x := fun _ _ _ _ _ _ h => h
theorem Wk1.trans {x y z : AV} (a : Wk1 x y) (b : Wk1 y z) : Wk1 x z := fun _ _ _ _ _ _ h => b _ _ _ _ _ _ (a _ _ _ _ _ _ h)
/-- It ends, handing back that. -/
def Gives (rs : List RS) (r : AV) (t : List AV) (H : Heap) (nx : Ctr) : Prop := ∃ r', retK rs t H some none = some r' ∧ Wk1 r' r
theorem Gives.of {rs : List RS} {r : AV} {t : List AV} {H : Heap} {nx : Ctr} (h : retK rs t H some none = some r) : Gives rs r t H nx := ⟨r, h, Wk1.refl r⟩
def resOf (P : Program) : ResultVar → Option RS
  | .tmp i => some (.t i)
  | .cell a t => match isAggOf P t, szOf P t with
    | some true, some n => some (.cn a n)
    | some false, _ => some (.c1 a)
    | _, _ => none
def resOfs (P : Program) : List ResultVar → Option (List RS)
  | [] => some []
  | r :: rs => match resOf P r, resOfs P rs with
    | some x, some xs => some (x :: xs)
    | _, _ => none
theorem getR_opt {α : Type} (r : RS) (t : List AV) (H : Heap) (ok : AV → α) (bad : α) : getR r t H ok bad = match getR r t H some none with | some v => ok v | none => bad := by
  cases r with
  | t i => rfl
  | c1 i =>
    unfold getR
    simp only
    rw [opK_opD, opK_opD .ld1 _ H zeroC 0 (fun v _ _ => some v) none]
    cases opD .ld1 [getT t i] H zeroC 0 <;> rfl
  | cn i n =>
    unfold getR
    simp only
    rw [opK_opD, opK_opD (.ldn n) _ H zeroC 0 (fun v _ _ => some v) none]
    cases opD (.ldn n) [getT t i] H zeroC 0 <;> rfl
theorem getsK_opt {α : Type} : ∀ (rs : List RS) (t : List AV) (H : Heap) (ok : List AV → α) (bad : α), getsK rs t H ok bad = match getsK rs t H some none with | some v => ok v | none => bad
  | [], t, H, ok, bad => rfl
  | r :: rs, t, H, ok, bad => by
    simp only [getsK]
    rw [getR_opt r t H _ bad, getR_opt r t H (fun v => getsK rs t H (fun vs => some (v :: vs)) none) none]
    cases getR r t H some none with
    | none => rfl
    | some v =>
      simp only
      rw [getsK_opt rs t H _ bad, getsK_opt rs t H (fun vs => some (v :: vs)) none]
      cases getsK rs t H some none <;> rfl
/-- The reading of one result. -/
def readR (tmps : Array Value) : ResultVar → Sem Value
  | .tmp t => pure (tmps.getD t undef)
  | .cell a t => do loadVar t (← asAddr (tmps.getD a undef))
theorem run_res {rv : ResultVar} {rs : RS} (hc : resOf P rv = some rs) {bm : Nat → Nat → Nat} {H : Heap} {nx : Ctr} {w : World} (r : Rel w0 O X bm H nx w) {t : List AV} {tmps : Array Value} (ht : TRel (Lof H bm) X nx w t tmps) {v : AV}
    (h : getR rs t H some none = some v) : ∃ u, (readR tmps rv).run P w = .ok u w ∧ Rep (Lof H bm) X nx w false v u := by
  have ptr : ∀ (x : AV) (u : Value) {o : AK} {n : Nat} {p : AV × Heap × Ctr}, (o = .ld1 ∨ o = .ldn n) → Rep (Lof H bm) X nx w false x u → opD o [x] H nx 0 = some p → ∃ a, u = .pointer (some a) := by
    intro x u o n p ho hx h
    rcases ho with rfl | rfl <;> (unfold opD opK at h; simp only at h; split at h <;> first | (cases h; done) | (cases hx; exact ⟨_, rfl⟩))
  have fin : ∀ (tt : TypeId) (a : Nat) (o : AK) (n : Nat), (o = .ld1 ∨ o = .ldn n) → (∀ {v : AV} {H' : Heap} {nx' : Ctr}, opD o [getT t a] H nx 0 = some (v, H', nx') → ∃ v', (Instr.loadAt tt (tmps.getD a undef)).run P w = .ok v' w ∧ H' = H ∧ nx' = nx ∧ Rep (Lof H bm) X nx w false v v') →
      opK o [getT t a] H zeroC 0 (fun v _ _ => some v) none = some v → ∃ u, (readR tmps (.cell a tt)).run P w = .ok u w ∧ Rep (Lof H bm) X nx w false v u := by
    intro tt a o n ho hOK h
    rw [opK_opD] at h
    split at h
    · rename_i v1 H1 nx1 hd
      simp at h; subst h
      have hcls : cls o ≤ 1 := by rcases ho with rfl | rfl <;> simp [cls]
      obtain ⟨rfl, rfl, hall⟩ := opD_R hcls hd
      have hd2 := hall nx
      obtain ⟨u, h1, _, _, h4⟩ := hOK hd2
      obtain ⟨q, hq⟩ := ptr _ _ ho (ht.get a) hd2
      refine ⟨u, ?_, h4⟩
      rw [hq] at h1
      simp only [readR, hq]
      simpa [Instr.loadAt, Instr.sureAddr, asAddr] using h1
    · cases h
  cases rv with
  | tmp i =>
    simp [resOf] at hc; subst hc
    simp [getR] at h; subst h
    exact ⟨_, rfl, ht.get i⟩
  | cell a tt =>
    simp only [resOf] at hc
    split at hc
    · rename_i n ha hn
      simp at hc; subst hc
      obtain ⟨D, hD1, hD2⟩ := isAgg_true ha
      obtain ⟨i, hi, rfl⟩ := szOf_info hn
      exact fin tt a (.ldn i.size) i.size (.inr rfl) (fun hd => ok_ldn' r tt D hD1 hD2 i hi _ _ (ht.get a) hd) h
    · rename_i ha
      simp at hc; subst hc
      obtain ⟨D, hD1, hD2⟩ := isAgg_false ha
      exact fin tt a .ld1 0 (.inl rfl) (fun hd => ok_ld1' r tt D hD1 hD2 _ _ (ht.get a) hd) h
    · cases hc
theorem run_ress : ∀ {rvs : List ResultVar} {rs : List RS} (hc : resOfs P rvs = some rs) {bm : Nat → Nat → Nat} {H : Heap} {nx : Ctr} {w : World} (r : Rel w0 O X bm H nx w) {t : List AV} {tmps : Array Value} (ht : TRel (Lof H bm) X nx w t tmps) {vs : List AV}
    (h : getsK rs t H some none = some vs), ∃ us, (rvs.mapM (readR tmps)).run P w = .ok us w ∧ Reps (Lof H bm) X nx w false vs us
  | [], rs, hc, bm, H, nx, w, r, t, tmps, ht, vs, h => by
    simp [resOfs] at hc; subst hc
    simp [getsK] at h; subst h
    exact ⟨[], rfl, .nil⟩
  | rv :: rvs, rs, hc, bm, H, nx, w, r, t, tmps, ht, vs, h => by
    simp only [resOfs] at hc
    split at hc
    · rename_i x xs hx hxs
      simp at hc; subst hc
      simp only [getsK] at h
      rw [getR_opt] at h
      split at h
      · rename_i v hv
        rw [getsK_opt] at h
        split at h
        · rename_i vs' hvs
          simp at h; subst h
          obtain ⟨u, a1, a4⟩ := run_res hx r ht hv
          obtain ⟨us, b1, b4⟩ := run_ress hxs r ht hvs
          refine ⟨u :: us, ?_, .cons a4 b4⟩
          simp only [List.mapM_cons, Sem.run_bind, a1, Result.andThen_ok, b1, Sem.run_pure]
        · cases h
      · cases h
    · cases hc
def outV : List Value → Value
  | [v] => v
  | vs => .tuple vs.toArray
theorem run_results {fn : Func} {rs : List RS} (hrs : resOfs P fn.results.toList = some rs) {bm : Nat → Nat → Nat} {H : Heap} {nx : Ctr} {w : World} (r : Rel w0 O X bm H nx w) {t : List AV} {tmps : Array Value} (ht : TRel (Lof H bm) X nx w t tmps) {vs : List AV}
    (h : getsK rs t H some none = some vs) : ∃ us, (results fn tmps).run P w = .ok (outV us) w ∧ Reps (Lof H bm) X nx w false vs us := by
  obtain ⟨us, h1, h4⟩ := run_ress hrs r ht h
  refine ⟨us, ?_, h4⟩
  have he : results fn tmps = (do let vs ← fn.results.mapM (readR tmps); pure (if h : vs.size = 1 then vs[0] else .tuple vs)) := by
    unfold results
    congr 1
  rw [he, Array.mapM_eq_mapM_toList]
  simp only [Sem.run_bind, Sem.run_map, h1, Result.andThen_ok, Sem.run_pure]
  rcases us with _ | ⟨i, _ | ⟨j, rs⟩⟩
  · simp [outV]
  · simp [outV]
  · simp [outV]

theorem reps_fill {L : Loc} {nx : Ctr} {w : World} : ∀ n : Nat, Reps L X nx w false (List.replicate n (.tup [])) (List.replicate n undef)
  | 0 => .nil
  | n + 1 => by rw [List.replicate_succ, List.replicate_succ]; exact .cons (.tup rfl (by simp)) (reps_fill n)
theorem Reps.weak {L : Loc} {nx : Ctr} {w : World} {xs : List AV} {vs : List Value} (h : Reps L X nx w true xs vs) : Reps L X nx w false xs vs := by
  induction h with
  | nil => exact .nil
  | cons h _ ih => exact .cons h.weak ih

/-- A function's contract, out of a run of its compiled body. -/
theorem pcalls_of_runs (hmix : P.follows .mixedOrders = true) {f : Nat} {fn : Func} {c : Code} {cd : Cd} (hf : P.funcs[f]? = some fn) (hok : fnOk P f = true) (hb : fn.body = some c) {n0 : Nat} (hc : compC P M cm W n0 c = some cd)
    {rs : List RS} (hrs : resOfs P fn.results.toList = some rs) {args : List AV} {r : AV} {φ : Nat} (h : RunsX P φ (Gives rs r) [.c cd] (args ++ List.replicate (fn.ntmps - args.length) (.tup [])) [] zeroC) : PCalls P f args r := by
  refine ⟨hok, fun X w vals hX ha => ?_⟩
  refine calls_of_wp hf hb (fun b k cs => ?_)
  have hlen := ha.len
  have st : St w (fun _ => False) X none4 zeroC (args ++ List.replicate (fn.ntmps - args.length) (.tup [])) [] zeroC { tmps := vals.toArray ++ Array.replicate (fn.ntmps - vals.toArray.size) undef, defers := [] } w := by
    refine ⟨rfl, fun _ _ => 0, ⟨fun f d g cs h => by simp [find] at h, fun f d g cs _ _ _ _ h => by simp [find] at h, fun f d g b h => by simp [find] at h, fun f d g cs h => by simp [find] at h, rfl, rfl, rfl, Nat.le_refl _, fun _ _ _ => rfl, hX⟩, ?_⟩
    unfold TRel
    simp only [Array.toList_append, Array.toList_replicate, List.size_toArray, hlen]
    have hL : Lof [] (fun _ _ => 0) = none4 := by
      funext f d g b; apply propext; constructor
      · rintro ⟨⟨cs, h⟩, _⟩; simp [find] at h
      · intro h; exact h.elim
    rw [hL]
    exact ⟨ha.weak.append (reps_fill _), Move.refl _ _ _⟩
  have hr : RunsTo P φ (Gives rs r) [.c cd] (args ++ List.replicate (fn.ntmps - args.length) (.tup [])) [] zeroC := h
  obtain ⟨e, a', w', t', H', nx', he, hg, st', harr⟩ := runs_sim (M := M) (cm := cm) hmix hr (k0 := k) (todo := .code c :: k) (.code hc .nil) st b cs
  obtain ⟨hdef, bm, hrel, htr, _⟩ := st'
  refine ⟨e, a', w', ?_, harr⟩
  obtain ⟨r', hg, hwk⟩ := hg
  unfold retK at hg
  rw [getsK_opt] at hg
  split at hg
  case h_2 => cases hg
  rename_i vs0 hvs0
  obtain ⟨us, hres, hgr⟩ := run_results hrs hrel htr hvs0
  obtain ⟨vs', ids, hv, hl', hany, hfz⟩ := frz_map (fun v val α ok r' h1 h2 => frz_ok hrel 9 v val ok r' h1 h2) _ _ _ _ hgr hg
  simp at hv
  have hpure := hfz none4 zeroC (fun _ _ _ _ h => h.elim)
  have hbelow : Below w.heap.size w w' := ⟨hrel.os, hrel.tape, hrel.output, hrel.size, fun b hb => hrel.keep b hb (fun h => h)⟩
  have hrep : Rep none4 X zeroC w' true r (outV us) := by
    refine hwk _ _ _ _ _ _ ?_
    rw [← hv]
    have tup : Rep none4 X zeroC w' true (.tup vs') (.tuple us.toArray) := .tup (by simpa using hpure.len) (fun j x hx => by have := hpure.get j x hx; simpa [List.getD] using this)
    cases hpure with
    | nil => exact tup
    | cons h1 t =>
      cases t with
      | nil => exact h1
      | cons h2 t => exact tup
  rcases he with rfl | rfl
  · exact ⟨hdef, _, hres, _, rfl, hbelow, hrep⟩
  · exact ⟨hdef, _, hres, _, rfl, hbelow, hrep⟩
theorem Rel.sel {bm : Nat → Nat → Nat} {H : Heap} {nx : Ctr} {w : World} (r : Rel w0 O X bm H nx w) (ks : List (Nat × Nat)) : Rel w0 O X bm (Ev.sel ks H) nx w ∧ Move (Lof H bm) nx w (Lof (Ev.sel ks H) bm) nx w := by
  have sub : ∀ f d g b, Lof (Ev.sel ks H) bm f d g b → Lof H bm f d g b := by
    rintro f d g b ⟨⟨cs, h⟩, rfl⟩
    exact Lof.mk (find_sel h).1
  have m : Move (Lof H bm) nx w (Lof (Ev.sel ks H) bm) nx w :=
    ⟨fun _ => Nat.le_refl _, Nat.le_refl _, fun f d g b h _ => sub _ _ _ _ h, fun f d g b h _ => .inr ⟨f, d, g, sub _ _ _ _ h⟩, fun _ _ h _ => h, fun _ _ _ _ vs _ _ _ h => ⟨vs, h, rfl⟩⟩
  refine ⟨⟨?_, ?_, ?_, ?_, r.os, r.tape, r.output, r.size, r.keep, r.xlt⟩, m⟩
  · intro f d g cs h
    obtain ⟨vs, E, h1, h2, h3⟩ := r.blk _ _ _ _ (find_sel h).1
    exact ⟨vs, E, h1, h2, fun j x hx => ⟨(h3 j x hx).1.move m, (h3 j x hx).2⟩⟩
  · intro f d g cs f' d' g' cs' h h'
    exact r.inj _ _ _ _ _ _ _ _ (find_sel h).1 (find_sel h').1
  · intro f d g b h; exact r.gen _ _ _ _ (find_sel h).1
  · intro f d g cs h; exact r.own _ _ _ _ (find_sel h).1
/-- It ends, handing back that, with that heap left. -/
def GivesH (ks : List (Nat × Nat)) (rs : List RS) (r : AV) (Hout : Heap) (nx' : Ctr) (t : List AV) (H : Heap) (nx : Ctr) : Prop := Ev.sel ks H = Hout ∧ (∃ r', getsK rs t H (fun vs => some (retv vs)) none = some r' ∧ Wk1 r' r) ∧ nx = nx'
theorem GivesH.of {ks : List (Nat × Nat)} {rs : List RS} {r : AV} {Hout : Heap} {nx' : Ctr} {t : List AV} {H : Heap} {nx : Ctr} (h1 : Ev.sel ks H = Hout) (h2 : getsK rs t H (fun vs => some (retv vs)) none = some r) (h3 : nx = nx') : GivesH ks rs r Hout nx' t H nx := ⟨h1, ⟨r, h2, Wk1.refl r⟩, h3⟩

/-- A function's contract, with a part of the heap. -/
theorem hcalls_of_runs (hmix : P.follows .mixedOrders = true) {f : Nat} {fn : Func} {c : Code} {cd : Cd} (hf : P.funcs[f]? = some fn) (hok : fnOk P f = true) (hb : fn.body = some c) {n0 : Nat} (hc : compC P M cm W n0 c = some cd)
    {rs : List RS} (hrs : resOfs P fn.results.toList = some rs) {args : List AV} {Hin Hout : Heap} {nx nx' : Ctr} {r : AV} {φ : Nat} (ks : List (Nat × Nat)) (h : RunsX P φ (GivesH ks rs r Hout nx') [.c cd] (args ++ List.replicate (fn.ntmps - args.length) (.tup [])) Hin nx) : HCalls P f args Hin nx r Hout nx' := by
  refine ⟨hok, fun X w bm vals hrel0 ha => ?_⟩
  refine calls_of_wp hf hb (fun b k cs => ?_)
  have hlen := ha.len
  have st : St w (Own Hin bm) X (Lof Hin bm) nx (args ++ List.replicate (fn.ntmps - args.length) (.tup [])) Hin nx { tmps := vals.toArray ++ Array.replicate (fn.ntmps - vals.toArray.size) undef, defers := [] } w := by
    refine ⟨rfl, bm, hrel0, ?_, Move.refl _ _ _⟩
    unfold TRel
    simp only [Array.toList_append, Array.toList_replicate, List.size_toArray, hlen]
    exact ha.append (reps_fill _)
  have hr : RunsTo P φ (GivesH ks rs r Hout nx') [.c cd] (args ++ List.replicate (fn.ntmps - args.length) (.tup [])) Hin nx := h
  obtain ⟨e, a', w', t', H', nx1, he, hg, st', harr⟩ := runs_sim (M := M) (cm := cm) hmix hr (k0 := k) (todo := .code c :: k) (.code hc .nil) st b cs
  obtain ⟨hdef, bm', hrel, htr, hmv⟩ := st'
  refine ⟨e, a', w', ?_, harr⟩
  obtain ⟨rfl, ⟨r', hrv, hwk⟩, rfl⟩ := hg
  rw [getsK_opt] at hrv
  split at hrv
  case h_2 => cases hrv
  rename_i vs0 hvs0
  simp at hrv
  obtain ⟨us, hres, hgr⟩ := run_results hrs hrel htr hvs0
  obtain ⟨hrel2, hm2⟩ := hrel.sel ks
  have hrep : Rep (Lof H' bm') X nx1 w' false r (outV us) := by
    refine hwk _ _ _ _ _ _ ?_
    rw [← hrv]
    have tup : Rep (Lof H' bm') X nx1 w' false (.tup vs0) (.tuple us.toArray) := .tup (by simpa using hgr.len) (fun j x hx => by have := hgr.get j x hx; simpa [List.getD] using this)
    cases hgr with
    | nil => exact tup
    | cons h1 t =>
      cases t with
      | nil => exact h1
      | cons h2 t => exact tup
  rcases he with rfl | rfl
  · exact ⟨hdef, _, hres, _, bm', rfl, hrel2, hmv.trans hm2, hrep.move hm2⟩
  · exact ⟨hdef, _, hres, _, bm', rfl, hrel2, hmv.trans hm2, hrep.move hm2⟩

/-- Temporaries written through; loads by what nobody writes. -/
def mset (l1 l2 : List Nat) (l3 : List Nat := []) (l4 : List (Nat × Nat) := []) : Nat → Nat := fun i => if l1.contains i then 1 else if l2.contains i then 2 else if l3.contains i then 3 else match l4.find? (fun p => p.1 == i) with | some p => 100000 + p.2 | none => 0
def mset5 (l1 l2 l3 : List Nat) (l4 : List (Nat × Nat)) (l5 l6 : List Nat) (l7 : List Nat := []) : Nat → Nat := fun i => if l7.contains i then 6 else if l1.contains i then 1 else if l2.contains i then 2 else if l3.contains i then 3 else if l5.contains i then 4 else if l6.contains i then 5 else match l4.find? (fun p => p.1 == i) with | some p => 100000 + p.2 | none => 0
def cset (l : List Nat) (l2 : List Nat := []) (l3 : List Nat := []) (l4 : List Nat := []) : Nat → Nat := fun f => if l.contains f then 1 else if l2.contains f then 2 else if l3.contains f then 3 else if l4.contains f then 4 else 0
def compF (P : Program) (M : Nat → Nat) (cm : Nat → Nat) (W : Wo) (fn : Func) : Option Cd := match fn.body with | some c => compC P M cm W 0 c | none => none
def wsetM : List (Nat × Mk × List Bool) → Nat → Mk × List Bool
  | [], _ => (⟨[], []⟩, [])
  | (j, a, b) :: l, i => if i = j then (a, b) else wsetM l i
def wset (l : List (Nat × Mk × List Bool)) (z : List Nat := []) : Wo := ⟨wsetM l, z⟩
theorem pcallsF (hmix : P.follows .mixedOrders = true) {f : Nat} {fn : Func} {cd : Cd} (hf : P.funcs[f]? = some fn) (hok : fnOk P f = true) (hc : compF P M cm W fn = some cd) {n : Nat} (hn : fn.ntmps = n)
    {rs : List RS} (hrs : resOfs P fn.results.toList = some rs) {args : List AV} {r : AV} (h : RunsX P 0 (Gives rs r) [.c cd] (args ++ List.replicate (n - args.length) (.tup [])) [] zeroC) : PCalls P f args r := by
  subst hn
  unfold compF at hc
  split at hc
  · rename_i c hb
    exact pcalls_of_runs hmix hf hok hb hc hrs h
  · cases hc
theorem hcallsF (hmix : P.follows .mixedOrders = true) {f : Nat} {fn : Func} {cd : Cd} (hf : P.funcs[f]? = some fn) (hok : fnOk P f = true) (hc : compF P M cm W fn = some cd) {n : Nat} (hn : fn.ntmps = n)
    {rs : List RS} (hrs : resOfs P fn.results.toList = some rs) {args : List AV} {Hin Hout : Heap} {nx nx' : Ctr} {r : AV} (φ : Nat) (ks : List (Nat × Nat)) (h : RunsX P φ (GivesH ks rs r Hout nx') [.c cd] (args ++ List.replicate (n - args.length) (.tup [])) Hin nx) : HCalls P f args Hin nx r Hout nx' := by
  subst hn
  unfold compF at hc
  split at hc
  · rename_i c hb
    exact hcalls_of_runs hmix hf hok hb hc hrs ks h
  · cases hc
end
end Go.Ev
/- Contracts told otherwise: results told less of, slices that may be nil. -/
namespace Go.Ev
open Go.RowKit
set_option linter.unusedVariables false
set_option linter.unusedSectionVars false

theorem doneG {P : Program} {φ : Nat} {rs : List RS} {r : AV} {k0 : List It} {t : List AV} {H : Heap} {nx : Ctr} (h : retK rs t H some none = some r) : RunsO P φ (Gives rs r) k0 (.done t H nx) := ⟨r, h, Wk1.refl r⟩
theorem doneW {P : Program} {φ : Nat} {rs : List RS} {r r' : AV} {k0 : List It} {t : List AV} {H : Heap} {nx : Ctr} (h : retK rs t H some none = some r') (hw : Wk1 r' r) : RunsO P φ (Gives rs r) k0 (.done t H nx) := ⟨r', h, hw⟩
theorem doneH {P : Program} {φ : Nat} {ks : List (Nat × Nat)} {rs : List RS} {r : AV} {Hout : Heap} {nx' : Ctr} {k0 : List It} {t : List AV} {H : Heap} {nx : Ctr} (h1 : Ev.sel ks H = Hout) (h2 : getsK rs t H (fun vs => some (retv vs)) none = some r) (h3 : nx = nx') : RunsO P φ (GivesH ks rs r Hout nx') k0 (.done t H nx) := GivesH.of h1 h2 h3
/-- No room told. -/
theorem Wk1.cap (sz : Nat) (es : List AV) (c : Option Nat) : Wk1 (.fz sz es c) (.fz sz es none) := by
  intro L X nx w p v h
  cases h with
  | fz0 a b => exact .fz0 (by simp) (fun e => ⟨(b e).1, rfl⟩)
  | fz vv a b c d e f g h => exact .fz vv a b (by simp) d e f g h
theorem Wk1.nils (sz : Nat) : Wk1 .nils (.fz sz [] none) := by
  intro L X nx w p v h
  cases h with
  | nils => exact .fz0 (by simp) (fun _ => ⟨rfl, rfl⟩)
theorem Wk1.any (x : AV) : Wk1 x .any := fun _ _ _ _ _ _ _ => .any
theorem Wk1.agg {xs ys : List AV} (hl : xs.length = ys.length) (h : ∀ (j : Nat) x y, xs[j]? = some x → ys[j]? = some y → Wk1 x y) : Wk1 (.agg xs) (.agg ys) := by
  intro L X nx w p v hr
  cases hr with
  | agg hs hr =>
    refine .agg (by omega) (fun j y hy => ?_)
    have hlt := (List.getElem?_eq_some_iff.1 hy).1
    have hx : xs[j]? = some xs[j] := List.getElem?_eq_getElem (by omega)
    exact h j _ _ hx hy _ _ _ _ _ _ (hr j _ hx)
theorem Wk1.tup {xs ys : List AV} (hl : xs.length = ys.length) (h : ∀ (j : Nat) x y, xs[j]? = some x → ys[j]? = some y → Wk1 x y) : Wk1 (.tup xs) (.tup ys) := by
  intro L X nx w p v hr
  cases hr with
  | tup hs hr =>
    refine .tup (by omega) (fun j y hy => ?_)
    have hlt := (List.getElem?_eq_some_iff.1 hy).1
    have hx : xs[j]? = some xs[j] := List.getElem?_eq_getElem (by omega)
    exact h j _ _ hx hy _ _ _ _ _ _ (hr j _ hx)
theorem PCalls.wk {P : Program} {f : Nat} {args : List AV} {r r' : AV} (h : PCalls P f args r) (hw : Wk1 r r') : PCalls P f args r' :=
  ⟨h.ok, fun X w vals hX ha => (h.calls X w vals hX ha).mono fun _ _ ⟨v, e, b, hr⟩ => ⟨v, e, b, hw _ _ _ _ _ _ hr⟩⟩
theorem HCalls.wk {P : Program} {f : Nat} {args : List AV} {Hin Hout : Heap} {nx nx' : Ctr} {r r' : AV} (h : HCalls P f args Hin nx r Hout nx') (hw : Wk1 r r') : HCalls P f args Hin nx r' Hout nx' :=
  ⟨h.ok, fun X w bm vals hX ha => (h.calls X w bm vals hX ha).mono fun _ _ ⟨v, bm', e, b, m, hr⟩ => ⟨v, bm', e, b, m, hw _ _ _ _ _ _ hr⟩⟩
/-- An empty slice is nil, or one with a known room. -/
theorem nil_or {L : Loc} {X : Nat → Prop} {nx : Ctr} {w : World} {p : Bool} {sz : Nat} {v : Value} (h : Rep L X nx w p (.fz sz [] none) v) : Rep L X nx w p .nils v ∨ ∃ c, Rep L X nx w p (.fz sz [] (some c)) v := by
  cases h with
  | @fz0 _ _ _ A c a b =>
    cases A with
    | none => obtain ⟨rfl, _⟩ := b rfl; exact .inl .nils
    | some A => exact .inr ⟨c, .fz0 (by simp) (fun e => by cases e)⟩
  | fz vv hne => exact absurd rfl hne
theorem PCalls.nil {P : Program} {f sz : Nat} {pre post : List AV} {r : AV} (h1 : PCalls P f (pre ++ .nils :: post) r) (h2 : ∀ c, PCalls P f (pre ++ .fz sz [] (some c) :: post) r) : PCalls P f (pre ++ .fz sz [] none :: post) r := by
  refine ⟨h1.ok, fun X w vals hX ha => ?_⟩
  have key : ∀ (pre : List AV) (vals : List Value), Reps none4 X zeroC w true (pre ++ .fz sz [] none :: post) vals → Reps none4 X zeroC w true (pre ++ .nils :: post) vals ∨ ∃ c, Reps none4 X zeroC w true (pre ++ .fz sz [] (some c) :: post) vals := by
    intro pre
    induction pre with
    | nil =>
      intro vals ha
      obtain ⟨v, vs, rfl, a, b⟩ := ha.inv
      rcases nil_or a with a | ⟨c, a⟩
      · exact .inl (.cons a b)
      · exact .inr ⟨c, .cons a b⟩
    | cons x pre ih =>
      intro vals ha
      obtain ⟨v, vs, rfl, a, b⟩ := ha.inv
      rcases ih vs b with b | ⟨c, b⟩
      · exact .inl (.cons a b)
      · exact .inr ⟨c, .cons a b⟩
  rcases key pre vals ha with ha | ⟨c, ha⟩
  · exact h1.calls X w vals hX ha
  · exact (h2 c).calls X w vals hX ha

theorem Reps.arg {L : Loc} {X : Nat → Prop} {nx : Ctr} {w : World} {p : Bool} {x y : AV} (hw : Wk1 x y) {post : List AV} : ∀ (pre : List AV) (vals : List Value), Reps L X nx w p (pre ++ x :: post) vals → Reps L X nx w p (pre ++ y :: post) vals
  | [], vals, h => by obtain ⟨v, vs, rfl, a, b⟩ := h.inv; exact .cons (hw _ _ _ _ _ _ a) b
  | z :: pre, vals, h => by obtain ⟨v, vs, rfl, a, b⟩ := h.inv; exact .cons a (Reps.arg hw pre vs b)
theorem PCalls.arg {P : Program} {f : Nat} (pre : List AV) {post : List AV} {x y r : AV} (hw : Wk1 x y) (h : PCalls P f (pre ++ y :: post) r) : PCalls P f (pre ++ x :: post) r :=
  ⟨h.ok, fun X w vals hX ha => h.calls X w vals hX (Reps.arg hw pre vals ha)⟩
theorem capOf_nn (es : List AV) (l : Nat) : capOf es none none l = none := by cases es <;> rfl
theorem wrap64 {z : Int} (h0 : -9223372036854775808 ≤ z) (h1 : z < 9223372036854775808) : IntKind.i64.wrap z = z := by rw [IntKind.wrap_i64]; omega
/-! ### the freezing, case by case -/
section
variable {α : Type} (n : Nat) (H : Heap) (ok : AV → List (Nat × Nat) → α) (bad : α)
theorem frzK_sl (f d g sz off len : Nat) : frzK (n + 1) H (.sl f d g sz off len) ok bad = getB H f d g (fun cs => if (off + len) * sz ≤ cs.length then mapK (frzK n H) ((cs.drop (off * sz)).take (len * sz)) (fun cs' i => ok (.fz sz (chunk sz len cs') none) ((f, d) :: i)) bad else bad) bad := rfl
theorem frzK_agg (cs : List AV) : frzK (n + 1) H (.agg cs) ok bad = mapK (frzK n H) cs (fun cs' i => ok (.agg cs') i) bad := rfl
theorem frzK_tup (cs : List AV) : frzK (n + 1) H (.tup cs) ok bad = mapK (frzK n H) cs (fun cs' i => ok (.tup cs') i) bad := rfl
theorem frzK_ifc (t : Nat) (v : AV) : frzK (n + 1) H (.ifc t v) ok bad = frzK n H v (fun v' i => ok (.ifc t v') i) bad := rfl
theorem frzK_func (f : Nat) (cs : List AV) : frzK (n + 1) H (.func f cs) ok bad = mapK (frzK n H) cs (fun cs' i => ok (.func f cs') i) bad := rfl
theorem frzK_int (k : IntKind) (z : Int) : frzK (n + 1) H (.int k z) ok bad = ok (.int k z) [] := rfl
theorem frzK_bool (b : Bool) : frzK (n + 1) H (.bool b) ok bad = ok (.bool b) [] := rfl
theorem frzK_str (b : ByteArray) : frzK (n + 1) H (.str b) ok bad = ok (.str b) [] := rfl
theorem frzK_nilp : frzK (n + 1) H .nilp ok bad = ok .nilp [] := rfl
theorem frzK_nils : frzK (n + 1) H .nils ok bad = ok .nils [] := rfl
theorem frzK_nilm : frzK (n + 1) H .nilm ok bad = ok .nilm [] := rfl
theorem frzK_nilf : frzK (n + 1) H .nilf ok bad = ok .nilf [] := rfl
theorem frzK_nili : frzK (n + 1) H .nili ok bad = ok .nili [] := rfl
theorem frzK_fz (sz : Nat) (es : List AV) (c : Option Nat) : frzK (n + 1) H (.fz sz es c) ok bad = ok (.fz sz es c) [] := rfl
theorem frzK_any : frzK (n + 1) H .any ok bad = bad := rfl
theorem frzK_ptr (f d g off : Nat) : frzK (n + 1) H (.ptr f d g off) ok bad = if off = 0 then getB H f d g (fun cs => mapK (frzK n H) cs (fun cs' i => ok (.ro cs') ((f, d) :: i)) bad) bad else bad := rfl
theorem frzK_ro (cs : List AV) : frzK (n + 1) H (.ro cs) ok bad = mapK (frzK n H) cs (fun cs' i => ok (.ro cs') i) bad := rfl
end

/-! ### rows that are built one behind the other -/
/-- Not begun yet, or of that generation. -/
def accV (φ d sz : Nat) (e : Option Nat) (n : Nat) : AV := match e with
  | none => .nils
  | some g => .sl φ d g sz 0 n
def accE (φ d : Nat) (e : Option Nat) (cs : List AV) : Heap := match e with
  | none => []
  | some g => [(φ, d, g, some cs)]
theorem find_accE (φ d g : Nat) (cs : List AV) (T : Heap) : find (accE φ d (some g) cs ++ T) φ d = some (g, some cs) := by simp [accE, find]
theorem find_accE_ne (φ d d' : Nat) (e : Option Nat) (cs : List AV) (T : Heap) (h : d ≠ d') : find (accE φ d e cs ++ T) φ d' = find T φ d' := by
  cases e with
  | none => rfl
  | some g => simp only [accE, List.cons_append, List.nil_append, find]; rw [if_neg (fun e => h e.1)]
/-- All names lie behind that one. -/
def above (d : Nat) : Heap → Bool
  | [] => true
  | (_, d', _, _) :: _ => decide (d < d')
theorem setB_accE (φ d g' : Nat) (e : Option Nat) (cs : List AV) (b : Option (List AV)) (T : Heap) (h : above d T = true) : setB (accE φ d e cs ++ T) φ d g' b = (φ, d, g', b) :: T := by
  cases e with
  | none =>
    cases T with
    | nil => rfl
    | cons x T =>
      obtain ⟨f1, d1, g1, b1⟩ := x
      simp only [above, decide_eq_true_eq] at h
      simp only [accE, List.nil_append, setB]
      rw [if_neg (by omega), if_pos h]
  | some g => simp [accE, setB]
theorem setB_accE_ne (φ d d' g' : Nat) (e : Option Nat) (cs : List AV) (b : Option (List AV)) (T : Heap) (h : d < d') : setB (accE φ d e cs ++ T) φ d' g' b = accE φ d e cs ++ setB T φ d' g' b := by
  cases e with
  | none => rfl
  | some g => simp only [accE, List.cons_append, List.nil_append, setB]; rw [if_neg (by omega), if_neg (by omega)]
/-- One more piece at the end. -/
theorem app_acc {α : Type} {φ d sz by_ n m : Nat} {e : Option Nat} {cs ns : List AV} {H : Heap} {nx : Ctr} {y : AV} {ok : AV → Heap → Ctr → α} {bad : α}
    (h0 : e = none → cs = [] ∧ n = 0) (hf : ∀ g, e = some g → find H φ d = some (g, some cs)) (hc : cs.length = n * sz)
    (hy : (∃ es c, y = .fz sz es c ∧ m = es.length ∧ ns = catCells es)) (hm : 0 < m) (hb : (n + m) * by_ ≤ 1099511627776) (hb' : n + m ≤ 1099511627776) :
    appK sz by_ d (accV φ d sz e n) y H nx φ ok bad = ok (accV φ d sz (some (nx d)) (n + m)) (setB H φ d (nx d) (some (cs ++ ns))) (bump nx d) := by
  obtain ⟨es, c, rfl, rfl, rfl⟩ := hy
  cases e with
  | none =>
    obtain ⟨rfl, rfl⟩ := h0 rfl
    simp only [accV, appK, if_true]
    rw [if_neg (by omega), if_pos ⟨by simpa using hb, by simpa using hb'⟩]
    simp
  | some g =>
    simp only [accV, appK, if_true]
    rw [if_pos ⟨trivial, trivial, hb, hb'⟩, getB_of (hf g rfl), if_pos hc]

/-! ### what a rewriter looks at: the operands, not what is done with them -/
section
variable {α : Type}
@[congr] theorem ite_cg {c c' : Prop} {i : Decidable c} [Decidable c'] {a b : α} (h : c = c') : ite c a b = ite c' a b := by subst h; congr
@[congr] theorem opK_cg {o : AK} {vs vs' : List AV} {H H' : Heap} {nx nx' : Ctr} {φ : Nat} {ok : AV → Heap → Ctr → α} {bad : α} (h1 : vs = vs') (h2 : H = H') (h3 : nx = nx') : opK o vs H nx φ ok bad = opK o vs' H' nx' φ ok bad := by subst h1 h2 h3; rfl
@[congr] theorem appK_cg {sz by_ key : Nat} {x x' y y' : AV} {H H' : Heap} {nx nx' : Ctr} {φ : Nat} {ok : AV → Heap → Ctr → α} {bad : α} (h1 : x = x') (h4 : y = y') (h2 : H = H') (h3 : nx = nx') : appK sz by_ key x y H nx φ ok bad = appK sz by_ key x' y' H' nx' φ ok bad := by subst h1 h2 h3 h4; rfl
@[congr] theorem binK_cg {o : BinOp} {x x' y y' : AV} {ok : AV → α} {bad : α} (h1 : x = x') (h2 : y = y') : binK o x y ok bad = binK o x' y' ok bad := by subst h1 h2; rfl
@[congr] theorem intK_cg {o : BinOp} {k : IntKind} {x x' y y' : Int} {ok : AV → α} {bad : α} (h1 : x = x') (h2 : y = y') : intK o k x y ok bad = intK o k x' y' ok bad := by subst h1 h2; rfl
@[congr] theorem strK_cg {o : BinOp} {x x' y y' : ByteArray} {ok : AV → α} {bad : α} (h1 : x = x') (h2 : y = y') : strK o x y ok bad = strK o x' y' ok bad := by subst h1 h2; rfl
@[congr] theorem nilpK_cg {x x' : AV} {ok : Bool → α} {bad : α} (h1 : x = x') : nilpK x ok bad = nilpK x' ok bad := by subst h1; rfl
@[congr] theorem nilsK_cg {x x' : AV} {ok : Bool → α} {bad : α} (h1 : x = x') : nilsK x ok bad = nilsK x' ok bad := by subst h1; rfl
@[congr] theorem nilfK_cg {x x' : AV} {ok : Bool → α} {bad : α} (h1 : x = x') : nilfK x ok bad = nilfK x' ok bad := by subst h1; rfl
@[congr] theorem niliK_cg {x x' : AV} {ok : Bool → α} {bad : α} (h1 : x = x') : niliK x ok bad = niliK x' ok bad := by subst h1; rfl
@[congr] theorem bndK_cg {x x' : AV} {m m' : Nat} {ok : Nat → α} {bad : α} (h1 : x = x') (h2 : m = m') : bndK x m ok bad = bndK x' m' ok bad := by subst h1 h2; rfl
@[congr] theorem cutK_cg {len len' lim lim' : Nat} {lo hi mx : Bool} {vs vs' : List AV} {ok : Nat → Nat → Option Nat → α} {bad : α} (h1 : len = len') (h2 : lim = lim') (h3 : vs = vs') : cutK len lim lo hi mx vs ok bad = cutK len' lim' lo hi mx vs' ok bad := by subst h1 h2 h3; rfl
@[congr] theorem fillK_cg {ps : List (Nat × Nat)} {vs vs' cs cs' : List AV} {ok : List AV → α} {bad : α} (h1 : vs = vs') (h2 : cs = cs') : fillK ps vs cs ok bad = fillK ps vs' cs' ok bad := by subst h1 h2; rfl
@[congr] theorem mapK_cg {f : AV → (AV → List (Nat × Nat) → α) → α → α} {vs vs' : List AV} {ok : List AV → List (Nat × Nat) → α} {bad : α} (h1 : vs = vs') : mapK f vs ok bad = mapK f vs' ok bad := by subst h1; rfl
@[congr] theorem frzK_cg {n : Nat} {H H' : Heap} {v v' : AV} {ok : AV → List (Nat × Nat) → α} {bad : α} (h1 : H = H') (h2 : v = v') : frzK n H v ok bad = frzK n H' v' ok bad := by subst h1 h2; rfl
@[congr] theorem getB_cg {H H' : Heap} {f f' d d' g g' : Nat} {ok : List AV → α} {bad : α} (h1 : H = H') (h2 : f = f') (h3 : d = d') (h4 : g = g') : getB H f d g ok bad = getB H' f' d' g' ok bad := by subst h1 h2 h3 h4; rfl
@[congr] theorem exitK_cg {i : Nat} {k k' : List It} {ok : List It → List Bool → α} {bad : α} (h1 : k = k') : exitK i k ok bad = exitK i k' ok bad := by subst h1; rfl
@[congr] theorem getsK_cg {rs : List RS} {t t' : List AV} {H H' : Heap} {ok : List AV → α} {bad : α} (h1 : t = t') (h2 : H = H') : getsK rs t H ok bad = getsK rs t' H' ok bad := by subst h1 h2; rfl
@[congr] theorem getR_cg {r : RS} {t t' : List AV} {H H' : Heap} {ok : AV → α} {bad : α} (h1 : t = t') (h2 : H = H') : getR r t H ok bad = getR r t' H' ok bad := by subst h1 h2; rfl
@[congr] theorem retK_cg {rs : List RS} {t t' : List AV} {H H' : Heap} {ok : AV → α} {bad : α} (h1 : t = t') (h2 : H = H') : retK rs t H ok bad = retK rs t' H' ok bad := by subst h1 h2; rfl
end
end Go.Ev
/- A closed call, reckoned: the compiled code is run, calls and all; what comes out is the function's contract. -/
namespace Go.Ev
open Go.RowKit
set_option linter.unusedVariables false
set_option linter.unusedSectionVars false

abbrev Tab := Nat → Option (Cd × Nat × List RS)
/-- Each row of the table is its function's compiled code. -/
def TabOk (P : Program) (T : Tab) : Prop := ∀ f cd nt rs, T f = some (cd, nt, rs) →
  (∀ (args : List AV) (r : AV), RunsX P 0 (Gives rs r) [.c cd] (args ++ List.replicate (nt - args.length) (.tup [])) [] zeroC → PCalls P f args r) ∧
  (∀ (args : List AV) (Hin Hout : Heap) (nx nx2 : Ctr) (r : AV) (φ : Nat) (ks : List (Nat × Nat)), RunsX P φ (GivesH ks rs r Hout nx2) [.c cd] (args ++ List.replicate (nt - args.length) (.tup [])) Hin nx → HCalls P f args Hin nx r Hout nx2)
def flatB : List It → Bool
  | [] => true
  | .ops _ :: _ => false
  | _ :: k => flatB k
def flat1B : List It → Bool
  | .ops _ :: k => flatB k
  | k => flatB k
theorem flatB_of : ∀ {k : List It}, flatB k = true → flat k
  | [], _ => trivial
  | .ops _ :: _, h => by simp [flatB] at h
  | .c _ :: k, h => flatB_of (k := k) h
  | .blk _ _ :: k, h => flatB_of (k := k) h
  | .lp _ _ :: k, h => flatB_of (k := k) h
  | .frz _ :: k, h => flatB_of (k := k) h
theorem flat1B_of : ∀ {k : List It}, flat1B k = true → flat1 k
  | [], _ => trivial
  | .ops _ :: k, h => flatB_of (k := k) h
  | .c _ :: k, h => flatB_of (k := k) h
  | .blk _ _ :: k, h => flatB_of (k := k) h
  | .lp _ _ :: k, h => flatB_of (k := k) h
  | .frz _ :: k, h => flatB_of (k := k) h
def allKeys : Heap → List (Nat × Nat)
  | [] => []
  | (f, d, _, _) :: H => (f, d) :: allKeys H
def fillT (vs : List AV) (nt : Nat) : List AV := vs ++ List.replicate (nt - vs.length) (.tup [])
def goF (T : Tab) : Nat → Nat → Nat → Out → Option (List AV × Heap × Ctr × Nat)
  | 0, _, _, _ => none
  | n + 1, φ, c, o => match o with
    | .done t H nx => some (t, H, nx, c)
    | .fall t H nx => some (t, H, nx, c)
    | .bad => none
    | .more k t H nx => match k with
      | .lp m b :: k' => if flatB k' = true then goF T n φ c (adv 2000 φ (.c b :: .lp m b :: k') t H nx) else none
      | k => if flat1B k = true then goF T n φ c (adv 2000 φ k t H nx) else none
    | .call f mode vs ids d l k t H nx => if flatB k = true then (match T f with
      | none => none
      | some (cd, nt, rs) => match mode with
        | 0 => match goF T n 0 1 (adv 2000 0 [.c cd] (fillT vs nt) [] zeroC) with
          | some (t', H', _, _) => match retK rs t' H' some none with
            | some r => if (ids.isEmpty || scal r) = true then goF T n φ c (adv 2000 φ (.ops l :: k) (put t d r) H nx) else none
            | none => none
          | none => none
        | 1 => match goF T n 0 1 (adv 2000 0 [.c cd] (fillT vs nt) [] zeroC) with
          | some (t', H', _, _) => match retK rs t' H' some none with
            | some r => goF T n φ c (adv 2000 φ (.ops l :: k) (put t d r) (kill ids H) nx)
            | none => none
          | none => none
        | 3 => match goF T n 0 1 (adv 2000 0 [.c cd] (fillT vs nt) [] zeroC) with
          | some (t', H', _, _) => match retK rs t' H' some none with
            | some r => goF T n φ c (adv 2000 φ (.ops l :: k) (put (frzT ids H t) d r) (kill ids H) nx)
            | none => none
          | none => none
        | 2 => if (rest (allKeys H) H).isEmpty = true then (match goF T n c (c + 1) (adv 2000 c [.c cd] (fillT vs nt) (sel (allKeys H) H) nx) with
          | some (t', H', nx', c') => match getsK rs t' H' (fun vs => some (retv vs)) none with
            | some r => goF T n φ c' (adv 2000 φ (.ops l :: k) (put t d r) (sel (allKeys H') H' ++ rest (allKeys H) H) nx')
            | none => none
          | none => none) else none
        | _ => none) else none
section
variable {P : Program} {T : Tab}
theorem goF_sound (hT : TabOk P T) : ∀ (n φ c : Nat) (o : Out) (t : List AV) (H : Heap) (nx : Ctr) (c' : Nat), goF T n φ c o = some (t, H, nx, c') → ∀ R : List AV → Heap → Ctr → Prop, R t H nx → RunsO P φ R [] o
  | 0, _, _, _, _, _, _, _, h, _, _ => by simp [goF] at h
  | n + 1, φ, c, o, t, H, nx, c', h, R, hR => by
    have ih := goF_sound hT n
    have pure : ∀ {f : Nat} {cd : Cd} {nt : Nat} {rs : List RS} {vs : List AV} {t' : List AV} {H' : Heap} {nx' : Ctr} {c1 : Nat} {r : AV}, T f = some (cd, nt, rs) → goF T n 0 1 (adv 2000 0 [.c cd] (fillT vs nt) [] zeroC) = some (t', H', nx', c1) → retK rs t' H' some none = some r → PCalls P f vs r := by
      intro f cd nt rs vs t' H' nx' c1 r h1 h2 h3
      exact (hT _ _ _ _ h1).1 _ _ (adv_sound 2000 [.c cd] _ _ _ trivial (ih _ _ _ _ _ _ _ h2 _ (Gives.of h3)))
    cases o with
    | done t1 H1 nx1 => simp only [goF, Option.some.injEq, Prod.mk.injEq] at h; obtain ⟨rfl, rfl, rfl, _⟩ := h; exact hR
    | fall t1 H1 nx1 => simp only [goF, Option.some.injEq, Prod.mk.injEq] at h; obtain ⟨rfl, rfl, rfl, _⟩ := h; exact RunsX.of (.nil hR)
    | bad => simp [goF] at h
    | more k t1 H1 nx1 =>
      simp only [goF] at h
      split at h
      · rename_i m b k'
        split at h
        · rename_i hf
          have := ih _ _ _ _ _ _ _ h R hR
          show RunsX P φ R (.lp m b :: k' ++ []) t1 H1 nx1
          rw [List.append_nil]
          refine lp_step (flatB_of hf) (adv_sound 2000 _ _ _ _ ?_ this)
          exact flatB_of (k := k') hf
        · cases h
      · split at h
        · rename_i hf
          have := ih _ _ _ _ _ _ _ h R hR
          show RunsX P φ R (k ++ []) t1 H1 nx1
          rw [List.append_nil]
          exact adv_sound 2000 _ _ _ _ (flat1B_of hf) this
        · cases h
    | call f mode vs ids d l k t1 H1 nx1 =>
      simp only [goF] at h
      split at h
      case isFalse => cases h
      rename_i hf
      have hk := flatB_of hf
      have cont : ∀ {t2 : List AV} {H2 : Heap} {nx2 : Ctr} {c2 : Nat}, goF T n φ c2 (adv 2000 φ (.ops l :: k) t2 H2 nx2) = some (t, H, nx, c') → RunsX P φ R (.ops l :: (k ++ [])) t2 H2 nx2 := by
        intro t2 H2 nx2 c2 h
        rw [List.append_nil]
        exact adv_sound 2000 (.ops l :: k) _ _ _ hk (ih _ _ _ _ _ _ _ h R hR)
      split at h
      · cases h
      · rename_i cd nt rs hTf
        split at h
        · split at h
          · rename_i hg
            split at h
            · rename_i r hr
              split at h
              · rename_i hs
                refine ⟨r, pure hTf hg hr, ?_, cont h⟩
                simp only [Bool.or_eq_true, List.isEmpty_iff] at hs
                exact hs
              · cases h
            · cases h
          · cases h
        · split at h
          · rename_i hg
            split at h
            · rename_i r hr
              exact ⟨r, pure hTf hg hr, cont h⟩
            · cases h
          · cases h
        · split at h
          · rename_i hg
            split at h
            · rename_i r hr
              exact ⟨r, pure hTf hg hr, cont h⟩
            · cases h
          · cases h
        · split at h
          · rename_i hre
            split at h
            · rename_i t' H' nx' c1 hg
              split at h
              · rename_i r hr
                refine ⟨allKeys H1, r, sel (allKeys H') H', nx', ?_, .inl (List.isEmpty_iff.1 hre), cont h⟩
                exact (hT _ _ _ _ hTf).2 _ _ _ _ _ _ c (allKeys H') (adv_sound 2000 [.c cd] _ _ _ trivial (ih _ _ _ _ _ _ _ hg _ ⟨rfl, ⟨r, hr, Wk1.refl r⟩, rfl⟩))
              · cases h
            · cases h
          · cases h
        · cases h
/-- What a closed call gives. -/
def evalF (T : Tab) (n f : Nat) (args : List AV) : Option AV := match T f with
  | some (cd, nt, rs) => match goF T n 0 1 (adv 2000 0 [.c cd] (fillT args nt) [] zeroC) with
    | some (t', H', _, _) => retK rs t' H' some none
    | none => none
  | none => none
theorem evalF_calls (hT : TabOk P T) {n f : Nat} {args : List AV} {r : AV} (h : evalF T n f args = some r) : PCalls P f args r := by
  unfold evalF at h
  split at h
  · rename_i cd nt rs hTf
    split at h
    · rename_i hg
      exact (hT _ _ _ _ hTf).1 _ _ (adv_sound 2000 [.c cd] _ _ _ trivial (goF_sound hT n _ _ _ _ _ _ _ hg _ (Gives.of h)))
    · cases h
  · cases h
/-- What a call gives over that heap. -/
def evalH (T : Tab) (n f : Nat) (args : List AV) (Hin : Heap) (nx : Ctr) : Option (AV × Heap × Ctr) := match T f with
  | some (cd, nt, rs) => match goF T n 7 8 (adv 2000 7 [.c cd] (fillT args nt) Hin nx) with
    | some (t', H', nx', _) => match getsK rs t' H' (fun vs => some (retv vs)) none with
      | some r => some (r, sel (allKeys H') H', nx')
      | none => none
    | none => none
  | none => none
theorem evalH_calls (hT : TabOk P T) {n f : Nat} {args : List AV} {Hin : Heap} {nx : Ctr} {r : AV} {Hout : Heap} {nx' : Ctr} (h : evalH T n f args Hin nx = some (r, Hout, nx')) : HCalls P f args Hin nx r Hout nx' := by
  unfold evalH at h
  split at h
  · rename_i cd nt rs hTf
    split at h
    · rename_i t' H' nx1 c1 hg
      split at h
      · rename_i r1 hr
        simp only [Option.some.injEq, Prod.mk.injEq] at h
        obtain ⟨rfl, rfl, rfl⟩ := h
        exact (hT _ _ _ _ hTf).2 _ _ _ _ _ _ 7 (allKeys H') (adv_sound 2000 [.c cd] _ _ _ trivial (goF_sound hT n _ _ _ _ _ _ _ hg _ ⟨rfl, ⟨r1, hr, Wk1.refl r1⟩, rfl⟩))
      · cases h
    · cases h
  · cases h
/-- A table, row by row. -/
def tabOf : List (Nat × Cd × Nat × List RS) → Tab
  | [], _ => none
  | (f', x) :: l, f => if f' = f then some x else tabOf l f
theorem tab_nil : TabOk P (tabOf []) := fun f cd nt rs h => by simp [tabOf] at h
theorem tab_cons {f : Nat} {cd : Cd} {nt : Nat} {rs : List RS} {l : List (Nat × Cd × Nat × List RS)}
    (h1 : ∀ {args : List AV} {r : AV}, RunsX P 0 (Gives rs r) [.c cd] (args ++ List.replicate (nt - args.length) (.tup [])) [] zeroC → PCalls P f args r)
    (h2 : ∀ {args : List AV} {Hin Hout : Heap} {nx nx2 : Ctr} {r : AV} (φ : Nat) (ks : List (Nat × Nat)), RunsX P φ (GivesH ks rs r Hout nx2) [.c cd] (args ++ List.replicate (nt - args.length) (.tup [])) Hin nx → HCalls P f args Hin nx r Hout nx2)
    (h : TabOk P (tabOf l)) : TabOk P (tabOf ((f, cd, nt, rs) :: l)) := by
  intro f' cd' nt' rs' hf
  simp only [tabOf] at hf
  split at hf
  · rename_i he
    subst he
    simp only [Option.some.injEq, Prod.mk.injEq] at hf
    obtain ⟨rfl, rfl, rfl⟩ := hf
    exact ⟨fun _ _ h => h1 h, fun _ _ _ _ _ _ φ ks h => h2 φ ks h⟩
  · exact h _ _ _ _ hf
theorem tabOf_append (a b : List (Nat × Cd × Nat × List RS)) (f : Nat) : tabOf (a ++ b) f = match tabOf a f with | some x => some x | none => tabOf b f := by
  induction a with
  | nil => rfl
  | cons x a ih =>
    obtain ⟨f', x⟩ := x
    simp only [List.cons_append, tabOf]
    split
    · rfl
    · exact ih
theorem tab_append {a b : List (Nat × Cd × Nat × List RS)} (ha : TabOk P (tabOf a)) (hb : TabOk P (tabOf b)) : TabOk P (tabOf (a ++ b)) := by
  intro f cd nt rs h
  rw [tabOf_append] at h
  split at h
  · rename_i x hx; exact ha _ _ _ _ (hx.trans h)
  · exact hb _ _ _ _ h
end
end Go.Ev
/- The evaluator's steps, told so that a rewriter looks at what decides first, and at nothing else. -/
namespace Go.Ev
set_option linter.unusedVariables false
/-! ### what looks up: with proofs that are no rfl (a congruence wants them so) -/
theorem evs_n (t : List AV) : evs t [] = [] := of_eq_true (eq_true rfl)
theorem evs_c (t : List AV) (x : AR) (l : List AR) : evs t (x :: l) = ev t x :: evs t l := of_eq_true (eq_true rfl)
theorem ev_t (t : List AV) (i : Nat) : ev t (.t i) = getT t i := of_eq_true (eq_true rfl)
theorem ev_v (t : List AV) (v : AV) : ev t (.c v) = v := of_eq_true (eq_true rfl)
theorem getT_z (a : AV) (l : List AV) : getT (a :: l) 0 = a := of_eq_true (eq_true rfl)
theorem getT_s (a : AV) (l : List AV) (n : Nat) : getT (a :: l) (n + 1) = getT l n := of_eq_true (eq_true rfl)
theorem getT_8 (a b c d e f g h : AV) (l : List AV) (n : Nat) : getT (a :: b :: c :: d :: e :: f :: g :: h :: l) (n + 8) = getT l n := of_eq_true (eq_true rfl)
theorem gets_n (t : List AV) : gets t [] = [] := of_eq_true (eq_true rfl)
theorem gets_c (t : List AV) (i : Nat) (l : List Nat) : gets t (i :: l) = getT t i :: gets t l := of_eq_true (eq_true rfl)
theorem drop_z (l : List AV) : List.drop 0 l = l := of_eq_true (eq_true rfl)
theorem drop_s (a : AV) (l : List AV) (n : Nat) : List.drop (n + 1) (a :: l) = List.drop n l := of_eq_true (eq_true rfl)
/-- One operation, or the call that it is. -/
def execA (φ : Nat) (o : AK) (vs : List AV) (d : Option Nat) (l : List Op) (k : List It) (t : List AV) (H : Heap) (nx : Ctr) (go : List It → List AV → Heap → Ctr → Out) : Out :=
  match o, vs with
  | .call f mode, vs => match mode with
    | 2 => .call f 2 vs [] d l k t H nx
    | 4 => mapK (frzK 9 []) vs (fun vs' i => match i with | [] => .call f 0 vs' [] d l k t H nx | _ => .bad) .bad
    | m => mapK (frzK 9 H) vs (fun vs' ids => .call f m vs' ids d l k t H nx) .bad
  | .callv mode, v :: vs => match v with
    | .func f caps => match mode with
      | 2 => .call f 2 (vs ++ caps) [] d l k t H nx
      | 3 => .bad
      | m => mapK (frzK 9 H) (vs ++ caps) (fun vs' ids => .call f m vs' ids d l k t H nx) .bad
    | _ => .bad
  | ak, vs => opK ak vs H nx φ (fun v H nx => go (.ops l :: k) (put t d v) H nx) .bad
theorem ex_eq (φ : Nat) (d : Option Nat) (g : Option (Nat × Bool)) (o : AK) (x : List AR) (l : List Op) (k : List It) (t : List AV) (H : Heap) (nx : Ctr) (go : List It → List AV → Heap → Ctr → Out) : execK φ ⟨d, g, o, x⟩ l k t H nx go = execA φ o (evs t x) d l k t H nx go := rfl
/-- One of two, by a truth. -/
def condK (v : AV) (x y : Out) : Out := match v with
  | .bool b => if b = true then x else y
  | _ => .bad
theorem condK_bool (b : Bool) (x y : Out) : condK (.bool b) x y = if b = true then x else y := rfl
theorem condK_true (x y : Out) : condK (.bool true) x y = x := rfl
theorem condK_false (x y : Out) : condK (.bool false) x y = y := rfl
@[congr] theorem condK_cg {v v' : AV} {x y : Out} (h : v = v') : condK v x y = condK v' x y := by subst h; rfl
def guardK (v : AV) (w : Bool) (x y : Out) : Out := match v with
  | .bool b => if b = w then x else y
  | .tup [] => y
  | _ => .bad
theorem guardK_tup (w : Bool) (x y : Out) : guardK (.tup []) w x y = y := rfl
theorem guardK_bool (b w : Bool) (x y : Out) : guardK (.bool b) w x y = if b = w then x else y := rfl
theorem guardK_tt (x y : Out) : guardK (.bool true) true x y = x := rfl
theorem guardK_tf (x y : Out) : guardK (.bool true) false x y = y := rfl
theorem guardK_ft (x y : Out) : guardK (.bool false) true x y = y := rfl
theorem guardK_ff (x y : Out) : guardK (.bool false) false x y = x := rfl
@[congr] theorem guardK_cg {v v' : AV} {w : Bool} {x y : Out} (h : v = v') : guardK v w x y = guardK v' w x y := by subst h; rfl
section
variable (φ : Nat) (go : List It → List AV → Heap → Ctr → Out) (k : List It) (t : List AV) (H : Heap) (nx : Ctr)
theorem as_nil : advStep φ go [] t H nx = .fall t H nx := rfl
theorem as_ops0 : advStep φ go (.ops [] :: k) t H nx = go k t H nx := rfl
theorem as_op (d : Option Nat) (o : AK) (x : List AR) (l : List Op) : advStep φ go (.ops (⟨d, none, o, x⟩ :: l) :: k) t H nx = execA φ o (evs t x) d l k t H nx go := rfl
theorem as_opg (d : Option Nat) (j : Nat) (w : Bool) (o : AK) (x : List AR) (l : List Op) : advStep φ go (.ops (⟨d, some (j, w), o, x⟩ :: l) :: k) t H nx = guardK (ev t (.t j)) w (execA φ o (evs t x) d l k t H nx go) (go (.ops l :: k) (put t d (.tup [])) H nx) := rfl
theorem as_blk (i : Nat) (m : List Bool) : advStep φ go (.blk i m :: k) t H nx = go k (killM m t) H nx := rfl
theorem as_frz (is : List Nat) : advStep φ go (.frz is :: k) t H nx = mapK (frzK 9 H) (gets t is) (fun vs ids => go k (putAll t is vs) (kill ids H) nx) .bad := rfl
theorem as_lp (m : Mk) (b : Cd) : advStep φ go (.lp m b :: k) t H nx = .more (.lp m b :: k) (killM m.t t) (dropK φ m.h H) nx := rfl
theorem as_skip : advStep φ go (.c .skip :: k) t H nx = go k t H nx := rfl
theorem as_reg (ops : List Op) : advStep φ go (.c (.reg ops) :: k) t H nx = go (.ops ops :: k) t H nx := rfl
theorem as_regf (ops : List Op) (is : List Nat) : advStep φ go (.c (.regf ops is) :: k) t H nx = go (.ops ops :: .frz is :: k) t H nx := rfl
theorem as_seq (a b : Cd) : advStep φ go (.c (.seq a b) :: k) t H nx = go (.c a :: .c b :: k) t H nx := rfl
theorem as_cond (c : AR) (a b : Cd) : advStep φ go (.c (.cond c a b) :: k) t H nx = condK (ev t c) (go (.c a :: k) t H nx) (go (.c b :: k) t H nx) := rfl
theorem as_cblk (i : Nat) (m : List Bool) (b : Cd) : advStep φ go (.c (.blk i m b) :: k) t H nx = go (.c b :: .blk i m :: k) t H nx := rfl
theorem as_loop (m : Mk) (b : Cd) : advStep φ go (.c (.loop m b) :: k) t H nx = .more (.lp m b :: k) (killM m.t t) (dropK φ m.h H) nx := rfl
theorem as_exit (i : Nat) : advStep φ go (.c (.exit i) :: k) t H nx = exitK i k (fun k' m => go k' (killM m t) H nx) .bad := rfl
theorem as_ret : advStep φ go (.c .ret :: k) t H nx = .done t H nx := rfl
end
theorem pureK_nn {α : Type} (a b : α) : pureK .nils .nils a b = a := rfl
theorem pureK_nf {α : Type} (sz : Nat) (es : List AV) (c : Option Nat) (a b : α) : pureK .nils (.fz sz es c) a b = a := rfl
theorem pureK_fn {α : Type} (sz : Nat) (es : List AV) (c : Option Nat) (a b : α) : pureK (.fz sz es c) .nils a b = a := rfl
theorem pureK_ff {α : Type} (sz : Nat) (es : List AV) (c : Option Nat) (sz2 : Nat) (es2 : List AV) (c2 : Option Nat) (a b : α) : pureK (.fz sz es c) (.fz sz2 es2 c2) a b = a := rfl
/-- A list's first. -/
def headK {α : Type} (l : List AV) (ok : AV → α) (bad : α) : α := match l with
  | c :: _ => ok c
  | [] => bad
@[congr] theorem headK_cg {α : Type} {l l' : List AV} {ok : AV → α} {bad : α} (h : l = l') : headK l ok bad = headK l' ok bad := by subst h; rfl
theorem headK_cons {α : Type} (c : AV) (l : List AV) (ok : AV → α) (bad : α) : headK (c :: l) ok bad = ok c := rfl
def optK {α β : Type} (x : Option β) (ok : β → α) (bad : α) : α := match x with
  | some e => ok e
  | none => bad
@[congr] theorem optK_cg {α β : Type} {x x' : Option β} {ok : β → α} {bad : α} (h : x = x') : optK x ok bad = optK x' ok bad := by subst h; rfl
theorem optK_some {α β : Type} (e : β) (ok : β → α) (bad : α) : optK (some e) ok bad = ok e := rfl
def nilK {α β : Type} (i : List β) (ok bad : α) : α := match i with
  | [] => ok
  | _ => bad
@[congr] theorem nilK_cg {α β : Type} {i i' : List β} {ok bad : α} (h : i = i') : nilK i ok bad = nilK i' ok bad := by subst h; rfl
theorem nilK_nil {α β : Type} (ok bad : α) : nilK ([] : List β) ok bad = ok := rfl
/-- An element of a row, by an index. -/
def optI {α : Type} (es : List AV) (n : Int) (ok : AV → α) (bad : α) : α := optK es[n.toNat]? ok bad
theorem optI_of {α : Type} {es : List AV} {n : Int} {e : AV} (h : es[n.toNat]? = some e) (ok : AV → α) (bad : α) : optI es n ok bad = ok e := by simp only [optI, h, optK]
theorem optI_0 {α : Type} (a : AV) (l : List AV) (ok : AV → α) (bad : α) : optI (a :: l) 0 ok bad = ok a := rfl
theorem optI_1 {α : Type} (a b : AV) (l : List AV) (ok : AV → α) (bad : α) : optI (a :: b :: l) 1 ok bad = ok b := rfl
theorem optI_2 {α : Type} (a b c : AV) (l : List AV) (ok : AV → α) (bad : α) : optI (a :: b :: c :: l) 2 ok bad = ok c := rfl
theorem optI_3 {α : Type} (a b c d : AV) (l : List AV) (ok : AV → α) (bad : α) : optI (a :: b :: c :: d :: l) 3 ok bad = ok d := rfl
/-! ### one operation, its operands known -/
section
variable {α : Type} (H : Heap) (nx : Ctr) (φ : Nat) (ok : AV → Heap → Ctr → α) (bad : α)
theorem q_add (k : IntKind) (a b : Int) : opK (.bin .add) [.int k a, .int k b] H nx φ ok bad = ok (.int k (k.wrap (a + b))) H nx := by simp [opK, binK, intK]
theorem q_sub (k : IntKind) (a b : Int) : opK (.bin .sub) [.int k a, .int k b] H nx φ ok bad = ok (.int k (k.wrap (a - b))) H nx := by simp [opK, binK, intK]
theorem q_mul (k : IntKind) (a b : Int) : opK (.bin .mul) [.int k a, .int k b] H nx φ ok bad = ok (.int k (k.wrap (a * b))) H nx := by simp [opK, binK, intK]
theorem q_eql (k : IntKind) (a b : Int) : opK (.bin .eql) [.int k a, .int k b] H nx φ ok bad = ok (.bool (decide (a = b))) H nx := by simp [opK, binK, intK]
theorem q_neq (k : IntKind) (a b : Int) : opK (.bin .neq) [.int k a, .int k b] H nx φ ok bad = ok (.bool (!decide (a = b))) H nx := by simp [opK, binK, intK]
theorem q_lss (k : IntKind) (a b : Int) : opK (.bin .lss) [.int k a, .int k b] H nx φ ok bad = ok (.bool (decide (a < b))) H nx := by simp [opK, binK, intK]
theorem q_leq (k : IntKind) (a b : Int) : opK (.bin .leq) [.int k a, .int k b] H nx φ ok bad = ok (.bool (decide (a ≤ b))) H nx := by simp [opK, binK, intK]
theorem q_gtr (k : IntKind) (a b : Int) : opK (.bin .gtr) [.int k a, .int k b] H nx φ ok bad = ok (.bool (decide (b < a))) H nx := by simp [opK, binK, intK]
theorem q_geq (k : IntKind) (a b : Int) : opK (.bin .geq) [.int k a, .int k b] H nx φ ok bad = ok (.bool (decide (b ≤ a))) H nx := by simp [opK, binK, intK]
theorem q_quo (k : IntKind) (a b : Int) : opK (.bin .quo) [.int k a, .int k b] H nx φ ok bad = if b = 0 then bad else ok (.int k (k.wrap (a.tdiv b))) H nx := by simp [opK, binK, intK]
theorem q_rem (k : IntKind) (a b : Int) : opK (.bin .rem) [.int k a, .int k b] H nx φ ok bad = if b = 0 then bad else ok (.int k (a.tmod b)) H nx := by simp [opK, binK, intK]
theorem q_and (k : IntKind) (a b : Int) : opK (.bin .and) [.int k a, .int k b] H nx φ ok bad = ok (.int k (ibits .and k a b)) H nx := by simp [opK, binK, intK]
theorem q_or (k : IntKind) (a b : Int) : opK (.bin .or) [.int k a, .int k b] H nx φ ok bad = ok (.int k (ibits .or k a b)) H nx := by simp [opK, binK, intK]
theorem q_xor (k : IntKind) (a b : Int) : opK (.bin .xor) [.int k a, .int k b] H nx φ ok bad = ok (.int k (ibits .xor k a b)) H nx := by simp [opK, binK, intK]
theorem q_andNot (k : IntKind) (a b : Int) : opK (.bin .andNot) [.int k a, .int k b] H nx φ ok bad = ok (.int k (ibits .andNot k a b)) H nx := by simp [opK, binK, intK]
theorem q_shl (k k2 : IntKind) (a b : Int) : opK (.bin .shl) [.int k a, .int k2 b] H nx φ ok bad = if b < 0 then bad else ok (.int k (ishl k a b)) H nx := rfl
theorem q_shr (k k2 : IntKind) (a b : Int) : opK (.bin .shr) [.int k a, .int k2 b] H nx φ ok bad = if b < 0 then bad else ok (.int k (ishr k a b)) H nx := rfl
theorem q_seql (a b : ByteArray) : opK (.bin .eql) [.str a, .str b] H nx φ ok bad = ok (.bool (a.toList == b.toList)) H nx := rfl
theorem q_sneq (a b : ByteArray) : opK (.bin .neq) [.str a, .str b] H nx φ ok bad = ok (.bool !(a.toList == b.toList)) H nx := rfl
theorem q_slss (a b : ByteArray) : opK (.bin .lss) [.str a, .str b] H nx φ ok bad = ok (.bool (Op.bytesLess a.toList b.toList)) H nx := rfl
theorem q_sleq (a b : ByteArray) : opK (.bin .leq) [.str a, .str b] H nx φ ok bad = ok (.bool (Op.bytesLess a.toList b.toList || a.toList == b.toList)) H nx := rfl
theorem q_sgtr (a b : ByteArray) : opK (.bin .gtr) [.str a, .str b] H nx φ ok bad = ok (.bool !(Op.bytesLess a.toList b.toList || a.toList == b.toList)) H nx := rfl
theorem q_sgeq (a b : ByteArray) : opK (.bin .geq) [.str a, .str b] H nx φ ok bad = ok (.bool !(Op.bytesLess a.toList b.toList)) H nx := rfl
theorem q_sadd (a b : ByteArray) : opK (.bin .add) [.str a, .str b] H nx φ ok bad = if (a.size + b.size : Nat) ≤ 1099511627776 then ok (.str (a ++ b)) H nx else bad := rfl
theorem q_mv (x : AV) : opK .mv [x] H nx φ ok bad = ok x H nx := rfl
theorem q_pick (p : Bool) (x y : AV) : opK .pick [.bool p, x, y] H nx φ ok bad = if p = true then ok x H nx else ok y H nx := rfl
theorem q_eqb (a b : Bool) : opK (.eqb false) [.bool a, .bool b] H nx φ ok bad = ok (.bool (a == b)) H nx := rfl
theorem q_neb (a b : Bool) : opK (.eqb true) [.bool a, .bool b] H nx φ ok bad = ok (.bool (!(a == b))) H nx := rfl
theorem q_eqp (x : AV) : opK (.eqp false) [x, .nilp] H nx φ ok bad = nilpK x (fun b => ok (.bool b) H nx) bad := rfl
theorem q_neqp (x : AV) : opK (.eqp true) [x, .nilp] H nx φ ok bad = nilpK x (fun b => ok (.bool (!b)) H nx) bad := rfl
theorem q_eqs (x : AV) : opK (.eqs false) [x, .nils] H nx φ ok bad = nilsK x (fun b => ok (.bool b) H nx) bad := rfl
theorem q_neqs (x : AV) : opK (.eqs true) [x, .nils] H nx φ ok bad = nilsK x (fun b => ok (.bool (!b)) H nx) bad := rfl
theorem q_eqf (x : AV) : opK (.eqf false) [x, .nilf] H nx φ ok bad = nilfK x (fun b => ok (.bool b) H nx) bad := rfl
theorem q_neqf (x : AV) : opK (.eqf true) [x, .nilf] H nx φ ok bad = nilfK x (fun b => ok (.bool (!b)) H nx) bad := rfl
theorem q_eqi (x : AV) : opK (.eqi false) [x, .nili] H nx φ ok bad = niliK x (fun b => ok (.bool b) H nx) bad := rfl
theorem q_neqi (x : AV) : opK (.eqi true) [x, .nili] H nx φ ok bad = niliK x (fun b => ok (.bool (!b)) H nx) bad := rfl
theorem q_not (b : Bool) : opK .not [.bool b] H nx φ ok bad = ok (.bool (!b)) H nx := rfl
theorem q_neg (k : IntKind) (n : Int) : opK .neg [.int k n] H nx φ ok bad = ok (.int k (k.wrap (0 - n))) H nx := rfl
theorem q_cpl (k : IntKind) (n : Int) : opK .cpl [.int k n] H nx φ ok bad = ok (.int k (ibits .xor k (if k.signed then -1 else k.max) n)) H nx := rfl
theorem q_conv (k k2 : IntKind) (n : Int) : opK (.conv k) [.int k2 n] H nx φ ok bad = ok (.int k (k.wrap n)) H nx := rfl
theorem q_s2b (s : ByteArray) : opK .s2b [.str s] H nx φ ok bad = if s.size ≤ 1099511627776 then ok (.fz 1 (avBytes s) none) H nx else bad := rfl
theorem q_b2s0 : opK .b2s [.nils] H nx φ ok bad = ok (.str ⟨#[]⟩) H nx := rfl
theorem q_b2s1 (sz : Nat) (es : List AV) (c : Option Nat) : opK .b2s [.fz sz es c] H nx φ ok bad = if sz = 1 ∧ isBytes es = true then ok (.str ⟨(bytesOf es).toArray⟩) H nx else bad := rfl
theorem q_b2s2 (f d g sz off len : Nat) : opK .b2s [.sl f d g sz off len] H nx φ ok bad = getB H f d g (fun cs => if sz = 1 ∧ off + len ≤ cs.length ∧ isBytes ((cs.drop off).take len) = true then ok (.str ⟨(bytesOf ((cs.drop off).take len)).toArray⟩) H nx else bad) bad := rfl
theorem q_s2s (f d g sz off len : Nat) : opK .s2s [.sl f d g sz off len] H nx φ ok bad = getB H f d g (fun cs => if sz = 1 ∧ 0 < len ∧ off + len ≤ cs.length ∧ isBytes ((cs.drop off).take len) = true then ok (.fz 1 ((cs.drop off).take len) none) (kill [(f, d)] H) nx else bad) bad := rfl
theorem q_box (x : AV) : opK .box [x] H nx φ ok bad = if scal1 x = true ∨ (cells x).length ≠ 0 then ok (.ro (cells x)) H nx else bad := rfl
theorem q_boxm (key : Nat) (x : AV) : opK (.boxm key) [x] H nx φ ok bad = if (cells x).length ≠ 0 ∧ (cells x).all scal1 = true then ok (.ptr φ key (nx key) 0) (setB H φ key (nx key) (some (cells x))) (bump nx key) else bad := rfl
theorem q_new (z : List AV) (key : Nat) : opK (.new z key) [] H nx φ ok bad = ok (.ptr φ key (nx key) 0) (setB H φ key (nx key) (some z)) (bump nx key) := rfl
theorem q_ld1 (c : AV) (cs : List AV) : opK .ld1 [.ro (c :: cs)] H nx φ ok bad = ok c H nx := rfl
theorem q_ld1r (c : AV) (cs : List AV) : opK .ld1r [.ro (c :: cs)] H nx φ ok bad = ok c H nx := rfl
theorem q_ld1p (f d g off : Nat) : opK .ld1 [.ptr f d g off] H nx φ ok bad = getB H f d g (fun cs => headK (cs.drop off) (fun c => ok c H nx) bad) bad := rfl
theorem q_ldn (n : Nat) (cs : List AV) : opK (.ldn n) [.ro cs] H nx φ ok bad = if n ≤ cs.length then ok (.agg (cs.take n)) H nx else bad := rfl
theorem q_ldnr (n : Nat) (cs : List AV) : opK (.ldnr n) [.ro cs] H nx φ ok bad = if n ≤ cs.length then ok (.agg (cs.take n)) H nx else bad := rfl
theorem q_ldnp (n f d g off : Nat) : opK (.ldn n) [.ptr f d g off] H nx φ ok bad = getB H f d g (fun cs => if off + n ≤ cs.length then ok (.agg ((cs.drop off).take n)) H nx else bad) bad := rfl
theorem q_ldk (key f d g off : Nat) : opK (.ldk key) [.ptr f d g off] H nx φ ok bad = if d = key ∧ f = φ then (getB H f d g (fun cs => headK (cs.drop off) (fun c => ok c H nx) bad) bad) else bad := rfl
theorem q_ldnk (n key f d g off : Nat) : opK (.ldnk n key) [.ptr f d g off] H nx φ ok bad = if d = key ∧ f = φ then (getB H f d g (fun cs => if off + n ≤ cs.length then ok (.agg ((cs.drop off).take n)) H nx else bad) bad) else bad := rfl
theorem q_st (n f d g off : Nat) (v : AV) : opK (.st n) [.ptr f d g off, v] H nx φ ok bad = getB H f d g (fun cs => if (cells v).length = n ∧ (cells v).all scal1 = true ∧ off + n ≤ cs.length then ok .any (setB H f d g (some (cs.take off ++ cells v ++ cs.drop (off + n)))) nx else bad) bad := rfl
theorem q_stk (n key f d g off : Nat) (v : AV) : opK (.stk n key) [.ptr f d g off, v] H nx φ ok bad = if d = key ∧ f = φ then (getB H f d g (fun cs => if (cells v).length = n ∧ (cells v).all scal1 = true ∧ off + n ≤ cs.length then ok .any (setB H f d g (some (cs.take off ++ cells v ++ cs.drop (off + n)))) nx else bad) bad) else bad := rfl
theorem q_stf (n f d g off : Nat) (v : AV) : opK (.stf n) [.ptr f d g off, v] H nx φ ok bad = frzK 9 H v (fun v2 ids => getB (kill ids H) f d g (fun cs => if (cells v2).length = n ∧ (cells v2).all scal1 = true ∧ off + n ≤ cs.length then ok .any (setB (kill ids H) f d g (some (cs.take off ++ cells v2 ++ cs.drop (off + n)))) nx else bad) bad) bad := rfl
theorem q_slcx (sz f d g sz2 off len : Nat) (lo hi mx : Bool) (bs : List AV) : opK (.slcx sz lo hi mx) (.sl f d g sz2 off len :: bs) H nx φ ok bad = if sz2 = sz then getB H f d g (fun cs => cutK len (max len (cs.length / sz - off)) lo hi mx bs (fun l h _ => if mx = true then ok .any H nx else ok (.sl f d g sz (off + l) (h - l)) H nx) bad) bad else bad := rfl
theorem q_clr (sz f d g sz2 off len : Nat) : opK (.clr sz) [.sl f d g sz2 off len] H nx φ ok bad = if sz2 = sz ∧ 0 < len then getB H f d g (fun cs => if (off + len) * sz ≤ cs.length then ok .any (setB H f d g (some (cs.take (off * sz)))) nx else bad) bad else bad := rfl
theorem q_fa (off : Nat) (cs : List AV) : opK (.fa off) [.ro cs] H nx φ ok bad = if off < cs.length then ok (.ro (cs.drop off)) H nx else bad := rfl
theorem q_fap (off f d g o : Nat) : opK (.fa off) [.ptr f d g o] H nx φ ok bad = ok (.ptr f d g (o + off)) H nx := rfl
theorem q_fld1 (off : Nat) (cs : List AV) : opK (.fld1 off) [.agg cs] H nx φ ok bad = headK (cs.drop off) (fun c => ok c H nx) bad := rfl
theorem q_fldn (off n : Nat) (cs : List AV) : opK (.fldn off n) [.agg cs] H nx φ ok bad = if off + n ≤ cs.length then ok (.agg ((cs.drop off).take n)) H nx else bad := rfl
theorem q_ixS (sz sz2 : Nat) (es : List AV) (c : Option Nat) (k : IntKind) (n : Int) : opK (.ixS sz) [.fz sz2 es c, .int k n] H nx φ ok bad = if n < 0 then bad else if sz2 = sz then optI es n (fun e => ok (.ro (cells e)) H nx) bad else bad := by simp only [opK]; unfold optI optK; split <;> (try rfl); split <;> (try rfl); cases es[n.toNat]? <;> rfl
theorem q_ixSl (sz f d g sz2 off len : Nat) (k : IntKind) (n : Int) : opK (.ixS sz) [.sl f d g sz2 off len, .int k n] H nx φ ok bad = if n < 0 then bad else if sz2 = sz ∧ n.toNat < len then ok (.ptr f d g ((off + n.toNat) * sz)) H nx else bad := rfl
theorem q_ixP (len sz : Nat) (cs : List AV) (k : IntKind) (n : Int) : opK (.ixP len sz) [.ro cs, .int k n] H nx φ ok bad = if 0 ≤ n ∧ n < (len : Int) then if n.toNat * sz < cs.length then ok (.ro (cs.drop (n.toNat * sz))) H nx else bad else bad := rfl
theorem q_ixPp (len sz f d g o : Nat) (k : IntKind) (n : Int) : opK (.ixP len sz) [.ptr f d g o, .int k n] H nx φ ok bad = if 0 ≤ n ∧ n < (len : Int) then ok (.ptr f d g (o + n.toNat * sz)) H nx else bad := rfl
theorem q_ixT (s : ByteArray) (k : IntKind) (n : Int) : opK .ixT [.str s, .int k n] H nx φ ok bad = if n < 0 then bad else optK s.data.toList[n.toNat]? (fun b => ok (.int .u8 b.toNat) H nx) bad := by simp only [opK]; unfold optK; split <;> (try rfl); cases s.data.toList[n.toNat]? <;> rfl
theorem q_ixA1 (len : Nat) (cs : List AV) (k : IntKind) (n : Int) : opK (.ixA1 len) [.agg cs, .int k n] H nx φ ok bad = if 0 ≤ n ∧ n < (len : Int) then optI cs n (fun c => ok c H nx) bad else bad := by simp only [opK]; unfold optI optK; split <;> (try rfl); cases cs[n.toNat]? <;> rfl
theorem q_slc0 (sz : Nat) (lo hi mx : Bool) (bs : List AV) : opK (.slc sz lo hi mx) (.nils :: bs) H nx φ ok bad = cutK 0 0 lo hi mx bs (fun l h m => if l = 0 ∧ h = 0 ∧ (m = none ∨ m = some 0) then ok .nils H nx else bad) bad := rfl
theorem q_slc1 (sz sz2 : Nat) (es : List AV) (c : Option Nat) (lo hi mx : Bool) (bs : List AV) : opK (.slc sz lo hi mx) (.fz sz2 es c :: bs) H nx φ ok bad = if sz2 = sz then cutK es.length es.length lo hi mx bs (fun l h m => ok (.fz sz ((es.take h).drop l) (capOf es c m l)) H nx) bad else bad := rfl
theorem q_slc2 (sz f d g sz2 off len : Nat) (lo hi mx : Bool) (bs : List AV) : opK (.slc sz lo hi mx) (.sl f d g sz2 off len :: bs) H nx φ ok bad = if sz2 = sz ∧ mx = false then cutK len len lo hi mx bs (fun l h _ => ok (.sl f d g sz (off + l) (h - l)) H nx) bad else bad := rfl
theorem q_slcT (s : ByteArray) (lo hi : Bool) (bs : List AV) : opK (.slcT lo hi) (.str s :: bs) H nx φ ok bad = cutK s.size s.size lo hi false bs (fun l h _ => ok (.str (s.extract l h)) H nx) bad := rfl
theorem q_lenT (s : ByteArray) : opK .lenT [.str s] H nx φ ok bad = ok (.int .i64 s.size) H nx := rfl
theorem q_len0 : opK .len [.nils] H nx φ ok bad = ok (.int .i64 0) H nx := rfl
theorem q_len1 (sz : Nat) (es : List AV) (c : Option Nat) : opK .len [.fz sz es c] H nx φ ok bad = ok (.int .i64 es.length) H nx := rfl
theorem q_len2 (f d g sz off len : Nat) : opK .len [.sl f d g sz off len] H nx φ ok bad = ok (.int .i64 len) H nx := rfl
theorem q_app (sz by_ key : Nat) (x y : AV) : opK (.app sz by_ key) [x, y] H nx φ ok bad = appK sz by_ key x y H nx φ ok bad := rfl
theorem q_apn (sz by_ key : Nat) (x y : AV) : opK (.apn sz by_ key) [x, y] H nx φ ok bad = pureK x y (appK sz by_ key x y H nx φ ok bad) bad := rfl
theorem q_apps (key : Nat) (x : AV) (s : ByteArray) : opK (.apps key) [x, .str s] H nx φ ok bad = appK 1 1 key x (.fz 1 (avBytes s) none) H nx φ ok bad := rfl
theorem q_lit (sz len : Nat) (xs : List AV) : opK (.lit sz len) xs H nx φ ok bad = if xs.length = len ∧ allSz sz xs = true then mapK (frzK 9 H) xs (fun xs2 i => nilK i (ok (.fz sz xs2 (some len)) H nx) bad) bad else bad := by simp only [opK]; split <;> (try rfl); congr 1; funext a i; cases i <;> rfl
theorem q_litr (sz len : Nat) (xs : List AV) : opK (.litr sz len) xs H nx φ ok bad = if xs.length = len ∧ allSz sz xs = true then mapK (frzK 9 []) xs (fun xs2 i => nilK i (ok (.fz sz xs2 (some len)) H nx) bad) bad else bad := by simp only [opK]; split <;> (try rfl); congr 1; funext a i; cases i <;> rfl
theorem q_litm (sz len key : Nat) (xs : List AV) : opK (.litm sz len key) xs H nx φ ok bad = if xs.length = len ∧ allSz sz xs = true then ok (.sl φ key (nx key) sz 0 len) (setB H φ key (nx key) (some (catCells xs))) (bump nx key) else bad := rfl
theorem q_bld (z : List AV) (ps : List (Nat × Nat)) (xs : List AV) : opK (.bld z ps) xs H nx φ ok bad = fillK ps xs z (fun cs => ok (.agg cs) H nx) bad := rfl
theorem q_mk (z : AV) (by_ key : Nat) (n : Int) : opK (.mk z by_ key) [.int .i64 n] H nx φ ok bad = if 0 ≤ n ∧ n * by_ ≤ 1099511627776 ∧ n ≤ 1099511627776 then ok (.sl φ key (nx key) 1 0 n.toNat) (setB H φ key (nx key) (some (List.replicate n.toNat z))) (bump nx key) else bad := rfl
theorem q_ext (i : Nat) (vs : List AV) : opK (.ext i) [.tup vs] H nx φ ok bad = headK (vs.drop i) (fun v => ok v H nx) bad := rfl
theorem q_nckp (f d g o : Nat) : opK .nck [.ptr f d g o] H nx φ ok bad = ok (.ptr f d g o) H nx := rfl
theorem q_nckr (cs : List AV) : opK .nck [.ro cs] H nx φ ok bad = ok (.ro cs) H nx := rfl
theorem q_nckf (f : Nat) (cs : List AV) : opK .nck [.func f cs] H nx φ ok bad = ok (.func f cs) H nx := rfl
theorem q_mn (k k2 : IntKind) (a b : Int) : opK .mn [.int k a, .int k2 b] H nx φ ok bad = ok (.int k (if b < a then b else a)) H nx := rfl
theorem q_mx (k k2 : IntKind) (a b : Int) : opK .mx [.int k a, .int k2 b] H nx φ ok bad = ok (.int k (if b > a then b else a)) H nx := rfl
theorem q_mkf (f : Nat) (cs : List AV) : opK (.mkf f) cs H nx φ ok bad = ok (.func f cs) H nx := rfl
theorem q_ifc (t : Nat) (x : AV) : opK (.ifc t) [x] H nx φ ok bad = ok (.ifc t x) H nx := rfl
end
end Go.Ev
/- The numbers of the functions of this seat, by name; printed by a program of mine. -/
namespace Go.Proofs.Ytmokhopjnjecbac
abbrev F_law06_StampKnows : Nat := 3
abbrev F_law09_JournalOdd : Nat := 4
abbrev F_law09_JournalKeeps : Nat := 5
abbrev F_law09_JournalCrashes : Nat := 6
abbrev F_law18_MsgHears : Nat := 7
abbrev F_law18_MsgTurned : Nat := 8
abbrev F_law07_VersionOrder : Nat := 9
abbrev F_z18z : Nat := 10
abbrev F_law18_MsgBack : Nat := 11
abbrev F_law17_MerkleMakes : Nat := 12
abbrev F_law06_awake : Nat := 13
abbrev F_stamp_Seed : Nat := 14
abbrev F_stamp_Tell : Nat := 15
abbrev F_stamp_Fork : Nat := 16
abbrev F_stamp_Join : Nat := 17
abbrev F_law06_and : Nat := 18
abbrev F_stamp_Hear : Nat := 19
abbrev F_law06_sound : Nat := 20
abbrev F_law09_awake : Nat := 21
abbrev F_disk_New : Nat := 22
abbrev F_disk_Disk_Append : Nat := 23
abbrev F_disk_Disk_Sync : Nat := 24
abbrev F_journal_Open : Nat := 25
abbrev F_journal_Journal_Generation : Nat := 26
abbrev F_law09_holds : Nat := 27
abbrev F_journal_Journal_Size : Nat := 28
abbrev F_law09_few : Nat := 29
abbrev F_law09_act : Nat := 30
abbrev F_disk_Disk_Clone : Nat := 31
abbrev F_disk_Disk_Fuse : Nat := 32
abbrev F_disk_Disk_Lost : Nat := 33
abbrev F_disk_Disk_Restart : Nat := 34
abbrev F_law18_awake : Nat := 35
abbrev F_ref01_Frame : Nat := 36
abbrev F_msg_Decode : Nat := 37
abbrev F_msg_Encode : Nat := 38
abbrev F_law18_formed : Nat := 39
abbrev F_law18_Few : Nat := 40
abbrev F_law07_awake : Nat := 41
abbrev F_law07_Few : Nat := 42
abbrev F_z22z : Nat := 43
abbrev F_version_SameAll : Nat := 44
abbrev F_ref04_One : Nat := 45
abbrev F_z20z : Nat := 46
abbrev F_z26z : Nat := 47
abbrev F_z21z : Nat := 48
abbrev F_ref12_Siblings : Nat := 49
abbrev F_msg_Formed : Nat := 50
abbrev F_msg_Same : Nat := 51
abbrev F_law17_awake : Nat := 52
abbrev F_law15_Few : Nat := 53
abbrev F_merkle_Make : Nat := 54
abbrev F_store_RightEntries : Nat := 55
abbrev F_law17_sums : Nat := 56
abbrev F_stamp_Right : Nat := 57
abbrev F_ident_All : Nat := 58
abbrev F_event_Tell : Nat := 59
abbrev F_ident_Clone : Nat := 60
abbrev F_ident_Split : Nat := 61
abbrev F_event_Clone : Nat := 62
abbrev F_ident_Join : Nat := 63
abbrev F_event_Join : Nat := 64
abbrev F_law06_has : Nat := 65
abbrev F_event_Right : Nat := 66
abbrev F_ref04_Row : Nat := 67
abbrev F_event_Leq : Nat := 68
abbrev F_disk_Disk_there : Nat := 69
abbrev F_disk_Disk_Room : Nat := 70
abbrev F_disk_Disk_wait : Nat := 71
abbrev F_bytes_Clone : Nat := 72
abbrev F_disk_Disk_gone : Nat := 73
abbrev F_disk_Disk_burns : Nat := 74
abbrev F_disk_Disk_now : Nat := 75
abbrev F_journal_check : Nat := 76
abbrev F_journal_read : Nat := 77
abbrev F_journal_first : Nat := 78
abbrev F_journal_Journal_half : Nat := 79
abbrev F_journal_Journal_begin : Nat := 80
abbrev F_journal_Journal_renew : Nat := 81
abbrev F_ref08_SameBytes : Nat := 82
abbrev F_journal_Journal_Renew : Nat := 83
abbrev F_journal_Journal_Write : Nat := 84
abbrev F_slices_Clone_disk_deed : Nat := 85
abbrev F_disk_modulo : Nat := 86
abbrev F_disk_content_with : Nat := 87
abbrev F_ref01_Wide : Nat := 88
abbrev F_ref01_CRC : Nat := 89
abbrev F_frame_Scan : Nat := 90
abbrev F_codec_NewIn : Nat := 91
abbrev F_msg_read : Nat := 92
abbrev F_codec_In_Done : Nat := 93
abbrev F_codec_Out_Num : Nat := 94
abbrev F_version_Put : Nat := 95
abbrev F_msg_putKeys : Nat := 96
abbrev F_codec_Out_End : Nat := 97
abbrev F_frame_Frame : Nat := 98
abbrev F_z25z : Nat := 99
abbrev F_z23z : Nat := 100
abbrev F_law05_Few : Nat := 101
abbrev F_version_one : Nat := 102
abbrev F_z13z : Nat := 103
abbrev F_z22z_1 : Nat := 104
abbrev F_version_named : Nat := 105
abbrev F_z22z_2 : Nat := 106
abbrev F_version_behind : Nat := 107
abbrev F_version_Clone : Nat := 108
abbrev F_z16z : Nat := 109
abbrev F_version_order : Nat := 110
abbrev F_z14z : Nat := 111
abbrev F_version_Same : Nat := 112
abbrev F_z20z_1 : Nat := 113
abbrev F_ref04_VBehind : Nat := 114
abbrev F_ref04_less : Nat := 115
abbrev F_ref04_VSame : Nat := 116
abbrev F_msg_lean : Nat := 117
abbrev F_msg_keys : Nat := 118
abbrev F_msg_rise : Nat := 119
abbrev F_slices_Equal_string : Nat := 120
abbrev F_slices_Equal_int : Nat := 121
abbrev F_slices_EqualFunc_store_Entry : Nat := 122
abbrev F_msg_sameEntry : Nat := 123
abbrev F_slices_SortedFunc_store_Entry : Nat := 124
abbrev F_slices_Values_store_Entry : Nat := 125
abbrev F_merkle_Make_1 : Nat := 126
abbrev F_cmp_Compare_string : Nat := 127
abbrev F_merkle_Leaf : Nat := 128
abbrev F_codec_Out_Text : Nat := 129
abbrev F_sum_CRC : Nat := 130
abbrev F_sum_Mix : Nat := 131
abbrev F_ref01_Text : Nat := 132
abbrev F_ref01_Mix : Nat := 133
abbrev F_ident_Right : Nat := 134
abbrev F_ident_Nothing : Nat := 135
abbrev F_event_fill : Nat := 136
abbrev F_event_Same : Nat := 137
abbrev F_event_grow : Nat := 138
abbrev F_event_told : Nat := 139
abbrev F_ident_shallow : Nat := 140
abbrev F_ident_clone : Nat := 141
abbrev F_ident_split : Nat := 142
abbrev F_z24z : Nat := 143
abbrev F_z27z : Nat := 144
abbrev F_ident_Apart : Nat := 145
abbrev F_ident_join : Nat := 146
abbrev F_event_join : Nat := 147
abbrev F_z28z : Nat := 148
abbrev F_event_short : Nat := 149
abbrev F_event_leq : Nat := 150
abbrev F_disk_Disk_Read : Nat := 151
abbrev F_journal_number : Nat := 152
abbrev F_journal_head : Nat := 153
abbrev F_disk_Disk_Capacity : Nat := 154
abbrev F_disk_Disk_Empty : Nat := 155
abbrev F_journal_Journal_lay : Nat := 156
abbrev F_slices_Concat_byte : Nat := 157
abbrev F_frame_first : Nat := 158
abbrev F_codec_In_Count : Nat := 159
abbrev F_codec_In_Num : Nat := 160
abbrev F_version_Get : Nat := 161
abbrev F_msg_getKeys : Nat := 162
abbrev F_msg_entries : Nat := 163
abbrev F_codec_Out_Bool : Nat := 164
abbrev F_event_Put : Nat := 165
abbrev F_frame_made : Nat := 166
abbrev F_ref04_ERight : Nat := 167
abbrev F_z29z : Nat := 168
abbrev F_version_one_1 : Nat := 169
abbrev F_z15z : Nat := 170
abbrev F_z10z : Nat := 171
abbrev F_math_bits_Len : Nat := 172
abbrev F_z33z : Nat := 173
abbrev F_cmp_Compare_int : Nat := 174
abbrev F_z19z : Nat := 175
abbrev F_z34z : Nat := 176
abbrev F_ref04_Leq : Nat := 177
abbrev F_z30z : Nat := 178
abbrev F_z31z : Nat := 179
abbrev F_msg_lean_1 : Nat := 180
abbrev F_slices_Contains_int : Nat := 181
abbrev F_slices_Collect_store_Entry : Nat := 182
abbrev F_slices_SortFunc_store_Entry : Nat := 183
abbrev F_slices_Values_store_Entry_store_Entry_1 : Nat := 184
abbrev F_cmp_isNaN_string : Nat := 185
abbrev F_sum_add : Nat := 186
abbrev F_ref01_Num : Nat := 187
abbrev F_ident_count : Nat := 188
abbrev F_ident_short : Nat := 189
abbrev F_ident_leaf : Nat := 190
abbrev F_event_greatest : Nat := 191
abbrev F_event_leaf : Nat := 192
abbrev F_event_node : Nat := 193
abbrev F_z35z : Nat := 194
abbrev F_event_lift : Nat := 195
abbrev F_ident_node : Nat := 196
abbrev F_ident_apart : Nat := 197
abbrev F_event_half : Nat := 198
abbrev F_journal_wide : Nat := 199
abbrev F_slices_Grow_byte : Nat := 200
abbrev F_bytes_Equal : Nat := 201
abbrev F_codec_In_fail : Nat := 202
abbrev F_codec_In_Left : Nat := 203
abbrev F_version_One : Nat := 204
abbrev F_version_Spoil : Nat := 205
abbrev F_codec_In_Text : Nat := 206
abbrev F_event_put : Nat := 207
abbrev F_z32z : Nat := 208
abbrev F_ref04_ecount : Nat := 209
abbrev F_z3z : Nat := 210
abbrev F_z8z : Nat := 211
abbrev F_z4z : Nat := 212
abbrev F_z6z : Nat := 213
abbrev F_z5z : Nat := 214
abbrev F_z0z : Nat := 215
abbrev F_z1z : Nat := 216
abbrev F_z7z : Nat := 217
abbrev F_math_bits_Len32 : Nat := 218
abbrev F_math_bits_Len64 : Nat := 219
abbrev F_cmp_isNaN_int : Nat := 220
abbrev F_cmp_isNaN_int64 : Nat := 221
abbrev F_slices_Index_int : Nat := 222
abbrev F_slices_AppendSeq_store_Entry : Nat := 223
abbrev F_slices_pdqsortCmpFunc_store_Entry : Nat := 224
abbrev F_codec_In_Bool : Nat := 225
abbrev F_event_Get : Nat := 226
abbrev F_codec_In_Bad : Nat := 227
abbrev F_z9z : Nat := 228
abbrev F_z17z : Nat := 229
abbrev F_slices_xorshift_Next : Nat := 230
abbrev F_z2z : Nat := 231
abbrev F_z11z : Nat := 232
abbrev F_slices_insertionSortCmpFunc_store_Entry : Nat := 233
abbrev F_slices_heapSortCmpFunc_store_Entry : Nat := 234
abbrev F_slices_breakPatternsCmpFunc_store_Entry : Nat := 235
abbrev F_slices_choosePivotCmpFunc_store_Entry : Nat := 236
abbrev F_slices_reverseRangeCmpFunc_store_Entry : Nat := 237
abbrev F_slices_partialInsertionSortCmpFunc_store_Entry : Nat := 238
abbrev F_slices_partitionEqualCmpFunc_store_Entry : Nat := 239
abbrev F_slices_partitionCmpFunc_store_Entry : Nat := 240
abbrev F_event_get : Nat := 241
abbrev F_z12z : Nat := 242
abbrev F_slices_siftDownCmpFunc_store_Entry : Nat := 243
abbrev F_slices_medianAdjacentCmpFunc_store_Entry : Nat := 244
abbrev F_slices_medianCmpFunc_store_Entry : Nat := 245
abbrev F_slices_order2CmpFunc_store_Entry : Nat := 246
abbrev F_api_Errno_Error : Nat := 262
end Go.Proofs.Ytmokhopjnjecbac
