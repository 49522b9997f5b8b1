/- Regions: whatever order is drawn, what the text's order gives. Calls by contract. -/
import Derived.Test.YtmokhopjnjecbaaEvK
namespace Go.Ev
open Go.RowKit
set_option linter.unusedVariables false
set_option linter.unusedSimpArgs false
set_option linter.unusedSectionVars false

def fnOk (P : Program) (f : Nat) : Bool := match P.funcs[f]? with | some fn => fn.name != "runtime.NumGoroutine" && fn.body.isSome | none => false

/-- Called with these values the function gives that one, and writes nothing that was there. -/
structure PCalls (P : Program) (f : Nat) (args : List AV) (r : AV) : Prop where
  ok : fnOk P f = true
  calls : ∀ (X : Nat → Prop) (w : World) (vals : List Value), (∀ b, X b → b < w.heap.size) → Reps none4 X zeroC w true args vals →
    Calls P f vals.toArray w fun e w' => ∃ v, e = .returned v ∧ Below w.heap.size w w' ∧ Rep none4 X zeroC w' true r v

/-- The blocks of a heap's entries. -/
def Own (H : Heap) (bm : Nat → Nat → Nat) : Nat → Prop := fun b => ∃ f d g cs, find H f d = some (g, some cs) ∧ b = bm f d
/-- Called with these values over this heap the function gives that one and that heap, and writes nothing else that was there. -/
structure HCalls (P : Program) (f : Nat) (args : List AV) (Hin : Heap) (nx : Ctr) (r : AV) (Hout : Heap) (nx' : Ctr) : Prop where
  ok : fnOk P f = true
  calls : ∀ (X : Nat → Prop) (w : World) (bm : Nat → Nat → Nat) (vals : List Value), Rel w (Own Hin bm) X bm Hin nx w → Reps (Lof Hin bm) X nx w false args vals →
    Calls P f vals.toArray w fun e w' => ∃ v bm', e = .returned v ∧ Rel w (Own Hin bm) X bm' Hout nx' w' ∧ Move (Lof Hin bm) nx w (Lof Hout bm') nx' w' ∧ Rep (Lof Hout bm') X nx' w' false r v
/-- The entries of these names; and what is left without them. -/
def sel : List (Nat × Nat) → Heap → Heap
  | [], _ => []
  | (f, d) :: ks, H => match find H f d with
    | some (g, b) => (f, d, g, b) :: sel ks H
    | none => sel ks H
def rest (ks : List (Nat × Nat)) : Heap → Heap
  | [] => []
  | (f, d, g, b) :: H => if keyIn ks f d = true then rest ks H else (f, d, g, b) :: rest ks H
/-- The value names no live entry of that heap. -/
def nameFree : Nat → Heap → AV → Bool
  | 0, _, _ => false
  | n + 1, H, v => match v with
    | .ptr f d g _ => (match find H f d with | some (g', some _) => g' != g | _ => true)
    | .sl f d g _ _ _ => (match find H f d with | some (g', some _) => g' != g | _ => true)
    | .ro cs => cs.all (nameFree n H)
    | .agg cs => cs.all (nameFree n H)
    | .tup cs => cs.all (nameFree n H)
    | .func _ cs => cs.all (nameFree n H)
    | .ifc _ v => nameFree n H v
    | _ => true
def heapFree (Hr : Heap) : Heap → Bool
  | [] => true
  | (_, _, _, some cs) :: H => cs.all (nameFree 9 Hr) && heapFree Hr H
  | (_, _, _, none) :: H => heapFree Hr H

inductive OpStep (P : Program) (φ : Nat) (o : Op) (t : List AV) (H : Heap) (nx : Ctr) : List AV → Heap → Ctr → Prop
  | skip {j : Nat} {w b : Bool} (hg : o.g = some (j, w)) (hb : getT t j = .bool b) (hne : b ≠ w) : OpStep P φ o t H nx (put t o.d (.tup [])) H nx
  | skipU {j : Nat} {w : Bool} (hg : o.g = some (j, w)) (hb : getT t j = .tup []) : OpStep P φ o t H nx (put t o.d (.tup [])) H nx
  | exec {v : AV} {H' : Heap} {nx' : Ctr} (hg : ∀ j w, o.g = some (j, w) → getT t j = .bool w) (h : opD o.o (evs t o.x) H nx φ = some (v, H', nx')) : OpStep P φ o t H nx (put t o.d v) H' nx'
  | call0 {f : Nat} {vs : List AV} {ids : List (Nat × Nat)} {r : AV} (hg : ∀ j w, o.g = some (j, w) → getT t j = .bool w) (ho : o.o = .call f 0)
      (hm : mapK (frzK 9 H) (evs t o.x) (fun v i => some (v, i)) none = some (vs, ids)) (hp : PCalls P f vs r) (hs : ids = [] ∨ scal r = true) : OpStep P φ o t H nx (put t o.d r) H nx
  | call4 {f : Nat} {vs : List AV} {r : AV} (hg : ∀ j w, o.g = some (j, w) → getT t j = .bool w) (ho : o.o = .call f 4)
      (hm : mapK (frzK 9 []) (evs t o.x) (fun v i => match i with | [] => some v | _ => none) none = some vs) (hp : PCalls P f vs r) : OpStep P φ o t H nx (put t o.d r) H nx
  | callv0 {f : Nat} {caps as vs : List AV} {ids : List (Nat × Nat)} {r : AV} (hg : ∀ j w, o.g = some (j, w) → getT t j = .bool w) (ho : o.o = .callv 0) (hx : evs t o.x = .func f caps :: as)
      (hm : mapK (frzK 9 H) (as ++ caps) (fun v i => some (v, i)) none = some (vs, ids)) (hp : PCalls P f vs r) (hs : ids = [] ∨ scal r = true) : OpStep P φ o t H nx (put t o.d r) H nx
  | call1 {f : Nat} {vs : List AV} {ids : List (Nat × Nat)} {r : AV} (hg : ∀ j w, o.g = some (j, w) → getT t j = .bool w) (ho : o.o = .call f 1)
      (hm : mapK (frzK 9 H) (evs t o.x) (fun v i => some (v, i)) none = some (vs, ids)) (hp : PCalls P f vs r) : OpStep P φ o t H nx (put t o.d r) (kill ids H) nx
  | callv1 {f : Nat} {caps as vs : List AV} {ids : List (Nat × Nat)} {r : AV} (hg : ∀ j w, o.g = some (j, w) → getT t j = .bool w) (ho : o.o = .callv 1) (hx : evs t o.x = .func f caps :: as)
      (hm : mapK (frzK 9 H) (as ++ caps) (fun v i => some (v, i)) none = some (vs, ids)) (hp : PCalls P f vs r) : OpStep P φ o t H nx (put t o.d r) (kill ids H) nx
  | call3 {f : Nat} {vs : List AV} {ids : List (Nat × Nat)} {r : AV} (hg : ∀ j w, o.g = some (j, w) → getT t j = .bool w) (ho : o.o = .call f 3)
      (hm : mapK (frzK 9 H) (evs t o.x) (fun v i => some (v, i)) none = some (vs, ids)) (hp : PCalls P f vs r) : OpStep P φ o t H nx (put (frzT ids H t) o.d r) (kill ids H) nx
  | call2 {f : Nat} {ks : List (Nat × Nat)} {r : AV} {Hout : Heap} {nx' : Ctr} (hg : ∀ j w, o.g = some (j, w) → getT t j = .bool w) (ho : o.o = .call f 2)
      (hp : HCalls P f (evs t o.x) (sel ks H) nx r Hout nx') (hf : (rest ks H = [] ∨ (nameFree 9 (rest ks H) r = true ∧ heapFree (rest ks H) Hout = true))) : OpStep P φ o t H nx (put t o.d r) (Hout ++ rest ks H) nx'
  | callv2 {f : Nat} {caps as : List AV} {ks : List (Nat × Nat)} {r : AV} {Hout : Heap} {nx' : Ctr} (hg : ∀ j w, o.g = some (j, w) → getT t j = .bool w) (ho : o.o = .callv 2) (hx : evs t o.x = .func f caps :: as)
      (hp : HCalls P f (as ++ caps) (sel ks H) nx r Hout nx') (hf : (rest ks H = [] ∨ (nameFree 9 (rest ks H) r = true ∧ heapFree (rest ks H) Hout = true))) : OpStep P φ o t H nx (put t o.d r) (Hout ++ rest ks H) nx'

/-- One behind the other. -/
inductive OpsRun (P : Program) (φ : Nat) : List Op → List AV → Heap → Ctr → List AV → Heap → Ctr → Prop
  | nil {t H nx} : OpsRun P φ [] t H nx t H nx
  | cons {o l t H nx t1 H1 nx1 t2 H2 nx2} (h : OpStep P φ o t H nx t1 H1 nx1) (k : OpsRun P φ l t1 H1 nx1 t2 H2 nx2) : OpsRun P φ (o :: l) t H nx t2 H2 nx2

/-! ### what is apart may change places -/
def tmpsOf : List AR → List Nat
  | [] => []
  | .t i :: l => i :: tmpsOf l
  | .c _ :: l => tmpsOf l
def reads (o : Op) : List Nat := (match o.g with | some (j, _) => [j] | none => []) ++ tmpsOf o.x
/-- The row that alone an operation looks at and changes. -/
def rowOf : AK → Option Nat
  | .new _ k | .stk _ k | .ldk k | .ldnk _ k => some k
  | _ => none
def bothNew (x y : Op) : Bool := match rowOf x.o, rowOf y.o with | some k1, some k2 => k1 != k2 | _, _ => false
def indep (x y : Op) : Bool :=
  (match x.d with | some d => !(reads y).contains d && y.d != some d | none => true) &&
  (match y.d with | some d => !(reads x).contains d | none => true) &&
  (cls x.o == 0 || cls y.o == 0 || (decide (cls x.o ≤ 1) && decide (cls y.o ≤ 1)) || bothNew x y) && decide (cls x.o ≤ 2) && decide (cls y.o ≤ 2)

theorem getT_setT : ∀ (t : List AV) (d : Nat) (v : AV) (j : Nat), d ≠ j → getT (setT t d v) j = getT t j
  | [], _, _, _, _ => rfl
  | a :: t, 0, v, 0, h => absurd rfl h
  | a :: t, 0, v, j + 1, h => rfl
  | a :: t, d + 1, v, 0, h => rfl
  | a :: t, d + 1, v, j + 1, h => by simp only [setT, getT]; exact getT_setT t d v j (by omega)
theorem getT_put (t : List AV) (d : Option Nat) (v : AV) (j : Nat) (h : d ≠ some j) : getT (put t d v) j = getT t j := by
  cases d with
  | none => rfl
  | some d => exact getT_setT t d v j (fun e => h (by rw [e]))
theorem evs_put (t : List AV) (d : Option Nat) (v : AV) : ∀ (xs : List AR), (∀ j ∈ tmpsOf xs, d ≠ some j) → evs (put t d v) xs = evs t xs
  | [], _ => rfl
  | .c x :: xs, h => by simp only [evs, ev]; rw [evs_put t d v xs h]
  | .t i :: xs, h => by
    simp only [evs, ev]
    rw [evs_put t d v xs (fun j hj => h j (List.mem_cons_of_mem _ hj)), getT_put t d v i (h i (List.mem_cons_self))]
theorem setT_comm (t : List AV) (a b : Nat) (u v : AV) (h : a ≠ b) : setT (setT t a u) b v = setT (setT t b v) a u := by
  induction t generalizing a b with
  | nil => rfl
  | cons x t ih =>
    cases a with
    | zero => cases b with
      | zero => exact absurd rfl h
      | succ b => rfl
    | succ a => cases b with
      | zero => rfl
      | succ b => simp only [setT]; rw [ih a b (by omega)]
theorem put_comm (t : List AV) (a b : Option Nat) (u v : AV) (h : ∀ d, a = some d → b ≠ some d) : put (put t a u) b v = put (put t b v) a u := by
  cases a with
  | none => rfl
  | some a =>
    cases b with
    | none => rfl
    | some b => exact setT_comm t a b u v (fun e => h a rfl (by rw [e]))

/-- An operation looks at no more than it reads. -/
theorem OpStep.frame {P : Program} {φ : Nat} {o : Op} {t : List AV} {H : Heap} {nx : Ctr} {t' : List AV} {H' : Heap} {nx' : Ctr} (h : OpStep P φ o t H nx t' H' nx') (hc2 : cls o.o ≤ 2) :
    ∃ v, t' = put t o.d v ∧ (cls o.o ≤ 1 → H' = H ∧ nx' = nx) ∧
      (∀ t2, (∀ j ∈ reads o, getT t2 j = getT t j) → evs t2 o.x = evs t o.x → OpStep P φ o t2 H nx (put t2 o.d v) H' nx') ∧
      (cls o.o = 0 → ∀ t2 H2 nx2, (∀ j ∈ reads o, getT t2 j = getT t j) → evs t2 o.x = evs t o.x → OpStep P φ o t2 H2 nx2 (put t2 o.d v) H2 nx2) := by
  have gd : ∀ {t2 : List AV}, (∀ j ∈ reads o, getT t2 j = getT t j) → (∀ j w, o.g = some (j, w) → getT t j = .bool w) → ∀ j w, o.g = some (j, w) → getT t2 j = .bool w := by
    intro t2 ha hg j w hj
    rw [ha j (by simp [reads, hj])]; exact hg j w hj
  cases h with
  | @skip j w b hg hb hne => exact ⟨_, rfl, fun _ => ⟨rfl, rfl⟩, fun t2 ha hx => .skip hg (by rw [ha j (by simp [reads, hg])]; exact hb) hne, fun _ t2 H2 nx2 ha hx => .skip hg (by rw [ha j (by simp [reads, hg])]; exact hb) hne⟩
  | @skipU j w hg hb => exact ⟨_, rfl, fun _ => ⟨rfl, rfl⟩, fun t2 ha hx => .skipU hg (by rw [ha j (by simp [reads, hg])]; exact hb), fun _ t2 H2 nx2 ha hx => .skipU hg (by rw [ha j (by simp [reads, hg])]; exact hb)⟩
  | exec hg h =>
    refine ⟨_, rfl, fun hc => ⟨(opD_R hc h).1, (opD_R hc h).2.1⟩, fun t2 ha hx => .exec (gd ha hg) (by rw [hx]; exact h), fun h0 t2 H2 nx2 ha hx => ?_⟩
    exact .exec (gd ha hg) (by rw [hx]; exact (opD_T h0 h).2.2 H2 nx2)
  | call0 hg ho hm hp hs => exact ⟨_, rfl, fun _ => ⟨rfl, rfl⟩, fun t2 ha hx => .call0 (gd ha hg) ho (by rw [hx]; exact hm) hp hs, fun h0 => by rw [ho] at h0; cases h0⟩
  | call4 hg ho hm hp => exact ⟨_, rfl, fun _ => ⟨rfl, rfl⟩, fun t2 ha hx => .call4 (gd ha hg) ho (by rw [hx]; exact hm) hp, fun _ t2 H2 nx2 ha hx => .call4 (gd ha hg) ho (by rw [hx]; exact hm) hp⟩
  | callv0 hg ho hx0 hm hp hs => exact ⟨_, rfl, fun _ => ⟨rfl, rfl⟩, fun t2 ha hx => .callv0 (gd ha hg) ho (by rw [hx]; exact hx0) hm hp hs, fun h0 => by rw [ho] at h0; cases h0⟩
  | call1 hg ho hm hp => exact ⟨_, rfl, fun hc => by rw [ho] at hc; simp [cls] at hc, fun t2 ha hx => .call1 (gd ha hg) ho (by rw [hx]; exact hm) hp, fun h0 => by rw [ho] at h0; cases h0⟩
  | call3 hg ho hm hp => exact absurd hc2 (by rw [ho]; simp [cls])
  | call2 hg ho hp hf => exact ⟨_, rfl, fun hc => by rw [ho] at hc; simp [cls] at hc, fun t2 ha hx => .call2 (gd ha hg) ho (by rw [hx]; exact hp) hf, fun h0 => by rw [ho] at h0; cases h0⟩
  | callv2 hg ho hx0 hp hf => exact ⟨_, rfl, fun hc => by rw [ho] at hc; simp [cls] at hc, fun t2 ha hx => .callv2 (gd ha hg) ho (by rw [hx]; exact hx0) hp hf, fun h0 => by rw [ho] at h0; cases h0⟩
  | callv1 hg ho hx0 hm hp => exact ⟨_, rfl, fun hc => by rw [ho] at hc; simp [cls] at hc, fun t2 ha hx => .callv1 (gd ha hg) ho (by rw [hx]; exact hx0) hm hp, fun h0 => by rw [ho] at h0; cases h0⟩

theorem setB_comm (f1 d1 g1 : Nat) (b1 : Option (List AV)) (f2 d2 g2 : Nat) (b2 : Option (List AV)) (h : d1 ≠ d2) : ∀ H : Heap, setB (setB H f1 d1 g1 b1) f2 d2 g2 b2 = setB (setB H f2 d2 g2 b2) f1 d1 g1 b1
  | [] => by
    have n1 : ¬ (d1 = d2 ∧ f1 = f2) := fun e => h e.1
    have n2 : ¬ (d2 = d1 ∧ f2 = f1) := fun e => h e.1.symm
    simp only [setB, if_neg n1, if_neg n2]
    rcases Nat.lt_or_ge d1 d2 with h1 | h1
    · rw [if_neg (show ¬ d2 < d1 by omega), if_pos h1]
    · rw [if_pos (show d2 < d1 by omega), if_neg (show ¬ d1 < d2 by omega)]
  | (f', d', g', b') :: H => by
    have ih := setB_comm f1 d1 g1 b1 f2 d2 g2 b2 h H
    by_cases e1 : d' = d1 ∧ f' = f1
    · obtain ⟨rfl, rfl⟩ := e1
      have n2 : ¬ (d' = d2 ∧ f' = f2) := fun e => h e.1
      simp only [setB, and_self, if_true, if_neg n2]
      rcases Nat.lt_or_ge d2 d' with h1 | h1
      · simp only [if_pos h1, setB, and_self, if_true]
        rw [if_neg (fun e => h e.1.symm), if_neg (by omega)]
      · simp only [if_neg (show ¬ d2 < d' by omega), setB, and_self, if_true]
    · by_cases e2 : d' = d2 ∧ f' = f2
      · obtain ⟨rfl, rfl⟩ := e2
        simp only [setB, and_self, if_true, if_neg e1]
        rcases Nat.lt_or_ge d1 d' with h1 | h1
        · simp only [if_pos h1, setB, and_self, if_true]
          rw [if_neg (fun e => h e.1), if_neg (by omega)]
        · simp only [if_neg (show ¬ d1 < d' by omega), setB, and_self, if_true]
      · simp only [setB, if_neg e1, if_neg e2]
        by_cases h1 : d1 < d' <;> by_cases h2 : d2 < d'
        · have n1 : ¬ (d1 = d2 ∧ f1 = f2) := fun e => h e.1
          have n2 : ¬ (d2 = d1 ∧ f2 = f1) := fun e => h e.1.symm
          simp only [if_pos h1, if_pos h2, setB, if_neg e1, if_neg e2, if_neg n1, if_neg n2]
          rcases Nat.lt_or_ge d1 d2 with h3 | h3
          · rw [if_neg (show ¬ d2 < d1 by omega), if_pos h3]
          · rw [if_pos (show d2 < d1 by omega), if_neg (show ¬ d1 < d2 by omega)]
        · simp only [if_pos h1, if_neg h2, setB, if_neg e1, if_neg e2]
          rw [if_neg (fun e => h e.1), if_neg (show ¬ d2 < d1 by omega)]
        · simp only [if_pos h2, if_neg h1, setB, if_neg e1, if_neg e2]
          rw [if_neg (fun e => h e.1.symm), if_neg (show ¬ d1 < d2 by omega)]
        · simp only [if_neg h1, if_neg h2, setB, if_neg e1, if_neg e2, ih]
theorem bump_comm (nx : Ctr) (a b : Nat) : bump (bump nx a) b = bump (bump nx b) a := by
  funext e
  unfold bump
  by_cases h : a = b
  · subst h; rfl
  · by_cases h1 : e = a <;> by_cases h2 : e = b <;> simp_all
theorem evs_nil {t : List AV} : ∀ {x : List AR}, evs t x = [] → x = []
  | [], _ => rfl
  | _ :: _, h => by simp [evs] at h
def effH (φ k : Nat) (E : Option (Nat × Option (List AV))) (H : Heap) : Heap := match E with | none => H | some (g, b) => setB H φ k g b
def effN (k : Nat) (bp : Bool) (nx : Ctr) : Ctr := if bp = true then bump nx k else nx
/-- It looks at that row alone, and changes it alone. -/
theorem rowStep {P : Program} {φ : Nat} {o : Op} {k : Nat} (ho : rowOf o.o = some k) {t : List AV} {H : Heap} {nx : Ctr} {t' : List AV} {H' : Heap} {nx' : Ctr} (h : OpStep P φ o t H nx t' H' nx') :
    ∃ v E bp, t' = put t o.d v ∧ H' = effH φ k E H ∧ nx' = effN k bp nx ∧
      ∀ t2 H2 nx2, (∀ j ∈ reads o, getT t2 j = getT t j) → evs t2 o.x = evs t o.x → find H2 φ k = find H φ k → nx2 k = nx k → OpStep P φ o t2 H2 nx2 (put t2 o.d v) (effH φ k E H2) (effN k bp nx2) := by
  have nocall : ∀ f m, o.o ≠ .call f m := by intro f m e; rw [e] at ho; cases ho
  have nocallv : ∀ m, o.o ≠ .callv m := by intro m e; rw [e] at ho; cases ho
  cases h with
  | @skip j w b hg hb hne => exact ⟨_, none, false, rfl, rfl, rfl, fun t2 H2 nx2 ha _ _ _ => .skip hg (by rw [ha j (by simp [reads, hg])]; exact hb) hne⟩
  | @skipU j w hg hb => exact ⟨_, none, false, rfl, rfl, rfl, fun t2 H2 nx2 ha _ _ _ => .skipU hg (by rw [ha j (by simp [reads, hg])]; exact hb)⟩
  | @exec v _ _ hg h =>
    have gd : ∀ {t2 : List AV}, (∀ j ∈ reads o, getT t2 j = getT t j) → ∀ j w, o.g = some (j, w) → getT t2 j = .bool w := by
      intro t2 ha j w hj
      rw [ha j (by simp [reads, hj])]; exact hg j w hj
    generalize hvs : evs t o.x = vs at h
    generalize hao : o.o = ao at h ho
    unfold rowOf at ho
    split at ho
    · rename_i z k'
      cases ho
      cases vs with
      | cons a l => cases h
      | nil =>
        simp only [opD, opK, Option.some.injEq, Prod.mk.injEq] at h
        obtain ⟨rfl, rfl, rfl⟩ := h
        refine ⟨_, some (nx k, some z), true, rfl, rfl, rfl, fun t2 H2 nx2 ha hx _ hn => .exec (gd ha) ?_⟩
        rw [hao, hx, ← hn]
        rfl
    · rename_i n k'
      cases ho
      rcases vs with _ | ⟨x, _ | ⟨v0, _ | ⟨y, l⟩⟩⟩
      · cases h
      · cases h
      · cases x with
        | ptr f d g off =>
          simp only [opD, opK] at h
          split at h
          · rename_i hfd
            obtain ⟨rfl, rfl⟩ := hfd
            rw [getB_find] at h
            split at h
            · rename_i g' cs hf
              split at h
              · rename_i hgg
                subst hgg
                split at h
                · rename_i hc
                  simp only [Option.some.injEq, Prod.mk.injEq] at h
                  obtain ⟨rfl, rfl, rfl⟩ := h
                  refine ⟨_, some (g', _), false, rfl, rfl, rfl, fun t2 H2 nx2 ha hx hfi _ => .exec (gd ha) ?_⟩
                  rw [hao, hx]
                  simp only [opD, opK, and_self, if_true]
                  rw [getB_of (hfi.trans hf), if_pos hc]
                  rfl
                · cases h
              · cases h
            · cases h
          · cases h
        | _ => cases h
      · cases h
    · rename_i k'
      cases ho
      rcases vs with _ | ⟨x, _ | ⟨y, l⟩⟩
      · cases h
      · cases x with
        | ptr f d g off =>
          simp only [opD, opK] at h
          split at h
          · rename_i hfd
            obtain ⟨rfl, rfl⟩ := hfd
            rw [getB_find] at h
            split at h
            · rename_i g' cs hf
              split at h
              · rename_i hgg
                subst hgg
                split at h
                · rename_i c rst hc
                  simp only [Option.some.injEq, Prod.mk.injEq] at h
                  obtain ⟨rfl, rfl, rfl⟩ := h
                  refine ⟨_, none, false, rfl, rfl, rfl, fun t2 H2 nx2 ha hx hfi _ => .exec (gd ha) ?_⟩
                  rw [hao, hx]
                  simp only [opD, opK, and_self, if_true]
                  rw [getB_of (hfi.trans hf), hc]
                  rfl
                · cases h
              · cases h
            · cases h
          · cases h
        | _ => cases h
      · cases h
    · rename_i n k'
      cases ho
      rcases vs with _ | ⟨x, _ | ⟨y, l⟩⟩
      · cases h
      · cases x with
        | ptr f d g off =>
          simp only [opD, opK] at h
          split at h
          · rename_i hfd
            obtain ⟨rfl, rfl⟩ := hfd
            rw [getB_find] at h
            split at h
            · rename_i g' cs hf
              split at h
              · rename_i hgg
                subst hgg
                split at h
                · rename_i hc
                  simp only [Option.some.injEq, Prod.mk.injEq] at h
                  obtain ⟨rfl, rfl, rfl⟩ := h
                  refine ⟨_, none, false, rfl, rfl, rfl, fun t2 H2 nx2 ha hx hfi _ => .exec (gd ha) ?_⟩
                  rw [hao, hx]
                  simp only [opD, opK, and_self, if_true]
                  rw [getB_of (hfi.trans hf), if_pos hc]
                  rfl
                · cases h
              · cases h
            · cases h
          · cases h
        | _ => cases h
      · cases h
    · cases ho
  | call0 hg ho' => exact absurd ho' (nocall _ _)
  | call4 hg ho' => exact absurd ho' (nocall _ _)
  | callv0 hg ho' => exact absurd ho' (nocallv _)
  | call1 hg ho' => exact absurd ho' (nocall _ _)
  | callv1 hg ho' => exact absurd ho' (nocallv _)
  | call2 hg ho' => exact absurd ho' (nocall _ _)
  | callv2 hg ho' => exact absurd ho' (nocallv _)
  | call3 hg ho' => exact absurd ho' (nocall _ _)

theorem swapNew {P : Program} {φ : Nat} {x y : Op} {k1 k2 : Nat} (hox : rowOf x.o = some k1) (hoy : rowOf y.o = some k2) (hk : k1 ≠ k2) (rx : ∀ j ∈ reads y, x.d ≠ some j) (ry : ∀ j ∈ reads x, y.d ≠ some j) (dd : ∀ d, x.d = some d → y.d ≠ some d)
    {t : List AV} {H : Heap} {nx : Ctr} {t1 : List AV} {H1 : Heap} {nx1 : Ctr} {t2 : List AV} {H2 : Heap} {nx2 : Ctr}
    (hx : OpStep P φ x t H nx t1 H1 nx1) (hy : OpStep P φ y t1 H1 nx1 t2 H2 nx2) : ∃ t3 H3 nx3, OpStep P φ y t H nx t3 H3 nx3 ∧ OpStep P φ x t3 H3 nx3 t2 H2 nx2 := by
  have ne1 : ∀ (a b : Nat), a ≠ b → ∀ E (H : Heap), find (effH φ a E H) φ b = find H φ b := by
    intro a b hab E H
    unfold effH; split
    · rfl
    · exact find_setB_ne _ _ _ _ _ _ _ (fun e => hab e.2.symm)
  have ne2 : ∀ (a b : Nat), a ≠ b → ∀ bp (nx : Ctr), effN a bp nx b = nx b := by
    intro a b hab bp nx
    unfold effN; split
    · unfold bump; rw [if_neg (fun e => hab e.symm)]
    · rfl
  have c1 : ∀ E1 E2 (H : Heap), effH φ k2 E2 (effH φ k1 E1 H) = effH φ k1 E1 (effH φ k2 E2 H) := by
    intro E1 E2 H
    unfold effH
    cases E1 <;> cases E2 <;> first | rfl | exact setB_comm _ _ _ _ _ _ _ _ hk _
  have c2 : ∀ b1 b2 (nx : Ctr), effN k2 b2 (effN k1 b1 nx) = effN k1 b1 (effN k2 b2 nx) := by
    intro b1 b2 nx
    unfold effN
    cases b1 <;> cases b2 <;> first | rfl | exact bump_comm _ _ _
  obtain ⟨v1, E1, b1, rfl, rfl, rfl, m1⟩ := rowStep hox hx
  obtain ⟨v2, E2, b2, rfl, rfl, rfl, m2⟩ := rowStep hoy hy
  have ay : (∀ j ∈ reads y, getT t j = getT (put t x.d v1) j) ∧ evs t y.x = evs (put t x.d v1) y.x :=
    ⟨fun j hj => (getT_put t x.d v1 j (rx j hj)).symm, (evs_put t x.d v1 y.x (fun j hj => rx j (List.mem_append_right _ hj))).symm⟩
  have ax : (∀ j ∈ reads x, getT (put t y.d v2) j = getT t j) ∧ evs (put t y.d v2) x.x = evs t x.x :=
    ⟨fun j hj => getT_put t y.d v2 j (ry j hj), evs_put t y.d v2 x.x (fun j hj => ry j (List.mem_append_right _ hj))⟩
  refine ⟨_, _, _, m2 t H nx ay.1 ay.2 (ne1 _ _ hk _ _).symm (ne2 _ _ hk _ _).symm, ?_⟩
  rw [put_comm t x.d y.d v1 v2 dd, c1, c2]
  exact m1 _ _ _ ax.1 ax.2 (ne1 _ _ (Ne.symm hk) _ _) (ne2 _ _ (Ne.symm hk) _ _)

theorem swap {P : Program} {φ : Nat} {x y : Op} (hi : indep x y = true) {t : List AV} {H : Heap} {nx : Ctr} {t1 : List AV} {H1 : Heap} {nx1 : Ctr} {t2 : List AV} {H2 : Heap} {nx2 : Ctr}
    (hx : OpStep P φ x t H nx t1 H1 nx1) (hy : OpStep P φ y t1 H1 nx1 t2 H2 nx2) : ∃ t3 H3 nx3, OpStep P φ y t H nx t3 H3 nx3 ∧ OpStep P φ x t3 H3 nx3 t2 H2 nx2 := by
  simp only [indep, Bool.and_eq_true, Bool.or_eq_true, beq_iff_eq, decide_eq_true_eq] at hi
  obtain ⟨⟨⟨⟨hxd, hyd⟩, hc⟩, hx2⟩, hy2⟩ := hi
  have rx : ∀ j ∈ reads y, x.d ≠ some j := by
    intro j hj e
    rw [e] at hxd
    simp at hxd
    exact hxd.1 hj
  have ry : ∀ j ∈ reads x, y.d ≠ some j := by
    intro j hj e
    rw [e] at hyd
    simp at hyd
    exact hyd hj
  have dd : ∀ d, x.d = some d → y.d ≠ some d := by
    intro d e
    rw [e] at hxd
    simp at hxd
    exact hxd.2
  by_cases hbn : bothNew x y = true
  · unfold bothNew at hbn
    split at hbn
    · rename_i k1 k2 hox hoy
      exact swapNew hox hoy (by simpa using hbn) rx ry dd hx hy
    · cases hbn
  obtain ⟨v1, e1, c1, f1, g1⟩ := hx.frame hx2
  obtain ⟨v2, e2, c2, f2, g2⟩ := hy.frame hy2
  subst e1 e2
  have ay : (∀ j ∈ reads y, getT t j = getT (put t x.d v1) j) ∧ evs t y.x = evs (put t x.d v1) y.x :=
    ⟨fun j hj => (getT_put t x.d v1 j (rx j hj)).symm, (evs_put t x.d v1 y.x (fun j hj => rx j (List.mem_append_right _ hj))).symm⟩
  have ax : (∀ j ∈ reads x, getT (put t y.d v2) j = getT t j) ∧ evs (put t y.d v2) x.x = evs t x.x :=
    ⟨fun j hj => getT_put t y.d v2 j (ry j hj), evs_put t y.d v2 x.x (fun j hj => ry j (List.mem_append_right _ hj))⟩
  rw [put_comm t x.d y.d v1 v2 dd]
  rcases hc with ((h0 | h0) | ⟨h0, h0'⟩) | h0
  · obtain ⟨rfl, rfl⟩ := c1 (by omega)
    exact ⟨_, _, _, f2 t ay.1 ay.2, g1 h0 _ H2 nx2 ax.1 ax.2⟩
  · obtain ⟨rfl, rfl⟩ := c2 (by omega)
    exact ⟨_, _, _, g2 h0 t H nx ay.1 ay.2, f1 _ ax.1 ax.2⟩
  · obtain ⟨rfl, rfl⟩ := c1 h0
    obtain ⟨rfl, rfl⟩ := c2 h0'
    exact ⟨_, _, _, f2 t ay.1 ay.2, f1 _ ax.1 ax.2⟩
  · exact (hbn h0).elim
theorem bubble {P : Program} {φ : Nat} {x : Op} {B : List Op} {t2 : List AV} {H2 : Heap} {nx2 : Ctr} : ∀ (A : List Op) {t : List AV} {H : Heap} {nx : Ctr}, (∀ a ∈ A, indep a x = true) → OpsRun P φ (A ++ x :: B) t H nx t2 H2 nx2 →
    ∃ t1 H1 nx1, OpStep P φ x t H nx t1 H1 nx1 ∧ OpsRun P φ (A ++ B) t1 H1 nx1 t2 H2 nx2
  | [], t, H, nx, _, h => by cases h with | cons h k => exact ⟨_, _, _, h, k⟩
  | a :: A, t, H, nx, hi, h => by
    cases h with
    | cons h k =>
      obtain ⟨t1, H1, nx1, h1, k1⟩ := bubble A (fun b hb => hi b (List.mem_cons_of_mem _ hb)) k
      obtain ⟨t3, H3, nx3, h3, h4⟩ := swap (hi a (List.mem_cons_self)) h h1
      exact ⟨_, _, _, h3, .cons h4 k1⟩

/-! ### the orders that a region may draw -/
/-- Whom an operation waits for, as bits: its own edges and theirs. -/
def maskOf (acc : List Nat) (o : Oper) : Nat :=
  o.after.toList.foldl (fun m e => if Region.binds .any e then m ||| (1 <<< e.on) ||| acc.getD e.on 0 else m) 0
def masks : List Oper → List Nat → List Nat
  | [], acc => acc
  | o :: l, acc => masks l (acc ++ [maskOf acc o])
/-- Operation i may come ahead of whatever it doesn't wait for. -/
def freeAt (l : List Op) (m : Nat) (x : Op) : Nat → Bool
  | 0 => true
  | n + 1 => freeAt l m x n && (m.testBit n || (match l[n]? with | some y => indep y x | none => false))
def drawnGo (l : List Op) (ms : List Nat) : Nat → Bool
  | 0 => true
  | n + 1 => drawnGo l ms n && (match l[n]? with | some x => freeAt l (ms.getD n 0) x n | none => false)
def drawnOk (ops : List Oper) (l : List Op) : Bool :=
  ops.zipIdx.all (fun (o, i) => o.after.toList.all fun e => !Region.binds .any e || decide (e.on < i)) &&
  ops.all (fun o => match o.op with | .select .. => false | _ => true) && drawnGo l (masks ops []) ops.length

theorem foldl_mask (acc : List Nat) (i : Nat) : ∀ (es : List Edge) (m : Nat), (es.foldl (fun m e => if Region.binds .any e then m ||| (1 <<< e.on) ||| acc.getD e.on 0 else m) m).testBit i = true →
    m.testBit i = true ∨ ∃ e ∈ es, Region.binds .any e = true ∧ (e.on = i ∨ (acc.getD e.on 0).testBit i = true)
  | [], m, h => .inl h
  | e :: es, m, h => by
    simp only [List.foldl_cons] at h
    rcases foldl_mask acc i es _ h with h1 | ⟨e', he', h1⟩
    · split at h1
      · rename_i hb
        rw [Nat.testBit_or, Nat.testBit_or] at h1
        simp only [Bool.or_eq_true] at h1
        rcases h1 with (h1 | h1) | h1
        · exact .inl h1
        · refine .inr ⟨e, List.mem_cons_self, hb, .inl ?_⟩
          rw [Nat.one_shiftLeft, Nat.testBit_two_pow] at h1
          exact of_decide_eq_true h1
        · exact .inr ⟨e, List.mem_cons_self, hb, .inr h1⟩
      · exact .inl h1
    · exact .inr ⟨e', List.mem_cons_of_mem _ he', h1⟩
theorem masks_pre : ∀ (l : List Oper) (acc : List Nat) (j : Nat), j < acc.length → (masks l acc).getD j 0 = acc.getD j 0
  | [], acc, j, h => rfl
  | o :: l, acc, j, h => by
    simp only [masks]
    rw [masks_pre l _ j (by simp; omega)]
    simp [List.getD, List.getElem?_append_left h]
theorem masks_at : ∀ (l : List Oper) (acc : List Nat) (k : Nat) (o : Oper), l[k]? = some o → ∃ acc' : List Nat, (masks l acc).getD (acc.length + k) 0 = maskOf acc' o ∧ ∀ j, (acc'.getD j 0) ≠ 0 → (masks l acc).getD j 0 = acc'.getD j 0
  | [], acc, k, o, h => by simp at h
  | o :: l, acc, 0, o', h => by
    simp at h; subst h
    refine ⟨acc, ?_, fun j hj => ?_⟩
    · simp only [masks, Nat.add_zero]
      rw [masks_pre l _ _ (by simp)]
      simp [List.getD]
    · have hlt : j < acc.length := by
        rcases Nat.lt_or_ge j acc.length with h | h
        · exact h
        · simp [List.getD, List.getElem?_eq_none h] at hj
      exact masks_pre (o :: l) acc j hlt
  | o :: l, acc, k + 1, o', h => by
    simp at h
    obtain ⟨acc', h1, h2⟩ := masks_at l (acc ++ [maskOf acc o]) k o' h
    refine ⟨acc', ?_, h2⟩
    simp only [masks]
    rw [← h1]
    congr 1
    simp; omega
theorem mask_spec {ops : List Oper} {j : Nat} {o : Oper} (ho : ops[j]? = some o) {i : Nat} (h : ((masks ops []).getD j 0).testBit i = true) :
    ∃ e ∈ o.after.toList, Region.binds .any e = true ∧ (e.on = i ∨ ((masks ops []).getD e.on 0).testBit i = true) := by
  obtain ⟨acc', h1, h2⟩ := masks_at ops [] j o ho
  simp only [List.length_nil, Nat.zero_add] at h1
  rw [h1] at h
  rcases foldl_mask acc' i _ 0 h with h3 | ⟨e, he, hb, h3⟩
  · simp at h3
  · refine ⟨e, he, hb, h3.imp id fun h4 => ?_⟩
    rw [h2 e.on (fun e0 => by rw [e0] at h4; simp at h4)]
    exact h4
theorem freeAt_spec {l : List Op} {m : Nat} {x : Op} : ∀ {n : Nat}, freeAt l m x n = true → ∀ a, a < n → m.testBit a = true ∨ ∃ y, l[a]? = some y ∧ indep y x = true
  | 0, _, a, ha => by omega
  | n + 1, h, a, ha => by
    simp only [freeAt, Bool.and_eq_true, Bool.or_eq_true] at h
    by_cases e : a = n
    · subst e
      refine h.2.imp id fun h2 => ?_
      split at h2
      · rename_i y hy; exact ⟨y, hy, h2⟩
      · cases h2
    · exact freeAt_spec h.1 a (by omega)
theorem drawnGo_spec {l : List Op} {ms : List Nat} : ∀ {n : Nat}, drawnGo l ms n = true → ∀ i, i < n → ∃ x, l[i]? = some x ∧ ∀ a, a < i → (ms.getD i 0).testBit a = true ∨ ∃ y, l[a]? = some y ∧ indep y x = true
  | 0, _, i, hi => by omega
  | n + 1, h, i, hi => by
    simp only [drawnGo, Bool.and_eq_true] at h
    by_cases e : i = n
    · subst e
      split at h
      · rename_i x hx; exact ⟨x, hx, freeAt_spec h.2⟩
      · cases h.2
    · exact drawnGo_spec h.1 i (by omega)
end Go.Ev
