/- Rows of counts, and the shortest event tree of a row: plain. -/
import Derived.Test.YtmokhopjnjecbaaPEv
namespace Go.Ev
set_option linter.unusedVariables false
set_option linter.unnecessarySimpa false
set_option linter.unusedSimpArgs false

def rowE : Nat → E → List Nat
  | d, .lf n => List.replicate (2 ^ d) n
  | 0, .nd n _ _ => [n]
  | d + 1, .nd n l r => (rowE d l ++ rowE d r).map (n + ·)
theorem rowE_lf (d n : Nat) : rowE d (.lf n) = List.replicate (2 ^ d) n := by cases d <;> rfl
theorem rowE_len : ∀ (d : Nat) (e : E), (rowE d e).length = 2 ^ d
  | d, .lf n => by rw [rowE_lf]; simp
  | 0, .nd n l r => by simp [rowE]
  | d + 1, .nd n l r => by simp only [rowE, List.length_map, List.length_append, rowE_len, Nat.pow_succ]; omega
def E.lift (m : Nat) : E → E
  | .lf n => .lf (n + m)
  | .nd n l r => .nd (n + m) l r
def E.sub (m : Nat) : E → E
  | .lf n => .lf (n - m)
  | .nd n l r => .nd (n - m) l r
def E.half (k : Bool) : E → E
  | .lf n => .lf n
  | .nd n l r => if k then r.lift n else l.lift n
theorem E.lift_n (e : E) (m : Nat) : (e.lift m).n = e.n + m := by cases e <;> rfl
theorem E.sub_n (e : E) (m : Nat) : (e.sub m).n = e.n - m := by cases e <;> rfl
theorem E.lift_leaf (e : E) (m : Nat) : (e.lift m).leaf = e.leaf := by cases e <;> rfl
theorem E.sub_leaf (e : E) (m : Nat) : (e.sub m).leaf = e.leaf := by cases e <;> rfl
theorem E.lift_dep (e : E) (m : Nat) : (e.lift m).dep = e.dep := by cases e <;> rfl
theorem E.sub_dep (e : E) (m : Nat) : (e.sub m).dep = e.dep := by cases e <;> rfl
theorem E.lift_nodes (e : E) (m : Nat) : (e.lift m).nodes = e.nodes := by cases e <;> rfl
theorem E.sub_nodes (e : E) (m : Nat) : (e.sub m).nodes = e.nodes := by cases e <;> rfl
theorem E.lift_short (e : E) (m : Nat) : (e.lift m).short = e.short := by cases e <;> rfl
theorem E.sub_short (e : E) (m : Nat) : (e.sub m).short = e.short := by cases e <;> rfl
theorem E.sub_lift (e : E) (m : Nat) (h : m ≤ e.n) : (e.sub m).lift m = e := by
  cases e with
  | lf n => simp only [E.sub, E.lift]; congr 1; exact Nat.sub_add_cancel h
  | nd n l r => simp only [E.sub, E.lift]; congr 1; exact Nat.sub_add_cancel h
theorem E.lift_zero (e : E) : e.lift 0 = e := by cases e <;> rfl
theorem rowE_lift (d : Nat) (e : E) (m : Nat) : rowE d (e.lift m) = (rowE d e).map (m + ·) := by
  cases e with
  | lf n => simp only [E.lift, rowE_lf, List.map_replicate]; congr 1; omega
  | nd n l r =>
    cases d with
    | zero => simp only [E.lift, rowE, List.map_cons, List.map_nil]; congr 1; omega
    | succ d =>
      simp only [E.lift, rowE, List.map_map]
      congr 1; funext x; simp only [Function.comp]; omega
theorem rowE_split (d : Nat) (e : E) : rowE (d + 1) e = rowE d (e.half false) ++ rowE d (e.half true) := by
  cases e with
  | lf n =>
    simp only [E.half, rowE_lf]
    rw [List.replicate_append_replicate]
    congr 1
    rw [Nat.pow_succ]; omega
  | nd n l r => simp [E.half, rowE, rowE_lift]
theorem E.half_dep (e : E) (k : Bool) : (e.half k).dep ≤ max (e.dep - 1) 1 := by
  cases e with
  | lf n => simp [E.half, E.dep]
  | nd n l r =>
    have := l.dep_pos
    have := r.dep_pos
    cases k <;> simp [E.half, E.lift_dep, E.dep] <;> omega
theorem E.half_short (e : E) (k : Bool) (h : e.short = true) : (e.half k).short = true := by
  cases e with
  | lf n => simpa [E.half] using h
  | nd n l r =>
    simp only [E.short, Bool.and_eq_true] at h
    cases k <;> simp [E.half, E.lift_short, h.1.1.1, h.1.1.2]
/-- The greatest count. -/
def E.top : E → Nat
  | .lf n => n
  | .nd n l r => n + max l.top r.top
theorem E.top_n (e : E) : e.n ≤ e.top := by cases e <;> simp [E.n, E.top]
theorem E.lift_top (e : E) (m : Nat) : (e.lift m).top = e.top + m := by cases e <;> simp [E.lift, E.top]; omega
theorem E.half_top (e : E) (k : Bool) : (e.half k).top ≤ e.top := by
  cases e with
  | lf n => simp [E.half]
  | nd n l r => cases k <;> simp [E.half, E.lift_top, E.top] <;> omega
theorem E.top_small : ∀ {e : E}, e.small = true → e.top ≤ e.dep * 1099511627776
  | .lf n, h => by simp only [E.small, decide_eq_true_eq] at h; simp [E.top, E.dep]; omega
  | .nd n l r, h => by
    simp only [E.small, Bool.and_eq_true, decide_eq_true_eq] at h
    have a := E.top_small h.1.2
    have b := E.top_small h.2
    simp only [E.top, E.dep]
    have h1 : l.dep * 1099511627776 ≤ max l.dep r.dep * 1099511627776 := Nat.mul_le_mul_right _ (by omega)
    have h2 : r.dep * 1099511627776 ≤ max l.dep r.dep * 1099511627776 := Nat.mul_le_mul_right _ (by omega)
    rw [Nat.add_mul]
    omega
theorem rowE_top : ∀ (d : Nat) (e : E), ∀ x ∈ rowE d e, x ≤ e.top
  | d, .lf n, x, h => by rw [rowE_lf] at h; rw [List.eq_of_mem_replicate h]; simp [E.top]
  | 0, .nd n l r, x, h => by simp [rowE] at h; subst h; simp [E.top]
  | d + 1, .nd n l r, x, h => by
    simp only [rowE, List.mem_map, List.mem_append] at h
    obtain ⟨y, hy, rfl⟩ := h
    rcases hy with hy | hy
    · have := rowE_top d l y hy; simp only [E.top]; omega
    · have := rowE_top d r y hy; simp only [E.top]; omega

/-! ### comparing -/
def leqR : List Nat → List Nat → Bool
  | x :: xs, y :: ys => decide (x ≤ y) && leqR xs ys
  | _, _ => true
def eqR : List Nat → List Nat → Bool
  | x :: xs, y :: ys => decide (x = y) && eqR xs ys
  | _, _ => true
theorem leqR_append : ∀ (a b c d : List Nat), a.length = b.length → leqR (a ++ c) (b ++ d) = (leqR a b && leqR c d)
  | [], [], c, d, _ => by simp [leqR]
  | [], _ :: _, _, _, h => by simp at h
  | _ :: _, [], _, _, h => by simp at h
  | x :: a, y :: b, c, d, h => by simp only [List.cons_append, leqR, leqR_append a b c d (by simpa using h), Bool.and_assoc]
theorem leqR_replicate (m n : Nat) : ∀ k, 0 < k → leqR (List.replicate k m) (List.replicate k n) = decide (m ≤ n)
  | 1, _ => by simp [leqR]
  | k + 2, _ => by
    show leqR (m :: List.replicate (k + 1) m) (n :: List.replicate (k + 1) n) = _
    simp only [leqR]
    rw [leqR_replicate m n (k + 1) (by omega), Bool.and_self]
theorem eqR_true : ∀ {a b : List Nat}, a.length = b.length → (eqR a b = true ↔ a = b)
  | [], [], _ => by simp [eqR]
  | [], _ :: _, h => by simp at h
  | _ :: _, [], h => by simp at h
  | x :: a, y :: b, h => by simp only [eqR, Bool.and_eq_true, decide_eq_true_eq, eqR_true (show a.length = b.length by simpa using h), List.cons.injEq]

/-! ### joining -/
def nodeE (n : Nat) (l r : E) : E :=
  if l.leaf = true ∧ r.leaf = true ∧ l.n = r.n then .lf (n + min l.n r.n) else .nd (n + min l.n r.n) (l.sub (min l.n r.n)) (r.sub (min l.n r.n))
theorem E.leaf_lf {e : E} (h : e.leaf = true) : e = .lf e.n := by cases e <;> simp [E.leaf, E.n] at h ⊢
theorem rows_nodeE (d n : Nat) (l r : E) : rowE (d + 1) (nodeE n l r) = (rowE d l ++ rowE d r).map (n + ·) := by
  unfold nodeE
  split
  · rename_i h
    obtain ⟨h1, h2, h3⟩ := h
    rw [E.leaf_lf h1, E.leaf_lf h2, ← h3]
    simp only [rowE_lf, E.n, Nat.min_self, List.map_append, List.map_replicate, List.replicate_append_replicate]
    congr 1
    rw [Nat.pow_succ]; omega
  · have h1 : rowE d l = (rowE d (l.sub (min l.n r.n))).map (min l.n r.n + ·) := by rw [← rowE_lift, E.sub_lift _ _ (Nat.min_le_left _ _)]
    have h2 : rowE d r = (rowE d (r.sub (min l.n r.n))).map (min l.n r.n + ·) := by rw [← rowE_lift, E.sub_lift _ _ (Nat.min_le_right _ _)]
    rw [h1, h2, ← List.map_append, List.map_map]
    simp only [rowE]
    congr 1; funext x; simp only [Function.comp]; omega
theorem nodeE_short {n : Nat} {l r : E} (hl : l.short = true) (hr : r.short = true) : (nodeE n l r).short = true := by
  unfold nodeE
  split
  · rfl
  · rename_i h
    simp only [E.short, E.sub_short, hl, hr, E.sub_n, E.sub_leaf, Bool.true_and, Bool.and_eq_true, Bool.or_eq_true, decide_eq_true_eq, Bool.not_eq_true', Bool.and_eq_false_iff, decide_eq_false_iff_not]
    refine ⟨by omega, ?_⟩
    by_cases h1 : l.leaf = true
    · by_cases h2 : r.leaf = true
      · right
        intro h3
        exact h ⟨h1, h2, by omega⟩
      · left; right; simpa using h2
    · left; left; simpa using h1
theorem nodeE_dep (n : Nat) (l r : E) : (nodeE n l r).dep ≤ max l.dep r.dep + 1 := by
  unfold nodeE
  split
  · simp [E.dep]
  · simp [E.dep, E.sub_dep]
theorem nodeE_nodes (n : Nat) (l r : E) : (nodeE n l r).nodes ≤ 1 + l.nodes + r.nodes := by
  unfold nodeE
  split
  · simp [E.nodes]; omega
  · simp [E.nodes, E.sub_nodes]
def joinE : Nat → E → E → E
  | 0, a, b => .lf (max a.n b.n)
  | d + 1, a, b => if a.leaf = true ∧ b.leaf = true then .lf (max a.n b.n) else nodeE 0 (joinE d (a.half false) (b.half false)) (joinE d (a.half true) (b.half true))
theorem zip_replicate (m n : Nat) : ∀ k, List.zipWith max (List.replicate k m) (List.replicate k n) = List.replicate k (max m n)
  | 0 => rfl
  | k + 1 => by simp only [List.replicate_succ, List.zipWith_cons_cons, zip_replicate m n k]
theorem E.dep_one {e : E} (h : e.dep ≤ 1) : e.leaf = true := by
  cases e with
  | lf n => rfl
  | nd n l r => have := l.dep_pos; simp only [E.dep] at h; omega
theorem rows_joinE : ∀ (d : Nat) (a b : E), a.dep ≤ d + 1 → b.dep ≤ d + 1 → rowE d (joinE d a b) = List.zipWith max (rowE d a) (rowE d b)
  | 0, a, b, ha, hb => by
    rw [E.leaf_lf (E.dep_one ha), E.leaf_lf (E.dep_one hb)]
    simp only [joinE, rowE_lf, zip_replicate, E.n]
  | d + 1, a, b, ha, hb => by
    simp only [joinE]
    split
    · rename_i h
      rw [E.leaf_lf h.1, E.leaf_lf h.2]
      simp only [rowE_lf, zip_replicate, E.n]
    · have h1 := a.half_dep false
      have h2 := a.half_dep true
      have h3 := b.half_dep false
      have h4 := b.half_dep true
      rw [rows_nodeE, rows_joinE d _ _ (by omega) (by omega), rows_joinE d _ _ (by omega) (by omega), rowE_split d a, rowE_split d b, List.zipWith_append (by rw [rowE_len, rowE_len])]
      simp
theorem joinE_short : ∀ (d : Nat) {a b : E}, a.short = true → b.short = true → (joinE d a b).short = true
  | 0, _, _, _, _ => rfl
  | d + 1, a, b, ha, hb => by
    simp only [joinE]
    split
    · rfl
    · exact nodeE_short (joinE_short d (a.half_short _ ha) (b.half_short _ hb)) (joinE_short d (a.half_short _ ha) (b.half_short _ hb))
theorem joinE_dep : ∀ (d : Nat) (a b : E), (joinE d a b).dep ≤ d + 1
  | 0, _, _ => by simp [joinE, E.dep]
  | d + 1, a, b => by
    simp only [joinE]
    split
    · simp [E.dep]
    · have := nodeE_dep 0 (joinE d (a.half false) (b.half false)) (joinE d (a.half true) (b.half true))
      have := joinE_dep d (a.half false) (b.half false)
      have := joinE_dep d (a.half true) (b.half true)
      omega
theorem joinE_nodes : ∀ (d : Nat) (a b : E), (joinE d a b).nodes < 2 ^ (d + 1)
  | 0, _, _ => by simp [joinE, E.nodes]
  | d + 1, a, b => by
    simp only [joinE]
    split
    · have : 0 < 2 ^ (d + 1) := Nat.pow_pos (by omega)
      simp only [E.nodes]; rw [Nat.pow_succ]; omega
    · have := nodeE_nodes 0 (joinE d (a.half false) (b.half false)) (joinE d (a.half true) (b.half true))
      have := joinE_nodes d (a.half false) (b.half false)
      have := joinE_nodes d (a.half true) (b.half true)
      rw [Nat.pow_succ]; omega

/-! ### the shortest tree of a row -/
def leastR (row : List Nat) : Nat := row.foldl min (row.headD 0)
def mostR (row : List Nat) : Nat := row.foldl max (row.headD 0)
theorem foldl_min (l : List Nat) : ∀ a, (l.foldl min a ≤ a ∧ ∀ x ∈ l, l.foldl min a ≤ x) ∧ (l.foldl min a = a ∨ l.foldl min a ∈ l) := by
  induction l with
  | nil => intro a; simp
  | cons y l ih =>
    intro a
    obtain ⟨⟨h1, h2⟩, h3⟩ := ih (min a y)
    simp only [List.foldl_cons, List.mem_cons, forall_eq_or_imp]
    refine ⟨⟨by omega, by omega, h2⟩, ?_⟩
    rcases h3 with h3 | h3
    · rw [h3]
      rcases Nat.le_total a y with h | h
      · left; omega
      · right; left; omega
    · right; right; exact h3
theorem foldl_max (l : List Nat) : ∀ a, (a ≤ l.foldl max a ∧ ∀ x ∈ l, x ≤ l.foldl max a) ∧ (l.foldl max a = a ∨ l.foldl max a ∈ l) := by
  induction l with
  | nil => intro a; simp
  | cons y l ih =>
    intro a
    obtain ⟨⟨h1, h2⟩, h3⟩ := ih (max a y)
    simp only [List.foldl_cons, List.mem_cons, forall_eq_or_imp]
    refine ⟨⟨by omega, by omega, h2⟩, ?_⟩
    rcases h3 with h3 | h3
    · rw [h3]
      rcases Nat.le_total a y with h | h
      · right; left; omega
      · left; omega
    · right; right; exact h3
theorem leastR_le {row : List Nat} : ∀ x ∈ row, leastR row ≤ x := (foldl_min row _).1.2
theorem leastR_mem {row : List Nat} (h : row ≠ []) : leastR row ∈ row := by
  obtain ⟨y, l, rfl⟩ := List.exists_cons_of_ne_nil h
  rcases (foldl_min (y :: l) ((y :: l).headD 0)).2 with h1 | h1
  · show List.foldl min _ _ ∈ _
    rw [h1]; simp
  · exact h1
theorem mostR_ge {row : List Nat} : ∀ x ∈ row, x ≤ mostR row := (foldl_max row _).1.2
theorem mostR_mem {row : List Nat} (h : row ≠ []) : mostR row ∈ row := by
  obtain ⟨y, l, rfl⟩ := List.exists_cons_of_ne_nil h
  rcases (foldl_max (y :: l) ((y :: l).headD 0)).2 with h1 | h1
  · show List.foldl max _ _ ∈ _
    rw [h1]; simp
  · exact h1
theorem leastR_eq {row : List Nat} {n : Nat} (h1 : n ∈ row) (h2 : ∀ x ∈ row, n ≤ x) : leastR row = n := by
  have a := leastR_le n h1
  have b := h2 _ (leastR_mem (by intro h; rw [h] at h1; simp at h1))
  omega
theorem mostR_eq {row : List Nat} {n : Nat} (h1 : n ∈ row) (h2 : ∀ x ∈ row, x ≤ n) : mostR row = n := by
  have a := mostR_ge n h1
  have b := h2 _ (mostR_mem (by intro h; rw [h] at h1; simp at h1))
  omega
theorem rowE_ne (d : Nat) (e : E) : rowE d e ≠ [] := by
  intro h
  have := rowE_len d e
  rw [h] at this
  have : 0 < 2 ^ d := Nat.pow_pos (by omega)
  simp at *; omega
/-- A short tree's own number is its row's least. -/
theorem rowE_least : ∀ (d : Nat) (e : E), e.short = true → e.dep ≤ d + 1 → e.n ∈ rowE d e ∧ ∀ x ∈ rowE d e, e.n ≤ x
  | d, .lf n, _, _ => by
    rw [rowE_lf]
    have : 0 < 2 ^ d := Nat.pow_pos (by omega)
    exact ⟨List.mem_replicate.2 ⟨by omega, rfl⟩, fun x hx => by rw [List.eq_of_mem_replicate hx]; exact Nat.le_refl _⟩
  | 0, .nd n l r, _, hd => by have := l.dep_pos; simp only [E.dep] at hd; omega
  | d + 1, .nd n l r, hs, hd => by
    simp only [E.short, Bool.and_eq_true, Bool.or_eq_true, decide_eq_true_eq] at hs
    simp only [E.dep] at hd
    obtain ⟨a1, a2⟩ := rowE_least d l hs.1.1.1 (by omega)
    obtain ⟨b1, b2⟩ := rowE_least d r hs.1.1.2 (by omega)
    simp only [rowE, E.n, List.mem_map, List.mem_append]
    constructor
    · rcases hs.1.2 with h | h
      · exact ⟨0, .inl (h ▸ a1), by omega⟩
      · exact ⟨0, .inr (h ▸ b1), by omega⟩
    · rintro x ⟨y, _, rfl⟩; omega
theorem rowE_const : ∀ (d : Nat) (e : E), e.short = true → e.dep ≤ d + 1 → ∀ c, (∀ x ∈ rowE d e, x = c) → e = .lf c
  | d, .lf n, _, _, c, h => by
    rw [rowE_lf] at h
    have : 0 < 2 ^ d := Nat.pow_pos (by omega)
    rw [h n (List.mem_replicate.2 ⟨by omega, rfl⟩)]
  | 0, .nd n l r, _, hd, _, _ => by have := l.dep_pos; simp only [E.dep] at hd; omega
  | d + 1, .nd n l r, hs, hd, c, h => by
    have hs' := hs
    simp only [E.short, Bool.and_eq_true, Bool.or_eq_true, decide_eq_true_eq] at hs'
    simp only [E.dep] at hd
    simp only [rowE, List.mem_map, List.mem_append] at h
    have hl := rowE_const d l hs'.1.1.1 (by omega) (c - n) (fun x hx => by have := h (n + x) ⟨x, .inl hx, rfl⟩; omega)
    have hr := rowE_const d r hs'.1.1.2 (by omega) (c - n) (fun x hx => by have := h (n + x) ⟨x, .inr hx, rfl⟩; omega)
    subst hl hr
    simp [E.leaf, E.n] at hs'
def treeE : Nat → List Nat → Nat → E
  | 0, row, below => .lf (leastR row - below)
  | d + 1, row, below => if leastR row = mostR row then .lf (leastR row - below) else .nd (leastR row - below) (treeE d (row.take (2 ^ d)) (leastR row)) (treeE d (row.drop (2 ^ d)) (leastR row))
theorem treeE_lift : ∀ (d : Nat) (e : E) (b : Nat), e.short = true → e.dep ≤ d + 1 → treeE d (rowE d (e.lift b)) b = e
  | 0, e, b, hs, hd => by
    have hl := E.leaf_lf (E.dep_one hd)
    have := rowE_least 0 (e.lift b) (by rw [E.lift_short]; exact hs) (by rw [E.lift_dep]; exact hd)
    simp only [treeE]
    rw [leastR_eq this.1 this.2, E.lift_n, Nat.add_sub_cancel, ← hl]
  | d + 1, e, b, hs, hd => by
    have hr := rowE_least (d + 1) (e.lift b) (by rw [E.lift_short]; exact hs) (by rw [E.lift_dep]; exact hd)
    have hle := leastR_eq hr.1 hr.2
    simp only [treeE]
    rw [hle]
    split
    · rename_i hc
      have := rowE_const (d + 1) (e.lift b) (by rw [E.lift_short]; exact hs) (by rw [E.lift_dep]; exact hd) (e.lift b).n (fun x hx => by
        have h1 := hr.2 x hx
        have h2 := mostR_ge x hx
        omega)
      have h2 : e = .lf e.n := by
        cases e with
        | lf n => rfl
        | nd n l r => simp [E.lift] at this
      rw [E.lift_n, Nat.add_sub_cancel, ← h2]
    · rename_i hc
      cases e with
      | lf n =>
        exfalso; apply hc
        simp only [E.lift, E.n, rowE_lf]
        have : 0 < 2 ^ (d + 1) := Nat.pow_pos (by omega)
        rw [mostR_eq (n := n + b) (List.mem_replicate.2 ⟨by omega, rfl⟩) (fun x hx => by rw [List.eq_of_mem_replicate hx]; exact Nat.le_refl _)]
      | nd n l r =>
        simp only [E.short, Bool.and_eq_true] at hs
        simp only [E.dep] at hd
        have e1 : (rowE (d + 1) ((E.nd n l r).lift b)).take (2 ^ d) = rowE d (l.lift (n + b)) := by
          show (((rowE d l ++ rowE d r).map (n + b + ·))).take (2 ^ d) = _
          rw [List.map_append, List.take_append_of_le_length (by rw [List.length_map, rowE_len]; omega), List.take_of_length_le (by rw [List.length_map, rowE_len]; omega), rowE_lift]
        have e2 : (rowE (d + 1) ((E.nd n l r).lift b)).drop (2 ^ d) = rowE d (r.lift (n + b)) := by
          show (((rowE d l ++ rowE d r).map (n + b + ·))).drop (2 ^ d) = _
          rw [List.map_append, List.drop_append, List.length_map, rowE_len, Nat.sub_self, List.drop_zero, List.drop_of_length_le (by rw [List.length_map, rowE_len]; omega), List.nil_append, rowE_lift]
        rw [e1, e2]
        show E.nd (n + b - b) (treeE d _ (n + b)) (treeE d _ (n + b)) = _
        rw [Nat.add_sub_cancel, treeE_lift d l (n + b) hs.1.1.1 (by omega), treeE_lift d r (n + b) hs.1.1.2 (by omega)]
theorem treeE_row (d : Nat) (e : E) (hs : e.short = true) (hd : e.dep ≤ d + 1) : treeE d (rowE d e) 0 = e := by
  have := treeE_lift d e 0 hs hd
  rwa [E.lift_zero] at this
/-- The shortest tree of the greater counts is what join makes. -/
theorem tree_joinE (d : Nat) (a b : E) (ha : a.short = true) (hb : b.short = true) (da : a.dep ≤ d + 1) (db : b.dep ≤ d + 1) : treeE d (List.zipWith max (rowE d a) (rowE d b)) 0 = joinE d a b := by
  rw [← rows_joinE d a b da db]
  exact treeE_row d _ (joinE_short d ha hb) (joinE_dep d a b)

/-! ### a place's count -/
def valE : E → Nat → Nat → Nat
  | .lf n, _, _ => n
  | .nd n l r, p, b => n + (if p / b % 2 = 0 then valE l p (b / 2) else valE r p (b / 2))
theorem rowE_at : ∀ (d : Nat) (b : E) (p : Nat), b.dep ≤ d + 1 → (rowE d b)[p % 2 ^ d]? = some (valE b p (2 ^ d / 2))
  | d, .lf o, p, _ => by
    rw [rowE_lf, List.getElem?_replicate, if_pos (Nat.mod_lt _ (Nat.pow_pos (by omega)))]; rfl
  | 0, .nd n l r, p, hd => by
    have : 1 ≤ l.dep := l.dep_pos
    simp only [E.dep] at hd; omega
  | d + 1, .nd n l r, p, hd => by
    have e : 2 ^ (d + 1) / 2 = 2 ^ d := by rw [Nat.pow_succ]; omega
    simp only [E.dep] at hd
    have hl := rowE_at d l p (by omega)
    have hr := rowE_at d r p (by omega)
    have hpos : 0 < 2 ^ d := Nat.pow_pos (by omega)
    have hm : p % 2 ^ (d + 1) = p % 2 ^ d + 2 ^ d * (p / 2 ^ d % 2) := Nat.mod_pow_succ
    simp only [rowE, valE, e, List.getElem?_map]
    by_cases hz : p / 2 ^ d % 2 = 0
    · rw [if_pos hz, hm, hz, Nat.mul_zero, Nat.add_zero, List.getElem?_append_left (by rw [rowE_len]; exact Nat.mod_lt _ hpos), hl]; rfl
    · have h1 : p / 2 ^ d % 2 = 1 := by omega
      rw [if_neg hz, hm, h1, Nat.mul_one, List.getElem?_append_right (by rw [rowE_len]; omega), rowE_len, Nat.add_sub_cancel, hr]; rfl
theorem valE_top : ∀ (e : E) (p b : Nat), valE e p b ≤ e.top
  | .lf n, _, _ => by simp [valE, E.top]
  | .nd n l r, p, b => by
    simp only [valE, E.top]
    have := valE_top l p (b / 2)
    have := valE_top r p (b / 2)
    split <;> omega

/-! ### rows as values; rows that are filled -/
abbrev ivs (ns : List Nat) : List AV := ns.map fun n => .int .i64 (n : Nat)
theorem ivs_len (ns : List Nat) : (ivs ns).length = ns.length := by simp
theorem frz_ivs {α : Type} (n : Nat) (H : Heap) : ∀ (ns : List Nat) (ok : List AV → List (Nat × Nat) → α) (bd : α), mapK (frzK (n + 1) H) (ivs ns) ok bd = ok (ivs ns) []
  | [], ok, bd => by simp [mapK]
  | c :: cs, ok, bd => by
    show frzK (n + 1) H (.int .i64 (c : Nat)) (fun c' i => mapK (frzK (n + 1) H) (ivs cs) (fun cs' j => ok (c' :: cs') (i ++ j)) bd) bd = _
    rw [frzK_int, frz_ivs n H cs]; rfl
abbrev partR (L : List AV) (z : AV) (i : Nat) : List AV := L.take i ++ List.replicate (L.length - i) z
theorem partR_put (L : List AV) (z x : AV) (i : Nat) (h : L[i]? = some x) : (partR L z i).take i ++ [x] ++ (partR L z i).drop (i + 1) = partR L z (i + 1) := by
  have hi : i < L.length := (List.getElem?_eq_some_iff.1 h).1
  have h1 : (L.take i).length = i := by simp; omega
  have h2 : (partR L z i).take i = L.take i := by
    show List.take i (_ ++ _) = _
    rw [List.take_append_of_le_length (by omega), List.take_of_length_le (by omega)]
  have h3 : (partR L z i).drop (i + 1) = List.replicate (L.length - (i + 1)) z := by
    show List.drop (i + 1) (_ ++ _) = _
    rw [List.drop_append, List.drop_of_length_le (by omega), h1, show i + 1 - i = 1 by omega, List.drop_replicate, List.nil_append]
    congr 1
  rw [h2, h3]
  show _ = List.take (i + 1) L ++ _
  rw [List.take_add_one, h]; rfl
theorem partR_len (L : List AV) (z : AV) (i : Nat) (hi : i ≤ L.length) : (partR L z i).length = L.length := by simp; omega
theorem partR_all (L : List AV) (z : AV) : partR L z L.length = L := by
  show List.take _ _ ++ List.replicate _ _ = _
  rw [List.take_length, Nat.sub_self]; simp
end Go.Ev
