/- Rows of places, and the shortest tree of a row: plain. -/
import Derived.Test.YtmokhopjnjecbabWJoin
namespace Go.Proofs.Ytmokhopjnjecbab
open Go.Ev
set_option linter.unusedVariables false
set_option linter.unnecessarySimpa false

def rowsF : Nat → B → List Bool
  | d, .lf o => List.replicate (2 ^ d) o
  | 0, .nd l r => [false]
  | d + 1, .nd l r => rowsF d l ++ rowsF d r
theorem rowsF_len : ∀ (d : Nat) (b : B), (rowsF d b).length = 2 ^ d
  | d, .lf o => by cases d <;> simp [rowsF]
  | 0, .nd l r => by simp [rowsF]
  | d + 1, .nd l r => by simp only [rowsF, List.length_append, rowsF_len, Nat.pow_succ]; omega
/-- Short, and all places alike: a leaf. -/
theorem short_const : ∀ (d : Nat) (b : B), b.short = true → b.dep ≤ d + 1 → ∀ o, (∀ x ∈ rowsF d b, x = o) → b = .lf o
  | d, .lf o', _, _, o, h => by
    have : o' ∈ rowsF d (.lf o') := by
      have hp : 0 < 2 ^ d := Nat.pow_pos (by omega)
      cases d <;> simp [rowsF]
    rw [h o' this]
  | 0, .nd l r, _, hd, o, h => by
    have : 1 ≤ l.dep := by cases l <;> simp [B.dep]
    simp only [B.dep] at hd; omega
  | d + 1, .nd l r, hs, hd, o, h => by
    simp only [B.short, Bool.and_eq_true] at hs
    simp only [B.dep] at hd
    simp only [rowsF, List.mem_append] at h
    have hl := short_const d l hs.1.1 (by omega) o (fun x hx => h x (.inl hx))
    have hr := short_const d r hs.1.2 (by omega) o (fun x hx => h x (.inr hx))
    subst hl hr
    simp [lfEq, B.t, Tree.ps, Tree.one] at hs
def treeF : Nat → List Bool → B
  | 0, row => .lf (row.headD false)
  | d + 1, row => if row.all (· == row.headD false) then .lf (row.headD false) else .nd (treeF d (row.take (2 ^ d))) (treeF d (row.drop (2 ^ d)))
theorem treeF_rows : ∀ (d : Nat) (b : B), b.short = true → b.dep ≤ d + 1 → treeF d (rowsF d b) = b
  | 0, .lf o, _, _ => by simp [treeF, rowsF]
  | 0, .nd l r, _, hd => by
    have : 1 ≤ l.dep := by cases l <;> simp [B.dep]
    simp only [B.dep] at hd; omega
  | d + 1, .lf o, _, _ => by
    have hh : (rowsF (d + 1) (.lf o)).headD false = o := by
      have hp : 2 ^ (d + 1) ≠ 0 := by have : 0 < 2 ^ (d + 1) := Nat.pow_pos (by omega)
                                      omega
      obtain ⟨m, hm⟩ := Nat.exists_eq_succ_of_ne_zero hp
      simp only [rowsF, hm, List.replicate_succ, List.headD_cons]
    simp only [treeF, hh]
    rw [if_pos]
    simp [rowsF]
  | d + 1, .nd l r, hs, hd => by
    have hs' := hs
    simp only [B.short, Bool.and_eq_true] at hs'
    have hd' := hd
    simp only [B.dep] at hd'
    have hn : ¬ (rowsF (d + 1) (.nd l r)).all (· == (rowsF (d + 1) (.nd l r)).headD false) = true := by
      intro h
      have := short_const (d + 1) (.nd l r) hs hd ((rowsF (d + 1) (.nd l r)).headD false) (fun x hx => by simpa using List.all_eq_true.1 h x hx)
      cases this
    simp only [treeF]
    rw [if_neg hn]
    have e1 : (rowsF (d + 1) (.nd l r)).take (2 ^ d) = rowsF d l := by
      simp only [rowsF]; rw [List.take_append_of_le_length (by rw [rowsF_len]; omega), List.take_of_length_le (by rw [rowsF_len]; omega)]
    have e2 : (rowsF (d + 1) (.nd l r)).drop (2 ^ d) = rowsF d r := by
      simp only [rowsF]; rw [List.drop_append, rowsF_len, Nat.sub_self, List.drop_zero, List.drop_of_length_le (by rw [rowsF_len]; omega), List.nil_append]
    rw [e1, e2, treeF_rows d l hs'.1.1 (by omega), treeF_rows d r hs'.1.2 (by omega)]
theorem nodeB_short {l r : B} (hl : l.short = true) (hr : r.short = true) : (nodeB l r).short = true := by
  cases l with
  | nd a b => simp [nodeB, B.short, lfEq, B.t, Tree.ps] at *; exact ⟨hl, hr⟩
  | lf a =>
    cases r with
    | nd c d => simp [nodeB, B.short, lfEq, B.t, Tree.ps] at *; exact hr
    | lf b =>
      by_cases h : a = b
      · simp [nodeB, h, B.short]
      · simp [nodeB, h, B.short, lfEq, B.t, Tree.ps, Tree.one]
theorem joinB_short : ∀ {a b : B}, a.short = true → b.short = true → (joinB a b).short = true
  | .lf false, b, _, h => by simpa [joinB] using h
  | .lf true, b, _, _ => by simp [joinB, B.short]
  | .nd l r, .lf o, h, _ => by simpa [joinB] using h
  | .nd l r, .nd l' r', h, h' => by
    simp only [B.short, Bool.and_eq_true] at h h'
    simp only [joinB]
    exact nodeB_short (joinB_short h.1.1 h'.1.1) (joinB_short h.1.2 h'.1.2)
theorem rows_node (d : Nat) (l r : B) : rowsF (d + 1) (nodeB l r) = rowsF d l ++ rowsF d r := by
  cases l with
  | nd a b => simp [nodeB, rowsF]
  | lf a =>
    cases r with
    | nd a b => simp [nodeB, rowsF]
    | lf b =>
      by_cases h : a = b
      · subst h
        simp only [nodeB, if_pos, rowsF]
        rw [List.replicate_append_replicate]
        congr 1
        rw [Nat.pow_succ]; omega
      · simp only [nodeB, if_neg h, rowsF]
theorem or_false_l : ∀ (n : Nat) (l : List Bool), l.length = n → List.zipWith (· || ·) (List.replicate n false) l = l
  | 0, [], _ => rfl
  | 0, _ :: _, h => by simp at h
  | n + 1, [], h => by simp at h
  | n + 1, x :: l, h => by simp only [List.replicate_succ, List.zipWith_cons_cons, Bool.false_or, or_false_l n l (by simpa using h)]
theorem or_false_r : ∀ (n : Nat) (l : List Bool), l.length = n → List.zipWith (· || ·) l (List.replicate n false) = l
  | 0, [], _ => rfl
  | 0, _ :: _, h => by simp at h
  | n + 1, [], h => by simp at h
  | n + 1, x :: l, h => by simp only [List.replicate_succ, List.zipWith_cons_cons, Bool.or_false, or_false_r n l (by simpa using h)]
theorem rows_join : ∀ (d : Nat) (a b : B), apartB a b = true → a.dep ≤ d + 1 → b.dep ≤ d + 1 → rowsF d (joinB a b) = List.zipWith (· || ·) (rowsF d a) (rowsF d b)
  | d, .lf false, b, _, _, _ => by
    have := or_false_l (2 ^ d) (rowsF d b) (rowsF_len d b)
    cases d <;> simpa [joinB, rowsF] using this.symm
  | d, .lf true, .lf false, _, _, _ => by
    cases d <;> simp [joinB, rowsF]
  | d, .lf true, .lf true, h, _, _ => by simp [apartB] at h
  | d, .lf true, .nd l r, h, _, _ => by simp [apartB] at h
  | d, .nd l r, .lf true, h, _, _ => by simp [apartB] at h
  | d, .nd l r, .lf false, h, _, _ => by
    have := or_false_r (2 ^ d) (rowsF d (.nd l r)) (rowsF_len d _)
    have e : rowsF d (.lf false) = List.replicate (2 ^ d) false := by cases d <;> rfl
    rw [e]; exact this.symm
  | 0, .nd l r, .nd l' r', _, h, _ => by
    have : 1 ≤ l.dep := by cases l <;> simp [B.dep]
    simp only [B.dep] at h; omega
  | d + 1, .nd l r, .nd l' r', h, h1, h2 => by
    simp only [apartB, Bool.and_eq_true] at h
    simp only [B.dep] at h1 h2
    simp only [joinB, rows_node, rowsF]
    rw [rows_join d l l' h.1 (by omega) (by omega), rows_join d r r' h.2 (by omega) (by omega), List.zipWith_append (by rw [rowsF_len, rowsF_len])]
theorem nodeB_dep (l r : B) : (nodeB l r).dep ≤ max l.dep r.dep + 1 := by
  cases l with
  | nd a b => simp [nodeB, B.dep]
  | lf a =>
    cases r with
    | nd c d => simp [nodeB, B.dep]
    | lf b => by_cases h : a = b <;> simp [nodeB, h, B.dep]
theorem joinB_dep : ∀ (a b : B), (joinB a b).dep ≤ max a.dep b.dep
  | .lf false, b => by simp only [joinB]; omega
  | .lf true, b => by simp only [joinB]; omega
  | .nd l r, .lf o => by simp only [joinB]; omega
  | .nd l r, .nd l' r' => by
    simp only [joinB, B.dep]
    have := nodeB_dep (joinB l l') (joinB r r')
    have := joinB_dep l l'
    have := joinB_dep r r'
    omega
/-- The shortest tree of both rows is what join makes. -/
theorem tree_join (a b : B) (ha : a.short = true) (hb : b.short = true) (da : a.dep ≤ 8) (db : b.dep ≤ 8) (h : apartB a b = true) : treeF 7 (List.zipWith (· || ·) (rowsF 7 a) (rowsF 7 b)) = joinB a b := by
  rw [← rows_join 7 a b h (by omega) (by omega)]
  exact treeF_rows 7 _ (joinB_short ha hb) (by have := joinB_dep a b; omega)
/-- A place that both have? -/
def anyBoth (xs ys : List Bool) : Bool := (List.zipWith (· && ·) xs ys).any id
theorem any_false_l : ∀ (n : Nat) (l : List Bool), anyBoth (List.replicate n false) l = false
  | 0, l => by simp [anyBoth]
  | n + 1, [] => by simp [anyBoth]
  | n + 1, x :: l => by have := any_false_l n l; simp [anyBoth, List.replicate_succ] at this ⊢; exact this
theorem any_false_r : ∀ (n : Nat) (l : List Bool), anyBoth l (List.replicate n false) = false
  | 0, l => by simp [anyBoth]
  | n + 1, [] => by simp [anyBoth]
  | n + 1, x :: l => by have := any_false_r n l; simp [anyBoth, List.replicate_succ] at this ⊢; exact this
theorem any_true_l : ∀ (n : Nat) (l : List Bool), l.length = n → anyBoth (List.replicate n true) l = l.any id
  | 0, [], _ => rfl
  | 0, _ :: _, h => by simp at h
  | n + 1, [], h => by simp at h
  | n + 1, x :: l, h => by have := any_true_l n l (by simpa using h); simp only [anyBoth, List.replicate_succ, List.zipWith_cons_cons, List.any_cons, Bool.true_and] at this ⊢; rw [this]
theorem any_true_r : ∀ (n : Nat) (l : List Bool), l.length = n → anyBoth l (List.replicate n true) = l.any id
  | 0, [], _ => rfl
  | 0, _ :: _, h => by simp at h
  | n + 1, [], h => by simp at h
  | n + 1, x :: l, h => by have := any_true_r n l (by simpa using h); simp only [anyBoth, List.replicate_succ, List.zipWith_cons_cons, List.any_cons, Bool.and_true] at this ⊢; rw [this]
theorem nd_any {d : Nat} {l r : B} (hs : (B.nd l r).short = true) (hd : (B.nd l r).dep ≤ d + 1) : (rowsF d (.nd l r)).any id = true := by
  cases h : (rowsF d (.nd l r)).any id with
  | true => rfl
  | false =>
    have := short_const d (.nd l r) hs hd false (fun x hx => by simpa using List.any_eq_false.1 h x hx)
    cases this
theorem rowsF_lf (d : Nat) (o : Bool) : rowsF d (.lf o) = List.replicate (2 ^ d) o := by cases d <;> rfl
theorem apart_rows : ∀ (d : Nat) (a b : B), a.short = true → b.short = true → a.dep ≤ d + 1 → b.dep ≤ d + 1 → apartB a b = !anyBoth (rowsF d a) (rowsF d b)
  | d, .lf false, b, _, _, _, _ => by rw [rowsF_lf, any_false_l]; cases b <;> rfl
  | d, .lf true, .lf false, _, _, _, _ => by rw [rowsF_lf, rowsF_lf, any_false_r]; rfl
  | d, .lf true, .lf true, _, _, _, _ => by
    rw [rowsF_lf, any_true_l _ _ (by simp)]
    have hp : 2 ^ d ≠ 0 := by have : 0 < 2 ^ d := Nat.pow_pos (by omega)
                              omega
    obtain ⟨m, hm⟩ := Nat.exists_eq_succ_of_ne_zero hp
    simp [hm, List.replicate_succ, apartB]
  | d, .lf true, .nd l r, _, hs, _, hd => by
    rw [rowsF_lf, any_true_l _ _ (rowsF_len d _), nd_any hs hd]; rfl
  | d, .nd l r, .lf true, hs, _, hd, _ => by
    rw [rowsF_lf, any_true_r _ _ (rowsF_len d _), nd_any hs hd]; rfl
  | d, .nd l r, .lf false, _, _, _, _ => by rw [rowsF_lf, any_false_r]; rfl
  | 0, .nd l r, .nd l' r', _, _, h, _ => by
    have : 1 ≤ l.dep := by cases l <;> simp [B.dep]
    simp only [B.dep] at h; omega
  | d + 1, .nd l r, .nd l' r', h, h', h1, h2 => by
    simp only [B.short, Bool.and_eq_true] at h h'
    simp only [B.dep] at h1 h2
    simp only [apartB, rowsF]
    rw [apart_rows d l l' h.1.1 h'.1.1 (by omega) (by omega), apart_rows d r r' h.1.2 h'.1.2 (by omega) (by omega)]
    simp only [anyBoth]
    rw [List.zipWith_append (by rw [rowsF_len, rowsF_len]), List.any_append, Bool.not_or]
end Go.Proofs.Ytmokhopjnjecbab
