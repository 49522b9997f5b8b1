/- Trees of events, and what the words say of them: plain. -/
import Derived.Test.YtmokhopjnjecbaaEvQ
namespace Go.Ev
set_option linter.unusedVariables false

inductive ET where
  | mk (n : Int) (ps : List ET)
def ET.n : ET → Int | .mk o _ => o
def ET.ps : ET → List ET | .mk _ ps => ps
theorem ET.eta (t : ET) : ET.mk t.n t.ps = t := by cases t; rfl
mutual
def xtav : ET → AV
  | .mk o ps => .agg [.int .i64 o, .fz 2 (xtavs ps) none]
def xtavs : List ET → List AV
  | [] => []
  | p :: ps => xtav p :: xtavs ps
end
/-- A tree, as a value. -/
abbrev xtv (t : ET) : AV := .agg [.int .i64 t.n, .fz 2 (xtavs t.ps) none]
theorem xtav_tv (t : ET) : xtav t = xtv t := by cases t; simp only [xtav]; rfl
theorem xtavs_len : ∀ ps, (xtavs ps).length = ps.length
  | [] => by simp only [xtavs, List.length_nil]
  | p :: ps => by simp only [xtavs, List.length_cons, xtavs_len ps]
theorem xtavs_get : ∀ (ps : List ET) (i : Nat), (xtavs ps)[i]? = ps[i]?.map xtv
  | [], i => by simp [xtavs]
  | p :: ps, 0 => by simp [xtavs, xtav_tv]
  | p :: ps, i + 1 => by simp only [xtavs, List.getElem?_cons_succ]; exact xtavs_get ps i
theorem xtavs_append : ∀ (a b : List ET), xtavs a ++ xtavs b = xtavs (a ++ b)
  | [], b => by simp [xtavs]
  | p :: a, b => by simp [xtavs, xtavs_append a b]

mutual
def ET.size : ET → Nat
  | .mk _ ps => 1 + xsizes ps
def xsizes : List ET → Nat
  | [] => 0
  | p :: ps => p.size + xsizes ps
end
theorem xsize_mem {p : ET} : ∀ {ps : List ET}, p ∈ ps → p.size ≤ xsizes ps
  | q :: ps, h => by
    simp only [xsizes]
    rcases List.mem_cons.1 h with rfl | h
    · omega
    · have := xsize_mem h; omega
theorem xsize_ps (t : ET) : t.size = 1 + xsizes t.ps := by cases t; simp only [ET.size, ET.ps]
theorem xsize_lt {t p : ET} (h : p ∈ t.ps) : p.size < t.size := by have := xsize_mem h; rw [xsize_ps t]; omega
/-- Whoever holds of a tree if it holds of its parts holds of all. -/
theorem ET.ind {C : ET → Prop} (h : ∀ t, (∀ p ∈ t.ps, C p) → C t) : ∀ t, C t := by
  have key : ∀ n t, t.size < n → C t := by
    intro n
    induction n with
    | zero => intro t ht; omega
    | succ n ih => exact fun t ht => h t (fun p hp => ih p (by have := xsize_lt hp; omega))
  exact fun t => key _ t (Nat.lt_succ_self _)

/-- How xdeep, as far as so many levels. -/
def xdeepL (f : ET → Nat) : Nat → List ET → Nat
  | n, [] => n
  | n, p :: ps => xdeepL f (max n (f p)) ps
def xdeep : Nat → ET → Nat
  | 0, _ => 1
  | m + 1, t => xdeepL (xdeep m) 0 t.ps + 1
/-- No deeper than that. -/
def xflatTo : Nat → ET → Prop
  | 0, _ => False
  | d + 1, t => ∀ p ∈ t.ps, xflatTo d p
theorem xdeepL_le (f : ET → Nat) (b : Nat) : ∀ (n : Nat) (ps : List ET), xdeepL f n ps ≤ b ↔ n ≤ b ∧ ∀ p ∈ ps, f p ≤ b
  | n, [] => by simp [xdeepL]
  | n, p :: ps => by
    simp only [xdeepL, xdeepL_le f b _ ps, List.mem_cons, forall_eq_or_imp]
    constructor
    · rintro ⟨h1, h2⟩; exact ⟨by omega, by omega, h2⟩
    · rintro ⟨h1, h2, h3⟩; exact ⟨by omega, h3⟩
theorem xdeep_pos (m : Nat) (t : ET) : 1 ≤ xdeep m t := by cases m <;> simp [xdeep]
theorem xdeep_le : ∀ (m : Nat) (t : ET), xdeep m t ≤ m ↔ xflatTo m t
  | 0, t => by simp [xdeep, xflatTo]
  | m + 1, t => by
    simp only [xdeep, xflatTo, Nat.add_le_add_iff_right, xdeepL_le, Nat.zero_le, true_and]
    exact ⟨fun h p hp => (xdeep_le m p).1 (h p hp), fun h p hp => (xdeep_le m p).2 (h p hp)⟩
theorem xdeep_max : ∀ (m : Nat) (t : ET), xdeep m t ≤ m + 1
  | 0, t => by simp [xdeep]
  | m + 1, t => by
    simp only [xdeep, Nat.add_le_add_iff_right]
    exact (xdeepL_le _ _ _ _).2 ⟨by omega, fun p hp => xdeep_max m p⟩

/-- How many nodes: 61 where it is too xdeep, or not of two parts or none. -/
def xcntL (f : ET → Nat) : Nat → List ET → Nat
  | n, [] => n
  | n, p :: ps => if 60 < n + f p then 61 else xcntL f (n + f p) ps
def xcnt : Nat → ET → Nat
  | 0, _ => 61
  | d + 1, t => if t.n < 0 ∨ 1099511627776 < t.n ∨ (¬ t.ps.length = 0 ∧ ¬ t.ps.length = 2) then 61 else xcntL (xcnt d) 1 t.ps
theorem xcntL_le (f : ET → Nat) : ∀ (n : Nat) (ps : List ET), n ≤ 61 → xcntL f n ps ≤ 61
  | n, [], h => h
  | n, p :: ps, h => by
    simp only [xcntL]; split
    · omega
    · exact xcntL_le f _ ps (by omega)
theorem xcnt_le : ∀ (d : Nat) (t : ET), xcnt d t ≤ 61
  | 0, t => by simp [xcnt]
  | d + 1, t => by
    simp only [xcnt]; split
    · omega
    · exact xcntL_le _ _ _ (by omega)
/-! ### trees compared -/
def xsmL (f : ET → ET → Bool) : List ET → List ET → Bool
  | p :: ps, q :: qs => f p q && xsmL f ps qs
  | _, _ => true
def xsm : Nat → ET → ET → Bool
  | 0, _, _ => false
  | d + 1, a, b => decide (a.n = b.n ∧ a.ps.length = b.ps.length) && xsmL (xsm d) a.ps b.ps
theorem xsmL_iff (f : ET → ET → Bool) (P : ET → Prop) : ∀ (ps qs : List ET), ps.length = qs.length → (∀ p ∈ ps, ∀ q, f p q = true ↔ p = q ∧ P p) → (xsmL f ps qs = true ↔ ps = qs ∧ ∀ p ∈ ps, P p)
  | [], [], _, _ => by simp [xsmL]
  | [], _ :: _, h, _ => by simp at h
  | _ :: _, [], h, _ => by simp at h
  | p :: ps, q :: qs, h, hf => by
    have ih := xsmL_iff f P ps qs (by simpa using h) (fun x hx => hf x (List.mem_cons_of_mem _ hx))
    simp only [xsmL, Bool.and_eq_true, ih, hf p (List.mem_cons_self) q, List.cons.injEq, List.mem_cons, forall_eq_or_imp]
    constructor
    · rintro ⟨⟨a, b⟩, c, d⟩; exact ⟨⟨a, c⟩, b, d⟩
    · rintro ⟨⟨a, c⟩, b, d⟩; exact ⟨⟨a, b⟩, c, d⟩
theorem xsm_iff : ∀ (d : Nat) (a b : ET), xsm d a b = true ↔ a = b ∧ xflatTo d a
  | 0, a, b => by simp [xsm, xflatTo]
  | d + 1, a, b => by
    simp only [xsm, Bool.and_eq_true, decide_eq_true_eq, xflatTo]
    constructor
    · rintro ⟨⟨h1, h2⟩, h3⟩
      have := (xsmL_iff (xsm d) (xflatTo d) a.ps b.ps h2 (fun p _ q => xsm_iff d p q)).1 h3
      exact ⟨by rw [← a.eta, ← b.eta, h1, this.1], this.2⟩
    · rintro ⟨rfl, h⟩
      exact ⟨⟨rfl, rfl⟩, (xsmL_iff (xsm d) (xflatTo d) a.ps a.ps rfl (fun p _ q => xsm_iff d p q)).2 ⟨rfl, h⟩⟩
/-- Alike? -/
noncomputable def xteq (a b : ET) : Bool := @decide (a = b) (Classical.propDecidable _)
theorem xteq_true {a b : ET} : xteq a b = true ↔ a = b := by simp [xteq]
theorem xteq_step (a b : ET) : xteq a b = (decide (a.n = b.n ∧ a.ps.length = b.ps.length) && xsmL xteq a.ps b.ps) := by
  rw [Bool.eq_iff_iff, xteq_true, Bool.and_eq_true, decide_eq_true_eq]
  constructor
  · rintro rfl
    exact ⟨⟨rfl, rfl⟩, (xsmL_iff xteq (fun _ => True) _ _ rfl (fun p _ q => by simp [xteq_true])).2 ⟨rfl, by simp⟩⟩
  · rintro ⟨⟨h1, h2⟩, h3⟩
    have := (xsmL_iff xteq (fun _ => True) a.ps b.ps h2 (fun p _ q => by simp [xteq_true])).1 h3
    rw [← a.eta, ← b.eta, h1, this.1]
/-! ### as the law's bound counts -/
def xlcntL (f : ET → Nat) : Nat → List ET → Nat
  | n, [] => n
  | n, p :: ps => if 1000 < n + f p then n + f p else xlcntL f (n + f p) ps
def xlcnt : Nat → ET → Nat
  | 0, _ => 2000
  | m + 1, t => xlcntL (xlcnt m) 1 t.ps
theorem xlcntL_le (f : ET → Nat) (hf : ∀ t, f t ≤ 3000) : ∀ (n : Nat) (ps : List ET), n ≤ 1000 → xlcntL f n ps ≤ 4000
  | n, [], h => by simp [xlcntL]; omega
  | n, p :: ps, h => by
    simp only [xlcntL]; have := hf p; split
    · omega
    · exact xlcntL_le f hf _ ps (by omega)
theorem xlcntL_le2 (f : ET → Nat) (b : Nat) (hf : ∀ t, f t ≤ b) : ∀ (n : Nat) (ps : List ET), n ≤ 1000 → xlcntL f n ps ≤ 1000 + b
  | n, [], h => by simp [xlcntL]; omega
  | n, p :: ps, h => by
    simp only [xlcntL]; have := hf p; split
    · omega
    · exact xlcntL_le2 f b hf _ ps (by omega)
theorem xlcnt_le : ∀ (m : Nat) (t : ET), xlcnt m t ≤ 2000 + 1000 * m
  | 0, t => by simp [xlcnt]
  | m + 1, t => by
    simp only [xlcnt]
    have := xlcntL_le2 (xlcnt m) _ (fun t => xlcnt_le m t) 1 t.ps (by omega)
    omega
theorem xlcnt_pos : ∀ (m : Nat) (t : ET), 1 ≤ xlcnt m t := by
  intro m
  have key : ∀ (f : ET → Nat) (n : Nat) (ps : List ET), 1 ≤ n → 1 ≤ xlcntL f n ps := by
    intro f n ps
    induction ps generalizing n with
    | nil => intro h; exact h
    | cons p ps ih =>
      intro h
      simp only [xlcntL]; split
      · omega
      · exact ih _ (by omega)
  intro t
  cases m with
  | zero => simp [xlcnt]
  | succ m => exact key _ _ _ (Nat.le_refl _)
theorem xlcntL_size (f : ET → Nat) (hf : ∀ t, f t ≤ 1000 → t.size ≤ f t) : ∀ (n : Nat) (ps : List ET), xlcntL f n ps ≤ 1000 → n + xsizes ps ≤ xlcntL f n ps
  | n, [], h => by simp [xlcntL, xsizes]
  | n, p :: ps, h => by
    simp only [xlcntL, xsizes] at h ⊢
    split at h
    · omega
    · rename_i h1
      rw [if_neg h1]
      have := hf p (by omega)
      have := xlcntL_size f hf _ ps h
      omega
theorem xlcnt_size : ∀ (m : Nat) (t : ET), xlcnt m t ≤ 1000 → t.size ≤ xlcnt m t
  | 0, t, h => by simp [xlcnt] at h
  | m + 1, t, h => by
    simp only [xlcnt] at h ⊢
    have := xlcntL_size (xlcnt m) (xlcnt_size m) 1 t.ps h
    rw [xsize_ps]; exact this
theorem xlen_sizes : ∀ ps : List ET, ps.length ≤ xsizes ps
  | [] => by simp
  | p :: ps => by have := xlen_sizes ps; have := xsize_ps p; simp only [xsizes, List.length_cons]; omega
theorem xlen_size (t : ET) : t.ps.length < t.size := by have := xlen_sizes t.ps; rw [xsize_ps]; omega
/-! ### trees of two parts or none, counted by Nat -/
inductive E where
  | lf (n : Nat) | nd (n : Nat) (l r : E)
def E.t : E → ET
  | .lf n => .mk n []
  | .nd n l r => .mk n [l.t, r.t]
def E.n : E → Nat
  | .lf n => n
  | .nd n _ _ => n
def E.leaf : E → Bool
  | .lf _ => true
  | .nd _ _ _ => false
def E.nodes : E → Nat
  | .lf _ => 1
  | .nd _ l r => 1 + l.nodes + r.nodes
def E.dep : E → Nat
  | .lf _ => 1
  | .nd _ l r => max l.dep r.dep + 1
/-- Each number is at most 2^40. -/
def E.small : E → Bool
  | .lf n => decide (n ≤ 1099511627776)
  | .nd n l r => decide (n ≤ 1099511627776) && l.small && r.small
def E.short : E → Bool
  | .lf _ => true
  | .nd _ l r => l.short && r.short && (decide (l.n = 0) || decide (r.n = 0)) && !(l.leaf && r.leaf && decide (l.n = r.n))
theorem E.t_n (b : E) : b.t.n = (b.n : Int) := by cases b <;> rfl
theorem E.t_leaf (b : E) : decide (b.t.ps.length = 0) = b.leaf := by cases b <;> simp [E.t, ET.ps, E.leaf]
theorem E.nodes_pos (b : E) : 1 ≤ b.nodes := by cases b <;> simp [E.nodes] <;> omega
theorem E.dep_pos (b : E) : 1 ≤ b.dep := by cases b <;> simp [E.dep]
theorem E.small_n {b : E} (h : b.small = true) : b.n ≤ 1099511627776 := by
  cases b with
  | lf n => simp only [E.small, decide_eq_true_eq] at h; exact h
  | nd n l r => simp only [E.small, Bool.and_eq_true, decide_eq_true_eq] at h; exact h.1.1
theorem xcnt_b : ∀ (d : Nat) (t : ET), xcnt d t ≤ 60 → ∃ b : E, t = b.t ∧ b.nodes = xcnt d t ∧ b.dep ≤ d ∧ b.small = true
  | 0, t, h => by simp [xcnt] at h
  | d + 1, t, h => by
    simp only [xcnt] at h ⊢
    by_cases hn : t.n < 0 ∨ 1099511627776 < t.n ∨ (¬ t.ps.length = 0 ∧ ¬ t.ps.length = 2)
    · rw [if_pos hn] at h; omega
    · rw [if_neg hn] at h
      rw [if_neg hn]
      have he := t.eta
      obtain ⟨n, hnn⟩ : ∃ n : Nat, t.n = (n : Int) := ⟨t.n.toNat, by omega⟩
      rw [hnn] at he hn
      generalize t.ps = ps at hn he h
      subst he
      match ps, hn, h with
      | [], hn, h => exact ⟨.lf n, rfl, rfl, by simp [E.dep], by simp [E.small]; omega⟩
      | [l, r], hn, h =>
        simp only [xcntL] at h ⊢
        split at h
        · omega
        · rename_i h1
          split at h
          · omega
          · rename_i h2
            rw [if_neg h1, if_neg h2]
            obtain ⟨bl, e1, e2, e3, e4⟩ := xcnt_b d l (by omega)
            obtain ⟨br, f1, f2, f3, f4⟩ := xcnt_b d r (by omega)
            exact ⟨.nd n bl br, by rw [e1, f1]; rfl, by simp only [E.nodes]; omega, by simp only [E.dep]; omega, by simp [E.small, e4, f4]; omega⟩
      | [_], hn, h => simp at hn
      | _ :: _ :: _ :: _, hn, h => simp at hn
theorem b_xcnt : ∀ (b : E) (d : Nat), b.nodes ≤ 60 → b.dep ≤ d → b.small = true → xcnt d b.t = b.nodes
  | .lf o, 0, _, h, _ => by simp [E.dep] at h
  | .lf o, d + 1, _, _, h3 => by
    simp only [E.small, decide_eq_true_eq] at h3
    simp only [xcnt, E.t, ET.ps, ET.n, xcntL, E.nodes]
    rw [if_neg (by simp; omega)]
  | .nd n l r, 0, _, h, _ => by simp [E.dep] at h
  | .nd n l r, d + 1, h1, h2, h3 => by
    simp only [E.nodes, E.dep] at h1 h2
    simp only [E.small, Bool.and_eq_true, decide_eq_true_eq] at h3
    have e1 := b_xcnt l d (by omega) (by omega) h3.1.2
    have e2 := b_xcnt r d (by omega) (by omega) h3.2
    simp only [xcnt, E.t, ET.ps, ET.n, xcntL, e1, e2, E.nodes]
    rw [if_neg (by simp; omega), if_neg (by omega), if_neg (by omega)]
theorem E.inj : ∀ {a b : E}, a.t = b.t → a = b
  | .lf o, .lf o', h => by
    simp [E.t] at h
    have h0 : o = o' := by omega
    rw [h0]
  | .lf o, .nd n l r, h => by simp [E.t] at h
  | .nd n l r, .lf o, h => by simp [E.t] at h
  | .nd n l r, .nd n' l' r', h => by
    simp only [E.t, ET.mk.injEq, List.cons.injEq, and_true] at h
    have h0 : n = n' := by omega
    rw [E.inj h.2.1, E.inj h.2.2, h0]
/-- A right event tree: of two parts or none, as short as may be, neither too deep nor too great. -/
def XRt (t : ET) : Prop := ∃ b : E, t = b.t ∧ b.dep ≤ 8 ∧ b.nodes ≤ 60 ∧ b.short = true ∧ b.small = true
noncomputable def xrtb (t : ET) : Bool := @decide (XRt t) (Classical.propDecidable _)
theorem xrtb_true {t : ET} : xrtb t = true ↔ XRt t := by simp [xrtb]
theorem xflat_dep : ∀ (d : Nat) (b : E), xflatTo d b.t ↔ b.dep ≤ d
  | 0, .lf o => by simp [xflatTo, E.dep]
  | 0, .nd n l r => by simp [xflatTo, E.dep]
  | d + 1, .lf o => by simp [xflatTo, E.dep, E.t, ET.ps]
  | d + 1, .nd n l r => by simp only [xflatTo, E.dep, E.t, ET.ps, List.mem_cons, List.not_mem_nil, or_false, forall_eq_or_imp, forall_eq, xflat_dep d l, xflat_dep d r]; omega
theorem E.t_size : ∀ b : E, b.t.size = b.nodes
  | .lf o => by simp [E.t, ET.size, xsizes, E.nodes]
  | .nd n l r => by simp only [E.t, ET.size, xsizes, E.nodes, E.t_size l, E.t_size r]; omega
end Go.Ev
