/- Trees of identities, and what the words say of them: plain. -/
import Derived.Test.YtmokhopjnjecbabEvQ
namespace Go.Ev
set_option linter.unusedVariables false

inductive Tree where
  | mk (one : Bool) (ps : List Tree)
def Tree.one : Tree → Bool | .mk o _ => o
def Tree.ps : Tree → List Tree | .mk _ ps => ps
theorem Tree.eta (t : Tree) : Tree.mk t.one t.ps = t := by cases t; rfl
mutual
def tav : Tree → AV
  | .mk o ps => .agg [.bool o, .fz 2 (tavs ps) none]
def tavs : List Tree → List AV
  | [] => []
  | p :: ps => tav p :: tavs ps
end
/-- A tree, as a value. -/
abbrev tv (t : Tree) : AV := .agg [.bool t.one, .fz 2 (tavs t.ps) none]
theorem tav_tv (t : Tree) : tav t = tv t := by cases t; simp only [tav]; rfl
theorem tavs_len : ∀ ps, (tavs ps).length = ps.length
  | [] => by simp only [tavs, List.length_nil]
  | p :: ps => by simp only [tavs, List.length_cons, tavs_len ps]
theorem tavs_get : ∀ (ps : List Tree) (i : Nat), (tavs ps)[i]? = ps[i]?.map tv
  | [], i => by simp [tavs]
  | p :: ps, 0 => by simp [tavs, tav_tv]
  | p :: ps, i + 1 => by simp only [tavs, List.getElem?_cons_succ]; exact tavs_get ps i
theorem tavs_append : ∀ (a b : List Tree), tavs a ++ tavs b = tavs (a ++ b)
  | [], b => by simp [tavs]
  | p :: a, b => by simp [tavs, tavs_append a b]

mutual
def Tree.size : Tree → Nat
  | .mk _ ps => 1 + sizes ps
def sizes : List Tree → Nat
  | [] => 0
  | p :: ps => p.size + sizes ps
end
theorem size_mem {p : Tree} : ∀ {ps : List Tree}, p ∈ ps → p.size ≤ sizes ps
  | q :: ps, h => by
    simp only [sizes]
    rcases List.mem_cons.1 h with rfl | h
    · omega
    · have := size_mem h; omega
theorem size_ps (t : Tree) : t.size = 1 + sizes t.ps := by cases t; simp only [Tree.size, Tree.ps]
theorem size_lt {t p : Tree} (h : p ∈ t.ps) : p.size < t.size := by have := size_mem h; rw [size_ps t]; omega
/-- Whoever holds of a tree if it holds of its parts holds of all. -/
theorem Tree.ind {C : Tree → Prop} (h : ∀ t, (∀ p ∈ t.ps, C p) → C t) : ∀ t, C t := by
  have key : ∀ n t, t.size < n → C t := by
    intro n
    induction n with
    | zero => intro t ht; omega
    | succ n ih => exact fun t ht => h t (fun p hp => ih p (by have := size_lt hp; omega))
  exact fun t => key _ t (Nat.lt_succ_self _)

/-- How deep, as far as so many levels. -/
def deepL (f : Tree → Nat) : Nat → List Tree → Nat
  | n, [] => n
  | n, p :: ps => deepL f (max n (f p)) ps
def deep : Nat → Tree → Nat
  | 0, _ => 1
  | m + 1, t => deepL (deep m) 0 t.ps + 1
/-- No deeper than that. -/
def flatTo : Nat → Tree → Prop
  | 0, _ => False
  | d + 1, t => ∀ p ∈ t.ps, flatTo d p
theorem deepL_le (f : Tree → Nat) (b : Nat) : ∀ (n : Nat) (ps : List Tree), deepL f n ps ≤ b ↔ n ≤ b ∧ ∀ p ∈ ps, f p ≤ b
  | n, [] => by simp [deepL]
  | n, p :: ps => by
    simp only [deepL, deepL_le f b _ ps, List.mem_cons, forall_eq_or_imp]
    constructor
    · rintro ⟨h1, h2⟩; exact ⟨by omega, by omega, h2⟩
    · rintro ⟨h1, h2, h3⟩; exact ⟨by omega, h3⟩
theorem deep_pos (m : Nat) (t : Tree) : 1 ≤ deep m t := by cases m <;> simp [deep]
theorem deep_le : ∀ (m : Nat) (t : Tree), deep m t ≤ m ↔ flatTo m t
  | 0, t => by simp [deep, flatTo]
  | m + 1, t => by
    simp only [deep, flatTo, Nat.add_le_add_iff_right, deepL_le, Nat.zero_le, true_and]
    exact ⟨fun h p hp => (deep_le m p).1 (h p hp), fun h p hp => (deep_le m p).2 (h p hp)⟩
theorem deep_max : ∀ (m : Nat) (t : Tree), deep m t ≤ m + 1
  | 0, t => by simp [deep]
  | m + 1, t => by
    simp only [deep, Nat.add_le_add_iff_right]
    exact (deepL_le _ _ _ _).2 ⟨by omega, fun p hp => deep_max m p⟩

/-- How many nodes: 61 where it is too deep, or not of two parts or none. -/
def cntL (f : Tree → Nat) : Nat → List Tree → Nat
  | n, [] => n
  | n, p :: ps => if 60 < n + f p then 61 else cntL f (n + f p) ps
def cnt : Nat → Tree → Nat
  | 0, _ => 61
  | d + 1, t => if ¬ t.ps.length = 0 ∧ (¬ t.ps.length = 2 ∨ t.one = true) then 61 else cntL (cnt d) 1 t.ps
theorem cntL_le (f : Tree → Nat) : ∀ (n : Nat) (ps : List Tree), n ≤ 61 → cntL f n ps ≤ 61
  | n, [], h => h
  | n, p :: ps, h => by
    simp only [cntL]; split
    · omega
    · exact cntL_le f _ ps (by omega)
theorem cnt_le : ∀ (d : Nat) (t : Tree), cnt d t ≤ 61
  | 0, t => by simp [cnt]
  | d + 1, t => by
    simp only [cnt]; split
    · omega
    · exact cntL_le _ _ _ (by omega)
/-- As the reference counts. -/
def lfEq (l r : Tree) : Bool := decide (l.ps.length = 0 ∧ r.ps.length = 0 ∧ l.one = r.one)
/-- Trees of two parts or none. -/
inductive B where
  | lf (o : Bool) | nd (l r : B)
def B.t : B → Tree
  | .lf o => .mk o []
  | .nd l r => .mk false [l.t, r.t]
def B.nodes : B → Nat
  | .lf _ => 1
  | .nd l r => 1 + l.nodes + r.nodes
def B.dep : B → Nat
  | .lf _ => 1
  | .nd l r => max l.dep r.dep + 1
def B.short : B → Bool
  | .lf _ => true
  | .nd l r => l.short && r.short && !lfEq l.t r.t
theorem B.nodes_pos (b : B) : 1 ≤ b.nodes := by cases b <;> simp [B.nodes] <;> omega
theorem cnt_b : ∀ (d : Nat) (t : Tree), cnt d t ≤ 60 → ∃ b : B, t = b.t ∧ b.nodes = cnt d t ∧ b.dep ≤ d
  | 0, t, h => by simp [cnt] at h
  | d + 1, t, h => by
    simp only [cnt] at h ⊢
    by_cases hn : ¬ t.ps.length = 0 ∧ (¬ t.ps.length = 2 ∨ t.one = true)
    · rw [if_pos hn] at h; omega
    · rw [if_neg hn] at h
      rw [if_neg hn]
      have he := t.eta
      generalize t.one = o at hn he
      generalize t.ps = ps at hn he h
      subst he
      match ps, hn, h with
      | [], hn, h => exact ⟨.lf o, rfl, rfl, by simp [B.dep]⟩
      | [l, r], hn, h =>
        simp at hn
        subst hn
        simp only [cntL] at h ⊢
        split at h
        · omega
        · rename_i h1
          split at h
          · omega
          · rename_i h2
            rw [if_neg h1, if_neg h2]
            obtain ⟨bl, e1, e2, e3⟩ := cnt_b d l (by omega)
            obtain ⟨br, f1, f2, f3⟩ := cnt_b d r (by omega)
            exact ⟨.nd bl br, by rw [e1, f1]; rfl, by simp only [B.nodes]; omega, by simp only [B.dep]; omega⟩
      | [_], hn, h => simp at hn
      | _ :: _ :: _ :: _, hn, h => simp at hn
theorem b_cnt : ∀ (b : B) (d : Nat), b.nodes ≤ 60 → b.dep ≤ d → cnt d b.t = b.nodes
  | .lf o, 0, _, h => by simp [B.dep] at h
  | .lf o, d + 1, _, _ => by simp [cnt, B.t, Tree.ps, cntL, B.nodes]
  | .nd l r, 0, _, h => by simp [B.dep] at h
  | .nd l r, d + 1, h1, h2 => by
    simp only [B.nodes, B.dep] at h1 h2
    have e1 := b_cnt l d (by omega) (by omega)
    have e2 := b_cnt r d (by omega) (by omega)
    simp only [cnt, B.t, Tree.ps, Tree.one, cntL, e1, e2, B.nodes]
    simp only [List.length_cons, List.length_nil]
    rw [if_neg (by simp), if_neg (by omega), if_neg (by omega)]
/-- A right identity: the tree of two parts or none, as short as may be, neither too deep nor too great. -/
def Rt (t : Tree) : Prop := ∃ b : B, t = b.t ∧ b.dep ≤ 8 ∧ b.nodes ≤ 60 ∧ b.short = true
theorem B.inj : ∀ {a b : B}, a.t = b.t → a = b
  | .lf o, .lf o', h => by simp [B.t] at h; rw [h]
  | .lf o, .nd l r, h => by simp [B.t] at h
  | .nd l r, .lf o, h => by simp [B.t] at h
  | .nd l r, .nd l' r', h => by
    simp only [B.t, Tree.mk.injEq, List.cons.injEq, and_true, true_and] at h
    rw [B.inj h.1, B.inj h.2]
/-! ### trees compared -/
def smL (f : Tree → Tree → Bool) : List Tree → List Tree → Bool
  | p :: ps, q :: qs => f p q && smL f ps qs
  | _, _ => true
def sm : Nat → Tree → Tree → Bool
  | 0, _, _ => false
  | d + 1, a, b => decide (a.one = b.one ∧ a.ps.length = b.ps.length) && smL (sm d) a.ps b.ps
theorem smL_iff (f : Tree → Tree → Bool) (P : Tree → Prop) : ∀ (ps qs : List Tree), ps.length = qs.length → (∀ p ∈ ps, ∀ q, f p q = true ↔ p = q ∧ P p) → (smL f ps qs = true ↔ ps = qs ∧ ∀ p ∈ ps, P p)
  | [], [], _, _ => by simp [smL]
  | [], _ :: _, h, _ => by simp at h
  | _ :: _, [], h, _ => by simp at h
  | p :: ps, q :: qs, h, hf => by
    have ih := smL_iff f P ps qs (by simpa using h) (fun x hx => hf x (List.mem_cons_of_mem _ hx))
    simp only [smL, Bool.and_eq_true, ih, hf p (List.mem_cons_self) q, List.cons.injEq, List.mem_cons, forall_eq_or_imp]
    constructor
    · rintro ⟨⟨a, b⟩, c, d⟩; exact ⟨⟨a, c⟩, b, d⟩
    · rintro ⟨⟨a, c⟩, b, d⟩; exact ⟨⟨a, b⟩, c, d⟩
theorem sm_iff : ∀ (d : Nat) (a b : Tree), sm d a b = true ↔ a = b ∧ flatTo d a
  | 0, a, b => by simp [sm, flatTo]
  | d + 1, a, b => by
    simp only [sm, Bool.and_eq_true, decide_eq_true_eq, flatTo]
    constructor
    · rintro ⟨⟨h1, h2⟩, h3⟩
      have := (smL_iff (sm d) (flatTo d) a.ps b.ps h2 (fun p _ q => sm_iff d p q)).1 h3
      exact ⟨by rw [← a.eta, ← b.eta, h1, this.1], this.2⟩
    · rintro ⟨rfl, h⟩
      exact ⟨⟨rfl, rfl⟩, (smL_iff (sm d) (flatTo d) a.ps a.ps rfl (fun p _ q => sm_iff d p q)).2 ⟨rfl, h⟩⟩
/-- Alike? -/
noncomputable def teq (a b : Tree) : Bool := @decide (a = b) (Classical.propDecidable _)
theorem teq_true {a b : Tree} : teq a b = true ↔ a = b := by simp [teq]
theorem teq_step (a b : Tree) : teq a b = (decide (a.one = b.one ∧ a.ps.length = b.ps.length) && smL teq a.ps b.ps) := by
  rw [Bool.eq_iff_iff, teq_true, Bool.and_eq_true, decide_eq_true_eq]
  constructor
  · rintro rfl
    exact ⟨⟨rfl, rfl⟩, (smL_iff teq (fun _ => True) _ _ rfl (fun p _ q => by simp [teq_true])).2 ⟨rfl, by simp⟩⟩
  · rintro ⟨⟨h1, h2⟩, h3⟩
    have := (smL_iff teq (fun _ => True) a.ps b.ps h2 (fun p _ q => by simp [teq_true])).1 h3
    rw [← a.eta, ← b.eta, h1, this.1]
/-! ### as the law's bound counts -/
def lcntL (f : Tree → Nat) : Nat → List Tree → Nat
  | n, [] => n
  | n, p :: ps => if 1000 < n + f p then n + f p else lcntL f (n + f p) ps
def lcnt : Nat → Tree → Nat
  | 0, _ => 2000
  | m + 1, t => lcntL (lcnt m) 1 t.ps
theorem lcntL_le (f : Tree → Nat) (hf : ∀ t, f t ≤ 3000) : ∀ (n : Nat) (ps : List Tree), n ≤ 1000 → lcntL f n ps ≤ 4000
  | n, [], h => by simp [lcntL]; omega
  | n, p :: ps, h => by
    simp only [lcntL]; have := hf p; split
    · omega
    · exact lcntL_le f hf _ ps (by omega)
theorem lcntL_le2 (f : Tree → Nat) (b : Nat) (hf : ∀ t, f t ≤ b) : ∀ (n : Nat) (ps : List Tree), n ≤ 1000 → lcntL f n ps ≤ 1000 + b
  | n, [], h => by simp [lcntL]; omega
  | n, p :: ps, h => by
    simp only [lcntL]; have := hf p; split
    · omega
    · exact lcntL_le2 f b hf _ ps (by omega)
theorem lcnt_le : ∀ (m : Nat) (t : Tree), lcnt m t ≤ 2000 + 1000 * m
  | 0, t => by simp [lcnt]
  | m + 1, t => by
    simp only [lcnt]
    have := lcntL_le2 (lcnt m) _ (fun t => lcnt_le m t) 1 t.ps (by omega)
    omega
theorem lcnt_pos : ∀ (m : Nat) (t : Tree), 1 ≤ lcnt m t := by
  intro m
  have key : ∀ (f : Tree → Nat) (n : Nat) (ps : List Tree), 1 ≤ n → 1 ≤ lcntL f n ps := by
    intro f n ps
    induction ps generalizing n with
    | nil => intro h; exact h
    | cons p ps ih =>
      intro h
      simp only [lcntL]; split
      · omega
      · exact ih _ (by omega)
  intro t
  cases m with
  | zero => simp [lcnt]
  | succ m => exact key _ _ _ (Nat.le_refl _)
theorem lcntL_size (f : Tree → Nat) (hf : ∀ t, f t ≤ 1000 → t.size ≤ f t) : ∀ (n : Nat) (ps : List Tree), lcntL f n ps ≤ 1000 → n + sizes ps ≤ lcntL f n ps
  | n, [], h => by simp [lcntL, sizes]
  | n, p :: ps, h => by
    simp only [lcntL, sizes] at h ⊢
    split at h
    · omega
    · rename_i h1
      rw [if_neg h1]
      have := hf p (by omega)
      have := lcntL_size f hf _ ps h
      omega
theorem lcnt_size : ∀ (m : Nat) (t : Tree), lcnt m t ≤ 1000 → t.size ≤ lcnt m t
  | 0, t, h => by simp [lcnt] at h
  | m + 1, t, h => by
    simp only [lcnt] at h ⊢
    have := lcntL_size (lcnt m) (lcnt_size m) 1 t.ps h
    rw [size_ps]; exact this
theorem len_sizes : ∀ ps : List Tree, ps.length ≤ sizes ps
  | [] => by simp
  | p :: ps => by have := len_sizes ps; have := size_ps p; simp only [sizes, List.length_cons]; omega
theorem len_size (t : Tree) : t.ps.length < t.size := by have := len_sizes t.ps; rw [size_ps]; omega
end Go.Ev
