/- Contracts over a heap: a cell that may be nil, told as what it is; a cell told less. -/
import Derived.Test.YtmokhopjnjecbacM3
import Derived.Sort.AssemblyPlain
namespace Go.Ev
set_option linter.unusedVariables false

theorem Lof_head {f d g : Nat} {cs cs' : List AV} {H : Heap} {bm : Nat → Nat → Nat} : Lof ((f, d, g, some cs) :: H) bm = Lof ((f, d, g, some cs') :: H) bm := by
  funext f1 d1 g1 b
  apply propext
  simp only [Lof, find]
  by_cases e : d = d1 ∧ f = f1
  · simp [e]
  · simp only [if_neg e]
theorem Own_head {f d g : Nat} {cs cs' : List AV} {H : Heap} {bm : Nat → Nat → Nat} : Own ((f, d, g, some cs) :: H) bm = Own ((f, d, g, some cs') :: H) bm := by
  funext b
  apply propext
  simp only [Own, find]
  constructor
  · rintro ⟨f1, d1, g1, cs1, h, rfl⟩
    by_cases e : d = d1 ∧ f = f1
    · exact ⟨f1, d1, g, cs', by simp [e], rfl⟩
    · rw [if_neg e] at h; exact ⟨f1, d1, g1, cs1, by simp only [if_neg e]; exact h, rfl⟩
  · rintro ⟨f1, d1, g1, cs1, h, rfl⟩
    by_cases e : d = d1 ∧ f = f1
    · exact ⟨f1, d1, g, cs, by simp [e], rfl⟩
    · rw [if_neg e] at h; exact ⟨f1, d1, g1, cs1, by simp only [if_neg e]; exact h, rfl⟩
/-- The head's cells, told otherwise. -/
theorem Rel.recell {w0 : World} {O X : Nat → Prop} {bm : Nat → Nat → Nat} {f d g : Nat} {cs cs' : List AV} {H : Heap} {nx : Ctr} {w : World} (r : Rel w0 O X bm ((f, d, g, some cs) :: H) nx w)
    (hl : cs'.length = cs.length) (h : ∀ (j : Nat) x' v, cs'[j]? = some x' → (∀ x, cs[j]? = some x → Rep (Lof ((f, d, g, some cs) :: H) bm) X nx w false x v) → (∃ vs E, w.heap[bm f d]? = some (.cells vs E (0, 0)) ∧ vs.getD j undef = v) → Rep (Lof ((f, d, g, some cs) :: H) bm) X nx w false x' v) :
    Rel w0 O X bm ((f, d, g, some cs') :: H) nx w := by
  have hfind : ∀ f1 d1 g1 cs1, find ((f, d, g, some cs') :: H) f1 d1 = some (g1, some cs1) → (f1 = f ∧ d1 = d ∧ g1 = g ∧ cs1 = cs') ∨ (¬ (d = d1 ∧ f = f1) ∧ find ((f, d, g, some cs) :: H) f1 d1 = some (g1, some cs1)) := by
    intro f1 d1 g1 cs1 h
    by_cases e : d = d1 ∧ f = f1
    · obtain ⟨rfl, rfl⟩ := e
      simp [find] at h
      exact .inl ⟨rfl, rfl, h.1.symm, h.2.symm⟩
    · refine .inr ⟨e, ?_⟩
      simp only [find, if_neg e] at h ⊢; exact h
  have hh : find ((f, d, g, some cs) :: H) f d = some (g, some cs) := by simp [find]
  have hex : ∀ f1 d1 g1 cs1, find ((f, d, g, some cs') :: H) f1 d1 = some (g1, some cs1) → ∃ cs2, find ((f, d, g, some cs) :: H) f1 d1 = some (g1, some cs2) := by
    intro f1 d1 g1 cs1 h
    rcases hfind _ _ _ _ h with ⟨rfl, rfl, rfl, rfl⟩ | ⟨_, h⟩
    · exact ⟨cs, hh⟩
    · exact ⟨_, h⟩
  refine ⟨?_, ?_, ?_, ?_, r.os, r.tape, r.output, r.size, r.keep, r.xlt⟩
  · intro f1 d1 g1 cs1 h1
    rw [Lof_head (cs' := cs)]
    rcases hfind _ _ _ _ h1 with ⟨rfl, rfl, rfl, rfl⟩ | ⟨_, h1⟩
    · obtain ⟨vs, E, hb, hle, hrep⟩ := r.blk _ _ _ _ hh
      refine ⟨vs, E, hb, by omega, fun j x' hj => ?_⟩
      have hj' : j < cs.length := by have := (List.getElem?_eq_some_iff.1 hj).1; omega
      have h2 := hrep j _ (List.getElem?_eq_getElem hj')
      exact ⟨h j x' _ hj (fun x hx => (hrep j x hx).1) ⟨vs, E, hb, rfl⟩, h2.2⟩
    · exact r.blk _ _ _ _ h1
  · intro f1 d1 g1 cs1 f2 d2 g2 cs2 h1 h2 he
    obtain ⟨a, h1⟩ := hex _ _ _ _ h1
    obtain ⟨b, h2⟩ := hex _ _ _ _ h2
    exact r.inj _ _ _ _ _ _ _ _ h1 h2 he
  · intro f1 d1 g1 b h1
    by_cases e : d = d1 ∧ f = f1
    · obtain ⟨rfl, rfl⟩ := e
      simp [find] at h1
      have := r.gen _ _ _ _ hh
      omega
    · simp only [find, if_neg e] at h1
      exact r.gen f1 d1 g1 b (by simp only [find, if_neg e]; exact h1)
  · intro f1 d1 g1 cs1 h1
    obtain ⟨a, h1⟩ := hex _ _ _ _ h1
    exact r.own _ _ _ _ h1
/-- A cell that may be nil. -/
theorem HCalls.nil {P : Program} {F f d g sz : Nat} {pre post : List AV} {args : List AV} {H Hout : Heap} {nx nx' : Ctr} {r : AV}
    (h1 : HCalls P F args ((f, d, g, some (pre ++ .nils :: post)) :: H) nx r Hout nx') (h2 : ∀ c, HCalls P F args ((f, d, g, some (pre ++ .fz sz [] (some c) :: post)) :: H) nx r Hout nx') :
    HCalls P F args ((f, d, g, some (pre ++ .fz sz [] none :: post)) :: H) nx r Hout nx' := by
  refine ⟨h1.ok, fun X w bm vals hr ha => ?_⟩
  obtain ⟨vs, E, hb, hle, hrep⟩ := hr.blk f d g _ (by simp [find]; rfl)
  have hm : (pre ++ AV.fz sz [] none :: post)[pre.length]? = some (.fz sz [] none) := by simp
  have key : ∀ x, Rep (Lof ((f, d, g, some (pre ++ .fz sz [] none :: post)) :: H) bm) X nx w false x (vs.getD pre.length undef) → Rel w (Own ((f, d, g, some (pre ++ x :: post)) :: H) bm) X bm ((f, d, g, some (pre ++ x :: post)) :: H) nx w := by
    intro x hx
    rw [Own_head (cs' := pre ++ .fz sz [] none :: post)]
    refine hr.recell (by simp) (fun j x' v hj hv hvs => ?_)
    obtain ⟨vs', E', hb', rfl⟩ := hvs
    rw [hb] at hb'; simp only [Option.some.injEq, Obj.cells.injEq] at hb'; obtain ⟨rfl, rfl, _⟩ := hb'
    by_cases hjp : j = pre.length
    · subst hjp
      simp at hj; subst hj; exact hx
    · refine hv x' ?_
      rcases Nat.lt_or_ge j pre.length with hl | hl
      · rw [List.getElem?_append_left hl] at hj ⊢; exact hj
      · rw [List.getElem?_append_right hl] at hj ⊢
        obtain ⟨k, hk⟩ : ∃ k, j - pre.length = k + 1 := ⟨j - pre.length - 1, by omega⟩
        rw [hk] at hj ⊢; exact hj
  rcases nil_or (hrep _ _ hm).1 with a | ⟨c, a⟩
  · have := h1.calls X w bm vals (key _ a) (by rw [Lof_head (cs' := pre ++ .fz sz [] none :: post)]; exact ha)
    rw [Lof_head (cs' := pre ++ .fz sz [] none :: post), Own_head (cs' := pre ++ .fz sz [] none :: post)] at this
    exact this
  · have := (h2 c).calls X w bm vals (key _ a) (by rw [Lof_head (cs' := pre ++ .fz sz [] none :: post)]; exact ha)
    rw [Lof_head (cs' := pre ++ .fz sz [] none :: post), Own_head (cs' := pre ++ .fz sz [] none :: post)] at this
    exact this
/-- A cell of what comes out, told less. -/
theorem HCalls.out {P : Program} {F f d g : Nat} {pre post : List AV} {x y : AV} {args : List AV} {Hin H : Heap} {nx nx' : Ctr} {r : AV} (hw : Wk1 x y)
    (h : HCalls P F args Hin nx r ((f, d, g, some (pre ++ x :: post)) :: H) nx') : HCalls P F args Hin nx r ((f, d, g, some (pre ++ y :: post)) :: H) nx' := by
  refine ⟨h.ok, fun X w bm vals hr ha => (h.calls X w bm vals hr ha).mono fun e w' he => ?_⟩
  obtain ⟨v, bm', h1, h2, h3, h4⟩ := he
  rw [Lof_head (cs' := pre ++ y :: post)] at h3 h4
  refine ⟨v, bm', h1, ?_, h3, h4⟩
  refine h2.recell (by simp) (fun j x' v hj hv hvs => ?_)
  by_cases hjp : j = pre.length
  · subst hjp
    simp at hj; subst hj
    exact hw _ _ _ _ _ _ (hv x (by simp))
  · refine hv x' ?_
    rcases Nat.lt_or_ge j pre.length with hl | hl
    · rw [List.getElem?_append_left hl] at hj ⊢; exact hj
    · rw [List.getElem?_append_right hl] at hj ⊢
      obtain ⟨k, hk⟩ : ∃ k, j - pre.length = k + 1 := ⟨j - pre.length - 1, by omega⟩
      rw [hk] at hj ⊢; exact hj
/-- A cell of what goes in, told more. -/
theorem HCalls.inn {P : Program} {F f d g : Nat} {pre post : List AV} {x y : AV} {args : List AV} {H Hout : Heap} {nx nx' : Ctr} {r : AV} (hw : Wk1 x y)
    (h : HCalls P F args ((f, d, g, some (pre ++ y :: post)) :: H) nx r Hout nx') : HCalls P F args ((f, d, g, some (pre ++ x :: post)) :: H) nx r Hout nx' := by
  refine ⟨h.ok, fun X w bm vals hr ha => ?_⟩
  have hr' : Rel w (Own ((f, d, g, some (pre ++ y :: post)) :: H) bm) X bm ((f, d, g, some (pre ++ y :: post)) :: H) nx w := by
    rw [Own_head (cs' := pre ++ x :: post)]
    refine hr.recell (by simp) (fun j x' v hj hv hvs => ?_)
    by_cases hjp : j = pre.length
    · subst hjp
      simp at hj; subst hj
      exact hw _ _ _ _ _ _ (hv x (by simp))
    · refine hv x' ?_
      rcases Nat.lt_or_ge j pre.length with hl | hl
      · rw [List.getElem?_append_left hl] at hj ⊢; exact hj
      · rw [List.getElem?_append_right hl] at hj ⊢
        obtain ⟨k, hk⟩ : ∃ k, j - pre.length = k + 1 := ⟨j - pre.length - 1, by omega⟩
        rw [hk] at hj ⊢; exact hj
  have := h.calls X w bm vals hr' (by rw [Lof_head (cs' := pre ++ x :: post)]; exact ha)
  rw [Lof_head (cs' := pre ++ x :: post), Own_head (cs' := pre ++ x :: post)] at this
  exact this
theorem find_nil (f d : Nat) : find [] f d = none := rfl
/-- What is called with values that lead to nothing of ours. -/
theorem PCalls.h {P : Program} {F : Nat} {args args' : List AV} {r : AV} (h : PCalls P F args' r) (nx : Ctr) (hf : mapK (frzK 9 []) args (fun vs i => some (vs, i)) none = some (args', [])) : HCalls P F args [] nx r [] nx := by
  refine ⟨h.ok, fun X w bm vals hr ha => ?_⟩
  obtain ⟨cs', ids, h2, _, _, g⟩ := frz_map (fun v val _ ok r h1 h2 => frz_ok hr 9 v val ok r h1 h2) args vals _ _ ha hf
  simp only [Option.some.injEq, Prod.mk.injEq] at h2
  obtain ⟨rfl, rfl⟩ := h2
  have := g none4 zeroC (by intro f d g b hb; exact hb.elim)
  refine (h.calls X w vals hr.xlt this).mono ?_
  rintro e w' ⟨v, rfl, bel, rep⟩
  refine ⟨v, bm, rfl, ⟨?_, ?_, ?_, ?_, bel.os, bel.tape, bel.output, bel.size, fun b hb _ => bel.block b hb, hr.xlt⟩, ⟨fun _ => Nat.le_refl _, bel.size, ?_, ?_, ?_, ?_⟩, (rep.sub ?_).weak⟩
  · intro f d g cs h; rw [find_nil] at h; cases h
  · intro f d g cs f' d' g' cs' h; rw [find_nil] at h; cases h
  · intro f d g cs h; rw [find_nil] at h; cases h
  · intro f d g cs h; rw [find_nil] at h; cases h
  · rintro f d g b ⟨⟨cs, h⟩, _⟩; rw [find_nil] at h; cases h
  · rintro f d g b ⟨⟨cs, h⟩, _⟩; rw [find_nil] at h; cases h
  · intro a u hc _
    rw [World.cell?_of_block (w := w) (bel.block _ (World.block_lt_of_cell? w a hc))]; exact hc
  · rintro f d g b vs E ⟨⟨cs, h⟩, _⟩; rw [find_nil] at h; cases h
  · rintro f d g b ⟨⟨cs, h⟩, _⟩; rw [find_nil] at h; cases h
section
variable {P : Program} {φ : Nat} {R : List AV → Heap → Ctr → Prop} {k0 : List It}
theorem call2x {f : Nat} {vs : List AV} {ids : List (Nat × Nat)} {d : Option Nat} {l : List Op} {k : List It} {t : List AV} {H : Heap} {nx : Ctr} {r : AV} {Hout : Heap} (n : Nat) (hk0 : flat k0) (hk : flat k) (ks : List (Nat × Nat)) {Hin Hr : Heap} (hin : sel ks H = Hin) (hre : rest ks H = Hr)
    (hp : ∃ nx', HCalls P f vs Hin nx r Hout nx') (hf : Hr = [] ∨ (nameFree 9 Hr r = true ∧ heapFree Hr Hout = true))
    (h : ∀ (nx' : Ctr) (A : Nat → List It → List AV → Heap → Ctr → Out), (∀ n its t H nx, A (n + 1) its t H nx = advStep φ (A n) its t H nx) → RunsO P φ R k0 (A n (.ops l :: k) (put t d r) (Hout ++ Hr) nx')) : RunsO P φ R k0 (.call f 2 vs ids d l k t H nx) := by
  obtain ⟨nx', hp⟩ := hp
  exact call2 n hk0 hk ks hin hre hp hf (fun A eA => h nx' A eA)
theorem call2p {C : Nat → Prop} {f : Nat} {vs : List AV} {ids : List (Nat × Nat)} {d : Option Nat} {l : List Op} {k : List It} {t : List AV} {H : Heap} {nx : Ctr} {r : AV} {Hout : Nat → Nat → Heap} (n : Nat) (hk0 : flat k0) (hk : flat k) (ks : List (Nat × Nat)) {Hin Hr : Heap} (hin : sel ks H = Hin) (hre : rest ks H = Hr)
    (hp : ∃ key g' nx', C key ∧ HCalls P f vs Hin nx r (Hout key g') nx') (hf : ∀ key g', C key → Hr = [] ∨ (nameFree 9 Hr r = true ∧ heapFree Hr (Hout key g') = true))
    (h : ∀ (key g' : Nat) (nx' : Ctr), C key → ∀ (A : Nat → List It → List AV → Heap → Ctr → Out), (∀ n its t H nx, A (n + 1) its t H nx = advStep φ (A n) its t H nx) → RunsO P φ R k0 (A n (.ops l :: k) (put t d r) (Hout key g' ++ Hr) nx')) : RunsO P φ R k0 (.call f 2 vs ids d l k t H nx) := by
  obtain ⟨key, g', nx', hc, hp⟩ := hp
  exact call2 n hk0 hk ks hin hre hp (hf key g' hc) (fun A eA => h key g' nx' hc A eA)
end
theorem RunsX.wkT {P : Program} {φ : Nat} {R : List AV → Heap → Ctr → Prop} {its : List It} {t t' : List AV} {H : Heap} {nx : Ctr} (hf : flat its) (hw : Wk t t') (h : RunsX P φ R its t' H nx) : RunsX P φ R its t H nx := RunsX.of (.wk hw (h.flatTo hf))
theorem Wk.at1 {x y : AV} (hw : Wk1 x y) (pre post : List AV) : Wk (pre ++ x :: post) (pre ++ y :: post) := fun L X nx w vs h => Reps.arg hw pre vs h
theorem WkH.cell {f d g : Nat} {pre post : List AV} {x y : AV} {H : Heap} (hw : Wk1 x y) : WkH ((f, d, g, some (pre ++ x :: post)) :: H) ((f, d, g, some (pre ++ y :: post)) :: H) := by
  refine ⟨fun bm => Lof_head, fun w0 O X bm nx w r => ?_⟩
  refine r.recell (by simp) (fun j x' v hj hv hvs => ?_)
  by_cases hjp : j = pre.length
  · subst hjp
    simp at hj; subst hj
    exact hw _ _ _ _ _ _ (hv x (by simp))
  · refine hv x' ?_
    rcases Nat.lt_or_ge j pre.length with hl | hl
    · rw [List.getElem?_append_left hl] at hj ⊢; exact hj
    · rw [List.getElem?_append_right hl] at hj ⊢
      obtain ⟨k, hk⟩ : ∃ k, j - pre.length = k + 1 := ⟨j - pre.length - 1, by omega⟩
      rw [hk] at hj ⊢; exact hj
theorem RunsX.wkHeap {P : Program} {φ : Nat} {R : List AV → Heap → Ctr → Prop} {its : List It} {t : List AV} {H H' : Heap} {nx : Ctr} (hf : flat its) (hw : WkH H H') (h : RunsX P φ R its t H' nx) : RunsX P φ R its t H nx := RunsX.of (.wkH hw (h.flatTo hf))
end Go.Ev
/- A loop's next round, told of the evaluator's answer; contracts whose counters are not told. -/
namespace Go.Ev
set_option linter.unusedVariables false
section
variable {P : Program} {φ : Nat} {R : List AV → Heap → Ctr → Prop} {k0 : List It}
theorem roundO {m : Mk} {b : Cd} {its : List It} {t : List AV} {H : Heap} {nx : Ctr} (n : Nat) (hk0 : flat k0) (hf : flat its) (h : ∀ A : Nat → List It → List AV → Heap → Ctr → Out, (∀ n its t H nx, A (n + 1) its t H nx = advStep φ (A n) its t H nx) → RunsO P φ R k0 (A n (.c b :: .lp m b :: its) t H nx)) : RunsO P φ R k0 (.more (.lp m b :: its) t H nx) :=
  round n hk0 hf h
/-- There is one end: its counters are some. -/
theorem RunsTo.nx {its : List It} {t : List AV} {H : Heap} {nx : Ctr} (h : RunsTo P φ R its t H nx) : ∃ nx', RunsTo P φ (fun t H n => R t H n ∧ n = nx') its t H nx := by
  induction h with
  | nil h => exact ⟨_, .nil ⟨h, rfl⟩⟩
  | ret h => exact ⟨_, .ret ⟨h, rfl⟩⟩
  | skip h ih => obtain ⟨n, ih⟩ := ih; exact ⟨n, .skip ih⟩
  | reg h n ih => obtain ⟨n, ih⟩ := ih; exact ⟨n, .reg h ih⟩
  | regf h ih => obtain ⟨n, ih⟩ := ih; exact ⟨n, .regf ih⟩
  | frz hm h ih => obtain ⟨n, ih⟩ := ih; exact ⟨n, .frz hm ih⟩
  | seq h ih => obtain ⟨n, ih⟩ := ih; exact ⟨n, .seq ih⟩
  | condT hc h ih => obtain ⟨n, ih⟩ := ih; exact ⟨n, .condT hc ih⟩
  | condF hc h ih => obtain ⟨n, ih⟩ := ih; exact ⟨n, .condF hc ih⟩
  | blk h ih => obtain ⟨n, ih⟩ := ih; exact ⟨n, .blk ih⟩
  | loop h ih => obtain ⟨n, ih⟩ := ih; exact ⟨n, .loop ih⟩
  | exit he h ih => obtain ⟨n, ih⟩ := ih; exact ⟨n, .exit he ih⟩
  | endB h ih => obtain ⟨n, ih⟩ := ih; exact ⟨n, .endB ih⟩
  | lp h ih => obtain ⟨n, ih⟩ := ih; exact ⟨n, .lp ih⟩
  | drop ids h ih => obtain ⟨n, ih⟩ := ih; exact ⟨n, .drop ids ih⟩
  | wk hw h ih => obtain ⟨n, ih⟩ := ih; exact ⟨n, .wk hw ih⟩
  | wkH hw h ih => obtain ⟨n, ih⟩ := ih; exact ⟨n, .wkH hw ih⟩
theorem RunsTo.mono {R' : List AV → Heap → Ctr → Prop} {its : List It} {t : List AV} {H : Heap} {nx : Ctr} (hR : ∀ t H n, R t H n → R' t H n) (h : RunsTo P φ R its t H nx) : RunsTo P φ R' its t H nx := by
  induction h with
  | nil h => exact .nil (hR _ _ _ h)
  | ret h => exact .ret (hR _ _ _ h)
  | skip h ih => exact .skip ih
  | reg h n ih => exact .reg h ih
  | regf h ih => exact .regf ih
  | frz hm h ih => exact .frz hm ih
  | seq h ih => exact .seq ih
  | condT hc h ih => exact .condT hc ih
  | condF hc h ih => exact .condF hc ih
  | blk h ih => exact .blk ih
  | loop h ih => exact .loop ih
  | exit he h ih => exact .exit he ih
  | endB h ih => exact .endB ih
  | lp h ih => exact .lp ih
  | drop ids h ih => exact .drop ids ih
  | wk hw h ih => exact .wk hw ih
  | wkH hw h ih => exact .wkH hw ih
/-- What comes out, whatever the counters. -/
def GivesA (ks : List (Nat × Nat)) (rs : List RS) (r : AV) (Hout : Heap) (t : List AV) (H : Heap) (nx : Ctr) : Prop := GivesH ks rs r Hout nx t H nx
theorem doneA {ks : List (Nat × Nat)} {rs : List RS} {r : AV} {Hout : Heap} {t : List AV} {H : Heap} {nx : Ctr} (h1 : Ev.sel ks H = Hout) (h2 : getsK rs t H (fun vs => some (retv vs)) none = some r) : RunsO P φ (GivesA ks rs r Hout) k0 (.done t H nx) := GivesH.of h1 h2 rfl
theorem RunsX.any {ks : List (Nat × Nat)} {rs : List RS} {r : AV} {Hout : Heap} {its : List It} (hf : flat its) {t : List AV} {H : Heap} {nx : Ctr} (h : RunsX P φ (GivesA ks rs r Hout) its t H nx) : ∃ nx', RunsX P φ (GivesH ks rs r Hout nx') its t H nx := by
  obtain ⟨nx', h'⟩ := (h.flatTo hf).nx
  exact ⟨nx', RunsX.of (h'.mono fun t H n ⟨a, b⟩ => by subst b; exact a)⟩
end
end Go.Ev
/- Versions in a list: the first of which something is so. -/
-- short
-- fuel 300
namespace Go.Proofs.Ytmokhopjnjecbac
open Go.Ev
set_option linter.unusedVariables false
set_option linter.unusedSimpArgs false
set_option maxRecDepth 100000
set_option maxHeartbeats 3200000
/-- Where the first stands of which it is so. -/
def idxF (p : Ver → Bool) : List Ver → Nat → Int
  | [], _ => -1
  | v :: l, i => if p v = true then (i : Int) else idxF p l (i + 1)
theorem idxF_any (p : Ver → Bool) : ∀ (l : List Ver) (i : Nat), decide (0 ≤ idxF p l i) = l.any p
  | [], i => rfl
  | v :: l, i => by
    unfold idxF
    cases h : p v with
    | true => simp [h]
    | false => simp only [Bool.false_eq_true, if_false, List.any_cons, h, Bool.false_or]; exact idxF_any p l (i + 1)
theorem vidx_loop (F : Nat) (caps : List AV) (p : Ver → Bool) (l : List Ver) (c : Option Nat) (hl : l.length ≤ 100000) (hp : ∀ v ∈ l, PCalls Try.prog F (vv v :: caps) (.bool (p v)))
    (hc : ∀ n, 7 ≤ n → ∀ (H : Heap) (ok : List AV → List (Nat × Nat) → Out) (bd : Out), mapK (frzK n H) caps ok bd = ok caps []) : ∀ (post pre : List Ver), l = pre ++ post → ∀ nx : Ctr,
    RunsX Try.prog 0 (Gives [.t 4] (.int .i64 (idxF p post pre.length))) (i_z15z_0 ++ [.c c_z15z_k0]) (s_z15z_0 (.fz 7 (l.map vv) c) (.func F caps) (.int .i64 (l.length : Nat)) (.int .i64 (pre.length : Nat))) [] nx := by
  intro post
  induction post with
  | nil =>
    intro pre h1 nx
    rw [List.append_nil] at h1
    subst h1
    refine round (its := [.blk 0 wb_z15z_0]) (k0 := [.c c_z15z_k0]) 300 trivial trivial (fun A eA => ?_)
    simp (disch := first | omega | (simp only [avs_len, zz1, zz2, zz3, zz4, zz5, zz6]; omega) | (simp only [cells, scal1, allSz, zz1, zz3, zz2, zz6, zz7, zz8, avs_len, zz9, zz10, zz11, zz12, zz13, reduceCtorEq, *]; done) | fail) only [c_z15z, wl_z15z_0, s_z15z_0, c_z15z_l0, wb_z15z_0, c_z15z_k0, go_sem, eA, scal1]
    refine walk0 (its := [.c c_z15z_k0]) 300 trivial (fun A eA => ?_)
    simp (disch := first | omega | (simp only [avs_len, zz1, zz2, zz3, zz4, zz5, zz6]; omega) | (simp only [cells, scal1, allSz, zz1, zz3, zz2, zz6, zz7, zz8, avs_len, zz9, zz10, zz11, zz12, zz13, reduceCtorEq, *]; done) | fail) only [c_z15z, wl_z15z_0, s_z15z_0, c_z15z_l0, wb_z15z_0, c_z15z_k0, go_sem, eA, scal1]
    exact doneG rfl
  | cons v post ih =>
    intro pre h1 nx
    have hlt : pre.length < l.length := by rw [h1]; simp
    have hpm : v ∈ l := by rw [h1]; simp
    have hih := ih (pre ++ [v]) (by rw [h1]; simp) nx
    rw [show (pre ++ [v]).length = pre.length + 1 by simp] at hih
    have g0 : (l.map vv)[((pre.length : Nat) : Int).toNat]? = some (vv v) := by
      rw [zz16, h1, List.getElem?_map, List.getElem?_append_right (Nat.le_refl _), Nat.sub_self]; rfl
    have w1 : IntKind.i64.wrap ((pre.length : Int) + 1) = ((pre.length + 1 : Nat) : Int) := by rw [wrap64 (by omega) (by omega)]; omega
    have hpv := hp v hpm
    refine round (its := [.blk 0 wb_z15z_0]) (k0 := [.c c_z15z_k0]) 300 trivial trivial (fun A eA => ?_)
    cases hq : p v with
    | true =>
      rw [hq] at hpv
      have e : idxF p (v :: post) pre.length = (pre.length : Int) := by unfold idxF; rw [if_pos hq]
      rw [e]
      simp (disch := first | omega | (simp only [avs_len, zz1, zz2, zz3, zz4, zz5, zz6]; omega) | (simp only [cells, scal1, allSz, zz1, zz3, zz2, zz6, zz7, zz8, avs_len, zz9, zz10, zz11, zz12, zz13, reduceCtorEq, *]; done) | fail) only [c_z15z, wl_z15z_0, s_z15z_0, c_z15z_l0, wb_z15z_0, c_z15z_k0, go_sem, eA, scal1, ↓optI_of g0, w1, ↓hc]
      refine call0 300 trivial trivial hpv (.inl rfl) (fun A eA => ?_)
      simp (disch := first | omega | (simp only [avs_len, zz1, zz2, zz3, zz4, zz5, zz6]; omega) | (simp only [cells, scal1, allSz, zz1, zz3, zz2, zz6, zz7, zz8, avs_len, zz9, zz10, zz11, zz12, zz13, reduceCtorEq, *]; done) | fail) only [c_z15z, wl_z15z_0, s_z15z_0, c_z15z_l0, wb_z15z_0, c_z15z_k0, go_sem, eA, scal1, ↓optI_of g0, w1]
      exact doneG rfl
    | false =>
      rw [hq] at hpv
      have e : idxF p (v :: post) pre.length = idxF p post (pre.length + 1) := by simp only [idxF, hq, Bool.false_eq_true, if_false]
      rw [e]
      simp (disch := first | omega | (simp only [avs_len, zz1, zz2, zz3, zz4, zz5, zz6]; omega) | (simp only [cells, scal1, allSz, zz1, zz3, zz2, zz6, zz7, zz8, avs_len, zz9, zz10, zz11, zz12, zz13, reduceCtorEq, *]; done) | fail) only [c_z15z, wl_z15z_0, s_z15z_0, c_z15z_l0, wb_z15z_0, c_z15z_k0, go_sem, eA, scal1, ↓optI_of g0, w1, ↓hc]
      refine call0 300 trivial trivial hpv (.inl rfl) (fun A eA => ?_)
      simp (disch := first | omega | (simp only [avs_len, zz1, zz2, zz3, zz4, zz5, zz6]; omega) | (simp only [cells, scal1, allSz, zz1, zz3, zz2, zz6, zz7, zz8, avs_len, zz9, zz10, zz11, zz12, zz13, reduceCtorEq, *]; done) | fail) only [c_z15z, wl_z15z_0, s_z15z_0, c_z15z_l0, wb_z15z_0, c_z15z_k0, go_sem, eA, scal1, ↓optI_of g0, w1]
      exact hih
theorem vidx_calls (F : Nat) (caps : List AV) (p : Ver → Bool) (l : List Ver) (c : Option Nat) (hl : l.length ≤ 100000) (hp : ∀ v ∈ l, PCalls Try.prog F (vv v :: caps) (.bool (p v)))
    (hc : ∀ n, 7 ≤ n → ∀ (H : Heap) (ok : List AV → List (Nat × Nat) → Out) (bd : Out), mapK (frzK n H) caps ok bd = ok caps []) : PCalls Try.prog F_z15z [.fz 7 (l.map vv) c, .func F caps] (.int .i64 (idxF p l 0)) := by
  refine calls_z15z (walk0 300 trivial (fun A eA => ?_))
  simp (disch := first | omega | (simp only [avs_len, zz1, zz2, zz3, zz4, zz5, zz6]; omega) | (simp only [cells, scal1, allSz, zz1, zz3, zz2, zz6, zz7, zz8, avs_len, zz9, zz10, zz11, zz12, zz13, reduceCtorEq, *]; done) | fail) only [c_z15z, wl_z15z_0, s_z15z_0, c_z15z_l0, wb_z15z_0, c_z15z_k0, go_sem, eA, scal1, List.length_map]
  exact vidx_loop F caps p l c hl hp hc l [] rfl _
theorem vany_calls (F : Nat) (caps : List AV) (p : Ver → Bool) (l : List Ver) (c : Option Nat) (hl : l.length ≤ 100000) (hp : ∀ v ∈ l, PCalls Try.prog F (vv v :: caps) (.bool (p v)))
    (hc : ∀ n, 7 ≤ n → ∀ (H : Heap) (ok : List AV → List (Nat × Nat) → Out) (bd : Out), mapK (frzK n H) caps ok bd = ok caps []) : PCalls Try.prog F_z13z [.fz 7 (l.map vv) c, .func F caps] (.bool (l.any p)) := by
  have c1 := vidx_calls F caps p l c hl hp hc
  rw [← idxF_any p l 0]
  refine calls_z13z (walk0 300 trivial (fun A eA => ?_))
  simp (disch := first | omega | (simp only [avs_len, zz1, zz2, zz3, zz4, zz5, zz6]; omega) | (simp only [cells, scal1, allSz, zz1, zz3, zz2, zz6, zz7, zz8, avs_len, zz9, zz10, zz11, zz12, zz13, reduceCtorEq, *]; done) | fail) only [c_z13z, go_sem, eA, scal1, List.length_map, ↓hc]
  refine call0 300 trivial trivial c1 (.inl rfl) (fun A eA => ?_)
  simp (disch := first | omega | (simp only [avs_len, zz1, zz2, zz3, zz4, zz5, zz6]; omega) | (simp only [cells, scal1, allSz, zz1, zz3, zz2, zz6, zz7, zz8, avs_len, zz9, zz10, zz11, zz12, zz13, reduceCtorEq, *]; done) | fail) only [c_z13z, go_sem, eA, scal1]
  exact doneG rfl
end Go.Proofs.Ytmokhopjnjecbac
/- Versions in order of their names; all right, and of one key. -/
-- short
-- fuel 300
namespace Go.Proofs.Ytmokhopjnjecbac
open Go.Ev
set_option linter.unusedVariables false
set_option linter.unusedSimpArgs false
set_option maxRecDepth 100000
set_option maxHeartbeats 3200000
def cmpZ (x y : Int) : Int := if x < y then -1 else if y < x then 1 else 0
theorem nanI_calls (a : Int) : PCalls Try.prog F_cmp_isNaN_int [.int .i64 a] (.bool false) := by
  refine calls_cmp_isNaN_int (walk0 300 trivial (fun A eA => ?_))
  simp (disch := first | omega | (simp only [avs_len, zz1, zz2, zz3, zz4, zz5, zz6]; omega) | (simp only [cells, scal1, allSz, zz1, zz3, zz2, zz6, zz7, zz8, avs_len, zz9, zz10, zz11, zz12, zz13, reduceCtorEq, *]; done) | fail) only [c_cmp_isNaN_int, go_sem, eA, scal1]
  exact doneG rfl
theorem nanI64_calls (a : Int) : PCalls Try.prog F_cmp_isNaN_int64 [.int .i64 a] (.bool false) := by
  refine calls_cmp_isNaN_int64 (walk0 300 trivial (fun A eA => ?_))
  simp (disch := first | omega | (simp only [avs_len, zz1, zz2, zz3, zz4, zz5, zz6]; omega) | (simp only [cells, scal1, allSz, zz1, zz3, zz2, zz6, zz7, zz8, avs_len, zz9, zz10, zz11, zz12, zz13, reduceCtorEq, *]; done) | fail) only [c_cmp_isNaN_int64, go_sem, eA, scal1]
  exact doneG rfl
theorem cmpI_calls (x y : Int) : PCalls Try.prog F_cmp_Compare_int [.int .i64 x, .int .i64 y] (.int .i64 (cmpZ x y)) := by
  have c1 := nanI_calls x
  have c2 := nanI_calls y
  unfold cmpZ
  by_cases h1 : x < y
  · rw [if_pos h1]
    refine calls_cmp_Compare_int (walk0 300 trivial (fun A eA => ?_))
    simp (disch := first | omega | (simp only [avs_len, zz1, zz2, zz3, zz4, zz5, zz6]; omega) | (simp only [cells, scal1, allSz, zz1, zz3, zz2, zz6, zz7, zz8, avs_len, zz9, zz10, zz11, zz12, zz13, reduceCtorEq, *]; done) | fail) only [c_cmp_Compare_int, go_sem, eA, scal1]
    repeat (refine call0 300 trivial trivial (by first | exact c1 | exact c2) (.inl rfl) (fun A eA => ?_); simp (disch := first | omega | (simp only [avs_len, zz1, zz2, zz3, zz4, zz5, zz6]; omega) | (simp only [cells, scal1, allSz, zz1, zz3, zz2, zz6, zz7, zz8, avs_len, zz9, zz10, zz11, zz12, zz13, reduceCtorEq, *]; done) | fail) only [c_cmp_Compare_int, go_sem, eA, scal1])
    exact doneG rfl
  · rw [if_neg h1]
    by_cases h2 : y < x
    · rw [if_pos h2]
      refine calls_cmp_Compare_int (walk0 300 trivial (fun A eA => ?_))
      simp (disch := first | omega | (simp only [avs_len, zz1, zz2, zz3, zz4, zz5, zz6]; omega) | (simp only [cells, scal1, allSz, zz1, zz3, zz2, zz6, zz7, zz8, avs_len, zz9, zz10, zz11, zz12, zz13, reduceCtorEq, *]; done) | fail) only [c_cmp_Compare_int, go_sem, eA, scal1]
      repeat (refine call0 300 trivial trivial (by first | exact c1 | exact c2) (.inl rfl) (fun A eA => ?_); simp (disch := first | omega | (simp only [avs_len, zz1, zz2, zz3, zz4, zz5, zz6]; omega) | (simp only [cells, scal1, allSz, zz1, zz3, zz2, zz6, zz7, zz8, avs_len, zz9, zz10, zz11, zz12, zz13, reduceCtorEq, *]; done) | fail) only [c_cmp_Compare_int, go_sem, eA, scal1])
      exact doneG rfl
    · rw [if_neg h2]
      refine calls_cmp_Compare_int (walk0 300 trivial (fun A eA => ?_))
      simp (disch := first | omega | (simp only [avs_len, zz1, zz2, zz3, zz4, zz5, zz6]; omega) | (simp only [cells, scal1, allSz, zz1, zz3, zz2, zz6, zz7, zz8, avs_len, zz9, zz10, zz11, zz12, zz13, reduceCtorEq, *]; done) | fail) only [c_cmp_Compare_int, go_sem, eA, scal1]
      repeat (refine call0 300 trivial trivial (by first | exact c1 | exact c2) (.inl rfl) (fun A eA => ?_); simp (disch := first | omega | (simp only [avs_len, zz1, zz2, zz3, zz4, zz5, zz6]; omega) | (simp only [cells, scal1, allSz, zz1, zz3, zz2, zz6, zz7, zz8, avs_len, zz9, zz10, zz11, zz12, zz13, reduceCtorEq, *]; done) | fail) only [c_cmp_Compare_int, go_sem, eA, scal1])
      exact doneG rfl
theorem cmpI64_calls (x y : Int) : PCalls Try.prog F_z19z [.int .i64 x, .int .i64 y] (.int .i64 (cmpZ x y)) := by
  have c1 := nanI64_calls x
  have c2 := nanI64_calls y
  unfold cmpZ
  by_cases h1 : x < y
  · rw [if_pos h1]
    refine calls_z19z (walk0 300 trivial (fun A eA => ?_))
    simp (disch := first | omega | (simp only [avs_len, zz1, zz2, zz3, zz4, zz5, zz6]; omega) | (simp only [cells, scal1, allSz, zz1, zz3, zz2, zz6, zz7, zz8, avs_len, zz9, zz10, zz11, zz12, zz13, reduceCtorEq, *]; done) | fail) only [c_z19z, go_sem, eA, scal1]
    repeat (refine call0 300 trivial trivial (by first | exact c1 | exact c2) (.inl rfl) (fun A eA => ?_); simp (disch := first | omega | (simp only [avs_len, zz1, zz2, zz3, zz4, zz5, zz6]; omega) | (simp only [cells, scal1, allSz, zz1, zz3, zz2, zz6, zz7, zz8, avs_len, zz9, zz10, zz11, zz12, zz13, reduceCtorEq, *]; done) | fail) only [c_z19z, go_sem, eA, scal1])
    exact doneG rfl
  · rw [if_neg h1]
    by_cases h2 : y < x
    · rw [if_pos h2]
      refine calls_z19z (walk0 300 trivial (fun A eA => ?_))
      simp (disch := first | omega | (simp only [avs_len, zz1, zz2, zz3, zz4, zz5, zz6]; omega) | (simp only [cells, scal1, allSz, zz1, zz3, zz2, zz6, zz7, zz8, avs_len, zz9, zz10, zz11, zz12, zz13, reduceCtorEq, *]; done) | fail) only [c_z19z, go_sem, eA, scal1]
      repeat (refine call0 300 trivial trivial (by first | exact c1 | exact c2) (.inl rfl) (fun A eA => ?_); simp (disch := first | omega | (simp only [avs_len, zz1, zz2, zz3, zz4, zz5, zz6]; omega) | (simp only [cells, scal1, allSz, zz1, zz3, zz2, zz6, zz7, zz8, avs_len, zz9, zz10, zz11, zz12, zz13, reduceCtorEq, *]; done) | fail) only [c_z19z, go_sem, eA, scal1])
      exact doneG rfl
    · rw [if_neg h2]
      refine calls_z19z (walk0 300 trivial (fun A eA => ?_))
      simp (disch := first | omega | (simp only [avs_len, zz1, zz2, zz3, zz4, zz5, zz6]; omega) | (simp only [cells, scal1, allSz, zz1, zz3, zz2, zz6, zz7, zz8, avs_len, zz9, zz10, zz11, zz12, zz13, reduceCtorEq, *]; done) | fail) only [c_z19z, go_sem, eA, scal1]
      repeat (refine call0 300 trivial trivial (by first | exact c1 | exact c2) (.inl rfl) (fun A eA => ?_); simp (disch := first | omega | (simp only [avs_len, zz1, zz2, zz3, zz4, zz5, zz6]; omega) | (simp only [cells, scal1, allSz, zz1, zz3, zz2, zz6, zz7, zz8, avs_len, zz9, zz10, zz11, zz12, zz13, reduceCtorEq, *]; done) | fail) only [c_z19z, go_sem, eA, scal1])
      exact doneG rfl
theorem or_calls (x y : Int) : PCalls Try.prog F_z33z [.fz 1 [.int .i64 x, .int .i64 y] (some 2)] (.int .i64 (if x ≠ 0 then x else y)) := by
  have w1 : IntKind.i64.wrap ((0 : Int) + 1) = 1 := by decide
  have w2 : IntKind.i64.wrap ((1 : Int) + 1) = 2 := by decide
  by_cases h1 : x = 0
  · have h1' : (x = 0) ↔ True := ⟨fun _ => trivial, fun _ => h1⟩
    rw [if_neg (by simp [h1])]
    by_cases h2 : y = 0
    · subst h1 h2
      refine calls_z33z (walk0 300 trivial (fun A eA => ?_))
      simp (disch := first | omega | (simp only [avs_len, zz1, zz2, zz3, zz4, zz5, zz6]; omega) | (simp only [cells, scal1, allSz, zz1, zz3, zz2, zz6, zz7, zz8, avs_len, zz9, zz10, zz11, zz12, zz13, reduceCtorEq, *]; done) | fail) only [c_z33z, wl_z33z_0, s_z33z_0, c_z33z_l0, wb_z33z_0, c_z33z_k0, go_sem, eA, scal1, w1, w2, List.all_cons, List.all_nil]
      repeat (refine roundO 300 trivial trivial (fun A eA => ?_); simp (disch := first | omega | (simp only [avs_len, zz1, zz2, zz3, zz4, zz5, zz6]; omega) | (simp only [cells, scal1, allSz, zz1, zz3, zz2, zz6, zz7, zz8, avs_len, zz9, zz10, zz11, zz12, zz13, reduceCtorEq, *]; done) | fail) only [c_z33z, wl_z33z_0, s_z33z_0, c_z33z_l0, wb_z33z_0, c_z33z_k0, go_sem, eA, scal1, w1, w2, List.all_cons, List.all_nil])
      exact doneG rfl
    · subst h1
      refine calls_z33z (walk0 300 trivial (fun A eA => ?_))
      simp (disch := first | omega | (simp only [avs_len, zz1, zz2, zz3, zz4, zz5, zz6]; omega) | (simp only [cells, scal1, allSz, zz1, zz3, zz2, zz6, zz7, zz8, avs_len, zz9, zz10, zz11, zz12, zz13, reduceCtorEq, *]; done) | fail) only [c_z33z, wl_z33z_0, s_z33z_0, c_z33z_l0, wb_z33z_0, c_z33z_k0, go_sem, eA, scal1, w1, w2, List.all_cons, List.all_nil]
      repeat (refine roundO 300 trivial trivial (fun A eA => ?_); simp (disch := first | omega | (simp only [avs_len, zz1, zz2, zz3, zz4, zz5, zz6]; omega) | (simp only [cells, scal1, allSz, zz1, zz3, zz2, zz6, zz7, zz8, avs_len, zz9, zz10, zz11, zz12, zz13, reduceCtorEq, *]; done) | fail) only [c_z33z, wl_z33z_0, s_z33z_0, c_z33z_l0, wb_z33z_0, c_z33z_k0, go_sem, eA, scal1, w1, w2, List.all_cons, List.all_nil])
      exact doneG rfl
  · rw [if_pos h1]
    refine calls_z33z (walk0 300 trivial (fun A eA => ?_))
    simp (disch := first | omega | (simp only [avs_len, zz1, zz2, zz3, zz4, zz5, zz6]; omega) | (simp only [cells, scal1, allSz, zz1, zz3, zz2, zz6, zz7, zz8, avs_len, zz9, zz10, zz11, zz12, zz13, reduceCtorEq, *]; done) | fail) only [c_z33z, wl_z33z_0, s_z33z_0, c_z33z_l0, wb_z33z_0, c_z33z_k0, go_sem, eA, scal1, w1, w2, List.all_cons, List.all_nil]
    repeat (refine roundO 300 trivial trivial (fun A eA => ?_); simp (disch := first | omega | (simp only [avs_len, zz1, zz2, zz3, zz4, zz5, zz6]; omega) | (simp only [cells, scal1, allSz, zz1, zz3, zz2, zz6, zz7, zz8, avs_len, zz9, zz10, zz11, zz12, zz13, reduceCtorEq, *]; done) | fail) only [c_z33z, wl_z33z_0, s_z33z_0, c_z33z_l0, wb_z33z_0, c_z33z_k0, go_sem, eA, scal1, w1, w2, List.all_cons, List.all_nil])
    exact doneG rfl
/-- Which name is ahead. -/
def ordZ (a b : Ver) : Int := if cmpZ a.client b.client ≠ 0 then cmpZ a.client b.client else cmpZ a.token b.token
theorem order_calls (a b : Ver) : PCalls Try.prog F_version_order [vv a, vv b] (.int .i64 (ordZ a b)) := by
  have c1 := cmpI_calls a.client b.client
  have c2 := cmpI64_calls a.token b.token
  have c3 := or_calls (cmpZ a.client b.client) (cmpZ a.token b.token)
  unfold ordZ
  refine calls_version_order (walk0 300 trivial (fun A eA => ?_))
  simp (disch := first | omega | (simp only [avs_len, zz1, zz2, zz3, zz4, zz5, zz6]; omega) | (simp only [cells, scal1, allSz, zz1, zz3, zz2, zz6, zz7, zz8, avs_len, zz9, zz10, zz11, zz12, zz13, reduceCtorEq, *]; done) | fail) only [c_version_order, go_sem, eA, scal1, List.all_cons, List.all_nil, allSz]
  repeat (refine call0 300 trivial trivial (by first | exact c1 | exact c2 | exact c3) (.inl rfl) (fun A eA => ?_); simp (disch := first | omega | (simp only [avs_len, zz1, zz2, zz3, zz4, zz5, zz6]; omega) | (simp only [cells, scal1, allSz, zz1, zz3, zz2, zz6, zz7, zz8, avs_len, zz9, zz10, zz11, zz12, zz13, reduceCtorEq, *]; done) | fail) only [c_version_order, go_sem, eA, scal1, List.all_cons, List.all_nil, allSz])
  exact doneG rfl
theorem named_calls (a b : Ver) : PCalls Try.prog F_version_named [vv a, vv b] (.bool (decide (ordZ a b = 0))) := by
  have c1 := order_calls a b
  refine calls_version_named (walk0 300 trivial (fun A eA => ?_))
  simp (disch := first | omega | (simp only [avs_len, zz1, zz2, zz3, zz4, zz5, zz6]; omega) | (simp only [cells, scal1, allSz, zz1, zz3, zz2, zz6, zz7, zz8, avs_len, zz9, zz10, zz11, zz12, zz13, reduceCtorEq, *]; done) | fail) only [c_version_named, go_sem, eA, scal1, List.all_cons, List.all_nil]
  refine call0 300 trivial trivial c1 (.inl rfl) (fun A eA => ?_)
  simp (disch := first | omega | (simp only [avs_len, zz1, zz2, zz3, zz4, zz5, zz6]; omega) | (simp only [cells, scal1, allSz, zz1, zz3, zz2, zz6, zz7, zz8, avs_len, zz9, zz10, zz11, zz12, zz13, reduceCtorEq, *]; done) | fail) only [c_version_named, go_sem, eA, scal1]
  exact doneG rfl
def ltV (a b : Ver) : Bool := decide (ordZ a b < 0)
theorem cmpZ_neg (x y : Int) : cmpZ x y < 0 ↔ x < y := by unfold cmpZ; split <;> (try split) <;> omega
theorem cmpZ_zero (x y : Int) : cmpZ x y = 0 ↔ x = y := by unfold cmpZ; split <;> (try split) <;> omega
theorem ltV_iff (a b : Ver) : ltV a b = true ↔ a.client < b.client ∨ (a.client = b.client ∧ a.token < b.token) := by
  unfold ltV ordZ
  rw [decide_eq_true_eq]
  by_cases h : cmpZ a.client b.client = 0
  · rw [if_neg (by simp [h]), cmpZ_neg]
    rw [cmpZ_zero] at h; omega
  · rw [if_pos h, cmpZ_neg]
    rw [cmpZ_zero] at h; omega
theorem ltV_swo : Go.Sort.SWO ltV := by
  refine ⟨fun x => ?_, fun x y z h1 h2 => ?_, fun x y z h1 h2 => ?_⟩
  · rw [Bool.eq_false_iff, ne_eq, ltV_iff]; omega
  · rw [ltV_iff] at *; omega
  · rw [Bool.eq_false_iff, ne_eq, ltV_iff] at *; omega
theorem ordZ_zero (a b : Ver) : ordZ a b = 0 ↔ (a.client = b.client ∧ a.token = b.token) := by
  unfold ordZ
  by_cases h : cmpZ a.client b.client = 0
  · rw [if_neg (by simp [h]), cmpZ_zero]
    rw [cmpZ_zero] at h; exact ⟨fun e => ⟨h, e⟩, fun e => e.2⟩
  · rw [if_pos h]
    refine ⟨fun e => absurd e h, fun e => ?_⟩
    rw [cmpZ_zero] at h; exact absurd e.1 h
end Go.Proofs.Ytmokhopjnjecbac
