/- Operations, third part: cuts, append, literals, make, conversions; what is frozen. -/
import Derived.Test.YtmokhopjnjecbaaEvD
import Derived.Laws.BytesString
namespace Go.Ev
open Go.RowKit
set_option linter.unusedVariables false
set_option linter.unusedSimpArgs false
set_option linter.unusedSectionVars false

theorem catCells_get {sz : Nat} (h0 : 0 < sz) : ∀ (es : List AV), (∀ (i : Nat) e, es[i]? = some e → (cells e).length = sz) → ∀ q, (catCells es)[q]? = (es[q / sz]?).bind fun e => (cells e)[q % sz]?
  | [], _, q => by simp [catCells]
  | e :: es, h, q => by
    have h1 := h 0 e rfl
    have ih := catCells_get h0 es (fun i e hi => h (i + 1) e hi)
    simp only [catCells, List.getElem?_append, h1]
    split
    · rename_i hq
      rw [Nat.div_eq_of_lt hq, Nat.mod_eq_of_lt hq]; rfl
    · rename_i hq
      rw [ih (q - sz)]
      have hq' : sz ≤ q := by omega
      obtain ⟨k, rfl⟩ : ∃ k, q = k + sz := ⟨q - sz, by omega⟩
      simp only [Nat.add_sub_cancel, Nat.add_mod_right]
      rw [Nat.add_div_right _ h0]; rfl
theorem catCells_len {sz : Nat} : ∀ (es : List AV), (∀ (i : Nat) e, es[i]? = some e → (cells e).length = sz) → (catCells es).length = es.length * sz
  | [], _ => by simp [catCells]
  | e :: es, h => by
    have h1 := h 0 e rfl
    have ih := catCells_len es (fun i e hi => h (i + 1) e hi)
    simp only [catCells, List.length_append, h1, ih, List.length_cons, Nat.add_mul]; omega

section
variable {P : Program} {w0 : World} {O X : Nat → Prop} {bm : Nat → Nat → Nat} {H : Heap} {nx : Ctr} {w : World}

/-- Operands' values, one by one. -/
inductive Reps (L : Loc) (X : Nat → Prop) (nx : Ctr) (w : World) (p : Bool) : List AV → List Value → Prop
  | nil : Reps L X nx w p [] []
  | cons {x xs v vs} (h : Rep L X nx w p x v) (t : Reps L X nx w p xs vs) : Reps L X nx w p (x :: xs) (v :: vs)

theorem Reps.inv {L : Loc} {p : Bool} {x : AV} {xs : List AV} {vs : List Value} (h : Reps L X nx w p (x :: xs) vs) : ∃ v vs', vs = v :: vs' ∧ Rep L X nx w p x v ∧ Reps L X nx w p xs vs' := by
  cases h with | cons h t => exact ⟨_, _, rfl, h, t⟩
theorem Reps.inv0 {L : Loc} {p : Bool} {vs : List Value} (h : Reps L X nx w p [] vs) : vs = [] := by cases h; rfl

/-! ### cuts -/
theorem run_sliceBound (k : IntKind) (n : Int) (y : Nat) (code : BoundsCode) (h0 : 0 ≤ n) (h1 : n ≤ y) : (Instr.sliceBound (.int k n) y code).run P w = .ok n.toNat w := by
  simp [Instr.sliceBound, asIntOf, h0, h1]
theorem bndK_some {L : Loc} {x : AV} {v : Value} {m n : Nat} {α : Type} {ok : Nat → Option α} {r : α} (h : bndK x m ok none = some r) (hr : Rep L X nx w false x v) :
    ∃ k i, v = .int k i ∧ 0 ≤ i ∧ i ≤ m ∧ ok i.toNat = some r := by
  unfold bndK at h
  split at h
  · cases hr
    split at h
    · rename_i hc; exact ⟨_, _, rfl, hc.1, hc.2, h⟩
    · cases h
  · cases h
/-- The bounds as the model has them: low, high, max. -/
def bounds (lo hi mx : Bool) (vs : List Value) : Option Value × Option Value × Option Value :=
  match lo, hi, mx, vs with
  | true, false, false, [l] => (some l, none, none)
  | false, true, false, [h] => (none, some h, none)
  | true, true, false, [l, h] => (some l, some h, none)
  | false, true, true, [h, m] => (none, some h, some m)
  | true, true, true, [l, h, m] => (some l, some h, some m)
  | _, _, _, _ => (none, none, none)
theorem cut_run {L : Loc} (isSlice : Bool) (len lim cap : Nat) (lo hi mx : Bool) (xs : List AV) (vs : List Value) (hv : Reps L X nx w false xs vs) (hcap : lim ≤ cap) (hlen : len ≤ lim)
    {α : Type} {ok : Nat → Nat → Option Nat → Option α} {r : α} (h : cutK len lim lo hi mx xs ok none = some r) :
    ∃ l hh m, (Instr.sliceBounds isSlice len cap (bounds lo hi mx vs).1 (bounds lo hi mx vs).2.1 (bounds lo hi mx vs).2.2).run P w = .ok (l, hh, m.getD cap) w ∧ ok l hh m = some r ∧ l ≤ hh ∧ hh ≤ lim ∧ (∀ q, m = some q → hh ≤ q ∧ q ≤ lim) ∧ (mx = false → m = none) := by
  unfold cutK at h
  split at h
  · obtain rfl := hv.inv0
    exact ⟨0, len, none, by simp [bounds, Instr.sliceBounds], h, by omega, by omega, by simp, fun _ => rfl⟩
  · obtain ⟨_, _, rfl, h1, t⟩ := hv.inv; obtain rfl := t.inv0
    obtain ⟨k, i, rfl, h0, hi, h⟩ := bndK_some (n := 0) h h1
    exact ⟨i.toNat, len, none, by simp [bounds, Instr.sliceBounds, run_sliceBound _ _ _ _ h0 hi], h, by omega, by omega, by simp, fun _ => rfl⟩
  · obtain ⟨_, _, rfl, h1, t⟩ := hv.inv; obtain rfl := t.inv0
    obtain ⟨k, i, rfl, h0, hi, h⟩ := bndK_some (n := 0) h h1
    exact ⟨0, i.toNat, none, by simp [bounds, Instr.sliceBounds, run_sliceBound _ _ _ _ h0 (show i ≤ (cap : Int) by omega)], h, by omega, by omega, by simp, fun _ => rfl⟩
  · obtain ⟨_, _, rfl, h1, t⟩ := hv.inv; obtain ⟨_, _, rfl, h2, t⟩ := t.inv; obtain rfl := t.inv0
    obtain ⟨k, i, rfl, h0, hi, h⟩ := bndK_some (n := 0) h h2
    obtain ⟨k', i', rfl, h0', hi', h⟩ := bndK_some (n := 0) h h1
    exact ⟨i'.toNat, i.toNat, none, by simp [bounds, Instr.sliceBounds, run_sliceBound _ _ _ _ h0 (show i ≤ (cap : Int) by omega), run_sliceBound _ _ _ _ h0' hi'], h, by omega, by omega, by simp, fun _ => rfl⟩
  · obtain ⟨_, _, rfl, h1, t⟩ := hv.inv; obtain ⟨_, _, rfl, h2, t⟩ := t.inv; obtain rfl := t.inv0
    obtain ⟨k, i, rfl, h0, hi, h⟩ := bndK_some (n := 0) h h2
    obtain ⟨k', i', rfl, h0', hi', h⟩ := bndK_some (n := 0) h h1
    exact ⟨0, i'.toNat, some i.toNat, by simp [bounds, Instr.sliceBounds, run_sliceBound _ _ _ _ h0 (show i ≤ (cap : Int) by omega), run_sliceBound _ _ _ _ h0' hi'], h, by omega, by omega, by simp; omega, by simp⟩
  · obtain ⟨_, _, rfl, h1, t⟩ := hv.inv; obtain ⟨_, _, rfl, h2, t⟩ := t.inv; obtain ⟨_, _, rfl, h3, t⟩ := t.inv; obtain rfl := t.inv0
    obtain ⟨k, i, rfl, h0, hi, h⟩ := bndK_some (n := 0) h h3
    obtain ⟨k', i', rfl, h0', hi', h⟩ := bndK_some (n := 0) h h2
    obtain ⟨k2, i2, rfl, h02, hi2, h⟩ := bndK_some (n := 0) h h1
    exact ⟨i2.toNat, i'.toNat, some i.toNat, by simp [bounds, Instr.sliceBounds, run_sliceBound _ _ _ _ h0 (show i ≤ (cap : Int) by omega), run_sliceBound _ _ _ _ h0' hi', run_sliceBound _ _ _ _ h02 hi2], h, by omega, by omega, by simp; omega, by simp⟩
  · cases h

theorem bounds_mx (lo hi : Bool) (vs : List Value) : (bounds lo hi false vs).2.2 = none := by unfold bounds; split <;> simp_all

theorem ok_slcT (r : Rel w0 O X bm H nx w) (t : TypeId) (ht : P.underlying t = some .string) (lo hi : Bool) (x : AV) (v1 : Value) (hx : Rep (Lof H bm) X nx w false x v1) (xs : List AV) (vs : List Value) (hv : Reps (Lof H bm) X nx w false xs vs) {φ : Nat}
    {v : AV} {H' : Heap} {nx' : Ctr} (h : opK (.slcT lo hi) (x :: xs) H nx φ (fun v H nx => some (v, H, nx)) none = some (v, H', nx')) :
    OK P w0 O X bm H nx w (Instr.sliceAt t v1 (bounds lo hi false vs).1 (bounds lo hi false vs).2.1 none) v H' nx' := by
  simp only [opK] at h
  split at h
  case h_2 => cases h
  rename_i s
  cases hx
  obtain ⟨l, hh, m, hrun, h, h1, h2, h3, h4⟩ := cut_run (P := P) false s.size s.size s.size lo hi false xs vs hv (Nat.le_refl _) (Nat.le_refl _) h
  have hb := bounds_mx lo hi vs
  rw [hb] at hrun
  simp at h; obtain ⟨rfl, rfl, rfl⟩ := h
  exact OK.same r (by simp [Instr.sliceAt, Instr.slice, run_underlying ht, hrun]) .str
theorem ok_slc (r : Rel w0 O X bm H nx w) (t e : TypeId) (ht : P.underlying t = some (.slice e)) (i : TypeInfo) (hi : P.info? e = some i) (lo hi_ mx : Bool) (x : AV) (v1 : Value) (h1 : Rep (Lof H bm) X nx w false x v1) (xs : List AV) (vs : List Value) (hv : Reps (Lof H bm) X nx w false xs vs) {φ : Nat}
    {v : AV} {H' : Heap} {nx' : Ctr} (h : opK (.slc i.size lo hi_ mx) (x :: xs) H nx φ (fun v H nx => some (v, H, nx)) none = some (v, H', nx')) :
    OK P w0 O X bm H nx w (Instr.sliceAt t v1 (bounds lo hi_ mx vs).1 (bounds lo hi_ mx vs).2.1 (bounds lo hi_ mx vs).2.2) v H' nx' := by
  simp only [opK] at h
  have hrun0 : ∀ a len c l hh m, (Instr.sliceBounds true len c (bounds lo hi_ mx vs).1 (bounds lo hi_ mx vs).2.1 (bounds lo hi_ mx vs).2.2).run P w = .ok (l, hh, m) w →
      (Instr.sliceAt t (.slice a len c) (bounds lo hi_ mx vs).1 (bounds lo hi_ mx vs).2.1 (bounds lo hi_ mx vs).2.2).run P w = .ok (.slice (if m = l then a else a.map (·.add (l * i.size))) (hh - l) (m - l)) w := by
    intro a len c l hh m hb
    simp [Instr.sliceAt, Instr.slice, run_underlying ht, hb, run_sizeOf hi]
  split at h
  · cases h1
    obtain ⟨l, hh, m, hrun, h, h2, h3, h4, h5⟩ := cut_run (P := P) true 0 0 0 lo hi_ mx xs vs hv (Nat.le_refl _) (Nat.le_refl _) h
    have hrun := hrun0 none _ _ _ _ _ hrun
    split at h
    · rename_i hc
      obtain ⟨rfl, rfl, hm⟩ := hc
      simp at h; obtain ⟨rfl, rfl, rfl⟩ := h
      refine OK.same r hrun ?_
      rcases hm with rfl | rfl <;> simp <;> exact .nils
    · cases h
  · rename_i sz' es c0
    split at h
    · rename_i hsz0
      subst hsz0
      have key : ∀ A c, v1 = .slice A es.length c → es.length ≤ c → (∀ c', c0 = some c' → c = c') → (A = none → c = 0 ∧ es = [] ∧ c0 = none) → OK P w0 O X bm H nx w (Instr.sliceAt t v1 (bounds lo hi_ mx vs).1 (bounds lo hi_ mx vs).2.1 (bounds lo hi_ mx vs).2.2) v H' nx' := by
        intro A c hv1 hlc hcap hA
        obtain ⟨l, hh, m, hrun, h, h2, h3, h4, h5⟩ := cut_run (P := P) true es.length es.length c lo hi_ mx xs vs hv hlc (Nat.le_refl _) h
        have hrun := hrun0 A _ _ _ _ _ hrun
        simp only [Option.some.injEq, Prod.mk.injEq] at h; obtain ⟨rfl, rfl, rfl⟩ := h
        rw [hv1]
        refine OK.same r hrun ?_
        have hcap' : ∀ c', capOf es c0 m l = some c' → m.getD c - l = c' := by
          intro c' hc'
          unfold capOf at hc'
          split at hc'
          · cases hc'
          · simpa using hc'
          · have := hcap _ rfl; simp at hc' ⊢; omega
          · cases hc'
        have hlen : ((es.take hh).drop l).length = hh - l := by simp; omega
        by_cases hne : (es.take hh).drop l = []
        · rw [hne]
          have : hh - l = 0 := by rw [← hlen, hne]; rfl
          rw [this]
          refine .fz0 hcap' (fun hn => ?_)
          have hAn : A = none := by split at hn <;> simpa using hn
          obtain ⟨hc0, he0, hn0⟩ := hA hAn
          refine ⟨?_, by rw [he0, hn0]; rfl⟩
          cases m with
          | none => simp; omega
          | some q => have := h4 q rfl; simp; omega
        · rw [← hlen]
          have hlt : l < hh := by
            rcases Nat.lt_or_ge l hh with h6 | h6
            · exact h6
            · exact absurd (List.eq_nil_of_length_eq_zero (by rw [hlen]; omega)) hne
          rw [hv1] at h1
          cases h1 with
          | fz0 => simp at hne
          | fz vv hne0 hl hcap hsz hc hr ho1 ho =>
            have hml : m.getD c ≠ l := by
              cases m with
              | some q => have := h4 q rfl; simp; omega
              | none => simp; omega
            rw [if_neg hml]
            have hget : ∀ (q : Nat) y, ((es.take hh).drop l)[q]? = some y → es[l + q]? = some y := by
              intro q y hq
              have hq' : l + q < hh := by have := (List.getElem?_eq_some_iff.1 hq).1; rw [hlen] at this; omega
              rw [List.getElem?_drop, List.getElem?_take_of_lt hq'] at hq; exact hq
            refine .fz (fun q j => vv (l + q) j) hne ?_ hcap' (fun q y hq => hsz _ _ (hget q y hq)) (fun q y j z hq hj => ?_) (fun q y j z hq hj => hr _ _ _ _ (hget q y hq) hj) (fun q y j z hq hj => ho1 _ _ _ _ (hget q y hq) hj) ?_
            · rw [hlen]
              cases m with
              | some q => have := h4 q rfl; simp; omega
              | none => simp; omega
            · rw [add_add]
              have := hc _ _ _ _ (hget q y hq) hj
              rwa [Nat.add_mul, Nat.add_assoc] at this
            · rw [add_block]; exact ho
      cases h1 with
      | fz0 hcap hA => exact key _ _ rfl (Nat.zero_le _) hcap (fun e => ⟨(hA e).1, rfl, (hA e).2⟩)
      | fz vv hne hl hcap hsz hc hr ho1 ho => exact key _ _ rfl hl hcap (fun e => by cases e)
    · cases h
  · rename_i f d g sz' off len
    split at h
    · rename_i hc
      obtain ⟨rfl, rfl⟩ := hc
      cases h1 with
      | sl hg hl hh1 =>
        rename_i a c
        obtain ⟨l, hh, m, hrun, h, h2, h3, h4, h5⟩ := cut_run (P := P) true len len c lo hi_ false xs vs hv hl (Nat.le_refl _) h
        have hb := bounds_mx lo hi_ vs
        obtain rfl := h5 rfl
        have hrun := hrun0 (some a) _ _ _ _ _ hrun
        simp only [Option.some.injEq, Prod.mk.injEq] at h; obtain ⟨rfl, rfl, rfl⟩ := h
        refine OK.same r hrun ?_
        have hA : ∀ q, (if q = l then some a else Option.map (fun x => x.add (l * i.size)) (some a)) = some (if q = l then a else a.add (l * i.size)) := by intro q; split <;> rfl
        rw [hA]
        refine .sl hg (by simp; omega) (fun b hb => ?_)
        obtain ⟨k1, k2, vs1, E, k3, k4⟩ := hh1 b hb
        simp only [Option.getD_none]
        refine ⟨fun hc => ?_, by omega, vs1, E, k3, ?_⟩
        · rw [if_neg (by omega), k1 (by omega), add_mk, Nat.add_mul]
        · rw [← k4]; congr 1; omega
    · cases h
  · cases h
end
end Go.Ev
