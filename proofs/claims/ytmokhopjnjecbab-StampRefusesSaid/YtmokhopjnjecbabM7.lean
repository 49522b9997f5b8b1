/- THE LAW StampRefuses: what isn't a right stamp is refused by all: the row's function answers true and leaves memory as it was.
   The walks step through the compiled bodies; here the row's reading of the arguments is opened and the answer shut. -/
import Derived.Test.YtmokhopjnjecbabM6
import Derived.ProofKit
import Derived.OpenShut
import Derived.ShutString
import Derived.ChangeOld
import Derived.ChangeMaps5
import Derived.Below
import Derived.SizedLaws
namespace Go.Ev
open Go.ChangeShapes Go.WideShapes Go.RowKit
set_option linter.unusedVariables false
set_option linter.unusedSimpArgs false
/-- The types of cells. -/
inductive Sh where
  | int (k : IntKind) | bool | str | sl (e : TypeId)
def shFields (P : Program) (f : TypeId → Option (List Sh)) : Nat → List Field → Option (List Sh)
  | _, [] => some []
  | o, fd :: l => if fd.offset = o then (match f fd.type with
    | some a => if P.cellsOf fd.type = a.length then (match shFields P f (o + a.length) l with
      | some b => some (a ++ b)
      | none => none) else none
    | none => none) else none
def shapes (P : Program) : Nat → TypeId → Option (List Sh)
  | 0, _ => none
  | n + 1, t => match P.underlying t with
    | some (.int k) => some [.int k]
    | some .bool => some [.bool]
    | some .string => some [.str]
    | some (.slice e) => some [.sl e]
    | some (.struct fs) => (match shFields P (shapes P n) 0 fs.toList with
      | some ss => if P.cellsOf t = ss.length then some ss else none
      | none => none)
    | _ => none
/-- Structs are told as their cells. -/
def mkE (P : Program) (e : TypeId) (xs : List AV) : AV := match P.underlying e with
  | some (.struct _) => .agg xs
  | _ => xs.headD .any
inductive CellOk (P : Program) : Sh → AV → Prop
  | int {k n} (h : (Lit.int k n).wf = true) : CellOk P (.int k) (.int k n)
  | bool {b} : CellOk P .bool (.bool b)
  | str {s : ByteArray} (h : s.size ≤ maxLen) : CellOk P .str (.str s)
  | sl {e ss es} (hs : shapes P 9 e = some ss) (hlen : es.length ≤ maxLen) (hl : ∀ y ∈ es, (cells y).length = ss.length) (hf : ∀ y ∈ es, y = mkE P e (cells y))
      (h : ∀ y ∈ es, ∀ (j : Nat) s c, ss[j]? = some s → (cells y)[j]? = some c → CellOk P s c) : CellOk P (.sl e) (.fz ss.length es none)
/-- Cell by cell: typed, and standing for that value. -/
inductive All3 (P : Program) (w : World) : List Sh → List AV → List Value → Prop
  | nil : All3 P w [] [] []
  | cons {s c v ss xs vs} (hc : CellOk P s c) (hr : Rep none4 (fun _ => False) zeroC w true c v) (h1 : v.oneCell' = true) (t : All3 P w ss xs vs) : All3 P w (s :: ss) (c :: xs) (v :: vs)
section
variable {P : Program} {w : World}
theorem All3.append {ss xs vs ss' xs' vs'} (h : All3 P w ss xs vs) (h' : All3 P w ss' xs' vs') : All3 P w (ss ++ ss') (xs ++ xs') (vs ++ vs') := by
  induction h with
  | nil => exact h'
  | cons a b c t ih => exact .cons a b c ih
theorem All3.len {ss xs vs} (h : All3 P w ss xs vs) : xs.length = ss.length ∧ vs.length = ss.length := by
  induction h with
  | nil => exact ⟨rfl, rfl⟩
  | cons a b c t ih => simp only [List.length_cons]; omega
theorem All3.get {ss xs vs} (h : All3 P w ss xs vs) : ∀ (j : Nat) x, xs[j]? = some x → ∃ s v, ss[j]? = some s ∧ vs[j]? = some v ∧ CellOk P s x ∧ Rep none4 (fun _ => False) zeroC w true x v ∧ v.oneCell' = true := by
  induction h with
  | nil => intro j x hx; simp at hx
  | cons a b c t ih =>
    intro j x hx
    cases j with
    | zero => simp at hx; subst hx; exact ⟨_, _, rfl, rfl, a, b, c⟩
    | succ j => simp at hx; simpa using ih j x hx
theorem CellOk.one {s : Sh} {c : AV} (h : CellOk P s c) : cells c = [c] := by cases h <;> rfl
theorem shapes_scalar {n : Nat} {t : TypeId} {ss : List Sh} (h : shapes P (n + 1) t = some ss) (hn : ∀ fs, P.underlying t ≠ some (.struct fs)) : ss.length = 1 := by
  simp only [shapes] at h
  split at h
  · simp at h; subst h; rfl
  · simp at h; subst h; rfl
  · simp at h; subst h; rfl
  · simp at h; subst h; rfl
  · rename_i fs hf; exact absurd hf (hn fs)
  · cases h
theorem cells_mkE {e : TypeId} {ss : List Sh} (hs : shapes P 9 e = some ss) {xs : List AV} {vs : List Value} (h : All3 P w ss xs vs) : cells (mkE P e xs) = xs := by
  unfold mkE
  split
  · rfl
  · rename_i hn
    have h1 := shapes_scalar hs (fun fs hf => hn fs hf)
    have hl := h.len.1
    match xs, hl with
    | [c], _ =>
      obtain ⟨s, v, _, _, hc, _⟩ := h.get 0 c rfl
      exact hc.one
    | [], hl => simp at hl; omega
    | _ :: _ :: _, hl => simp at hl; omega
/-- The types of elements, all with shapes, closed. -/
def okEs (P : Program) (Es : List TypeId) : Bool := Es.all fun e => match shapes P 9 e with
  | some ss => P.cellsOf e == ss.length && (ss.length != 0 && ss.all (fun s => match s with | .sl e' => Es.contains e' | _ => true))
  | none => false
def inEs (Es : List TypeId) (ss : List Sh) : Prop := ∀ e, Sh.sl e ∈ ss → e ∈ Es
theorem okEs_get {Es : List TypeId} (h : okEs P Es = true) {e : TypeId} (he : e ∈ Es) : ∃ ss, shapes P 9 e = some ss ∧ P.cellsOf e = ss.length ∧ 0 < ss.length ∧ inEs Es ss := by
  have := List.all_eq_true.1 h e he
  split at this
  · rename_i ss hs
    simp only [Bool.and_eq_true, beq_iff_eq, bne_iff_ne, ne_eq, List.all_eq_true] at this
    refine ⟨ss, hs, this.1, by omega, fun e' he' => ?_⟩
    simpa using this.2.2 _ he'
  · cases this
theorem fields_cells {H : Type} {enc : TypeId × Value → H} {base : Nat} {held : Bool} {Es : List TypeId} {n m : Nat} {cs : List Value}
    (ih : ∀ (t : TypeId) (ss : List Sh) (cs : List Value) (x : DataW H × List MemPlace), shapes P n t = some ss → inEs Es ss → DataW.trod enc P w base (fun _ => true) held m t cs = some x → ∃ xs, All3 P w ss xs cs) :
    ∀ (l : List Field) (o : Nat) (ss : List Sh), shFields P (shapes P n) o l = some ss → inEs Es ss → o + ss.length ≤ cs.length →
      (∀ f ∈ l, ∃ x, DataW.trod enc P w base (fun _ => true) held m f.type ((cs.drop f.offset).take (P.cellsOf f.type)) = some x) → ∃ xs, All3 P w ss xs ((cs.drop o).take ss.length)
  | [], o, ss, h, _, _, _ => by simp [shFields] at h; subst h; exact ⟨[], by simpa using All3.nil⟩
  | f :: l, o, ss, h, hE, hlen, hf => by
    simp only [shFields] at h
    split at h
    case isFalse => cases h
    rename_i ho
    split at h
    case h_2 => cases h
    rename_i a ha
    split at h
    case isFalse => cases h
    rename_i hc
    split at h
    case h_2 => cases h
    rename_i b hb
    simp only [Option.some.injEq] at h
    subst h
    rw [List.length_append] at hlen ⊢
    obtain ⟨x, hx⟩ := hf f List.mem_cons_self
    rw [ho, hc] at hx
    obtain ⟨ys, hys⟩ := ih _ _ _ _ ha (fun e he => hE e (List.mem_append_left _ he)) hx
    obtain ⟨zs, hzs⟩ := fields_cells ih l (o + a.length) b hb (fun e he => hE e (List.mem_append_right _ he)) (by omega) (fun g hg => hf g (List.mem_cons_of_mem _ hg))
    refine ⟨ys ++ zs, ?_⟩
    have := hys.append hzs
    rwa [← List.drop_drop, ← List.take_add] at this
theorem rep_cells {H : Type} {enc : TypeId × Value → H} {base : Nat} {held : Bool} {Es : List TypeId} (hEs : okEs P Es = true) :
    ∀ (fuel n : Nat) (t : TypeId) (ss : List Sh) (cs : List Value) (x : DataW H × List MemPlace), shapes P n t = some ss → inEs Es ss → DataW.trod enc P w base (fun _ => true) held fuel t cs = some x → ∃ xs, All3 P w ss xs cs := by
  intro fuel
  induction fuel using Nat.strongRecOn with
  | ind fuel ih =>
    intro n t ss cs x hs hE h
    cases n with
    | zero => simp [shapes] at hs
    | succ n =>
      simp only [shapes] at hs
      split at hs
      · rename_i k hu
        simp only [Option.some.injEq] at hs; subst hs
        obtain ⟨z, rfl, _, hw⟩ := DataW.trod_int hu h
        exact ⟨[.int k z], .cons (.int hw) .int rfl .nil⟩
      · rename_i hu
        simp only [Option.some.injEq] at hs; subst hs
        obtain ⟨b, rfl, _⟩ := DataW.trod_bool hu h
        exact ⟨[.bool b], .cons .bool .bool rfl .nil⟩
      · rename_i hu
        simp only [Option.some.injEq] at hs; subst hs
        obtain ⟨b, rfl, _, hb⟩ := DataW.trod_string hu h
        exact ⟨[.str b], .cons (.str hb) .str rfl .nil⟩
      · rename_i e hu
        simp only [Option.some.injEq] at hs; subst hs
        obtain ⟨se, hse, hce, hpos, hEe⟩ := okEs_get hEs (hE e List.mem_cons_self)
        rcases DataW.trod_slice hu h with ⟨hcs, _⟩ | ⟨a', len, cap, elems, rest, m, hm, hcs, _, hbb, hl, hmx, hle, hel, _, _⟩
        · subst hcs
          exact ⟨[.fz se.length [] none], .cons (.sl hse (by simp) (by simp) (by simp) (by simp)) (.fz0 (by simp) (fun _ => ⟨rfl, rfl⟩)) rfl .nil⟩
        · subst hcs
          have each : ∀ i, i < len → ∃ q : List AV × List Value, All3 P w se q.1 q.2 ∧ ∀ (j : Nat) v, q.2[j]? = some v → w.cell? (a'.add (i * se.length + j)) = some v := by
            intro i hi
            have h1 := hel i hi
            rw [List.getElem?_eq_getElem (by omega), hce, Option.bind_eq_some_iff] at h1
            obtain ⟨cs', h3, h4⟩ := h1
            obtain ⟨xs, hx⟩ := ih m (by omega) 9 e se cs' _ hse hEe h4
            refine ⟨(xs, cs'), hx, fun j v hv => ?_⟩
            have hc := (World.cells?_some h3).2.2
            have hv' : cs'[j]? = some v := hv
            have hj : j < se.length := by have := (List.getElem?_eq_some_iff.1 hv').1; have := hx.len.2; omega
            have g := hc j hj
            rw [Ev.add_add] at g
            rw [g]; exact hv
          obtain ⟨f, hf⟩ : ∃ f : Nat → List AV × List Value, ∀ i, i < len → All3 P w se (f i).1 (f i).2 ∧ ∀ (j : Nat) v, (f i).2[j]? = some v → w.cell? (a'.add (i * se.length + j)) = some v :=
            ⟨fun i => if hi : i < len then Classical.choose (each i hi) else ([], []), fun i hi => by
              simp only [dif_pos hi]
              exact Classical.choose_spec (each i hi)⟩
          have hcE : ∀ i, i < len → cells (mkE P e (f i).1) = (f i).1 := fun i hi => cells_mkE hse (hf i hi).1
          obtain ⟨es, hes⟩ : ∃ es, es = (List.range len).map fun i => mkE P e (f i).1 := ⟨_, rfl⟩
          have hlen2 : es.length = len := by rw [hes]; simp
          have hget : ∀ (i : Nat) y, es[i]? = some y → i < len ∧ y = mkE P e (f i).1 := by
            intro i y hy
            have hi : i < len := by have := (List.getElem?_eq_some_iff.1 hy).1; omega
            rw [hes, List.getElem?_map, List.getElem?_range hi] at hy
            simp only [Option.map_some, Option.some.injEq] at hy
            exact ⟨hi, hy.symm⟩
          have hmem : ∀ y ∈ es, ∃ i, i < len ∧ y = mkE P e (f i).1 := by
            intro y hy
            obtain ⟨i, hi⟩ := List.mem_iff_getElem?.1 hy
            exact ⟨i, hget i y hi⟩
          refine ⟨[.fz se.length es none], .cons (.sl hse (by omega) (fun y hy => ?_) (fun y hy => ?_) (fun y hy j s c h1 h2 => ?_)) ?_ rfl .nil⟩
          · obtain ⟨i, hi, rfl⟩ := hmem y hy
            rw [hcE i hi]; exact (hf i hi).1.len.1
          · obtain ⟨i, hi, rfl⟩ := hmem y hy
            rw [hcE i hi]
          · obtain ⟨i, hi, rfl⟩ := hmem y hy
            rw [hcE i hi] at h2
            obtain ⟨s', v, h3, _, h4, _⟩ := (hf i hi).1.get j c h2
            rw [h1] at h3; cases h3
            exact h4
          · by_cases h0 : len = 0
            · subst h0
              have : es = [] := List.eq_nil_of_length_eq_zero hlen2
              subst this
              exact .fz0 (by simp) (fun e => by cases e)
            · have hsl : (Value.slice (some a') len cap) = .slice (some a') es.length cap := by rw [hlen2]
              rw [hsl]
              have one : ∀ (i : Nat) y (j : Nat) z, es[i]? = some y → (cells y)[j]? = some z → ∃ v, (f i).2[j]? = some v ∧ w.cell? (a'.add (i * se.length + j)) = some v ∧ Rep none4 (fun _ => False) zeroC w true z v ∧ v.oneCell' = true := by
                intro i y j z hy hj
                obtain ⟨hi, rfl⟩ := hget i y hy
                rw [hcE i hi] at hj
                obtain ⟨s', v, _, h3, _, h5, h6⟩ := (hf i hi).1.get j z hj
                exact ⟨v, h3, (hf i hi).2 j v h3, h5, h6⟩
              refine .fz (fun i j => ((f i).2[j]?).getD undef) (fun e => by rw [e] at hlen2; simp at hlen2; omega) (by omega) (by simp) (fun i y hy => ?_) (fun i y j z hy hj => ?_) (fun i y j z hy hj => ?_) (fun i y j z hy hj => ?_) ⟨fun _ _ _ h => h, fun h => h, ?_⟩
              · obtain ⟨hi, rfl⟩ := hget i y hy
                rw [hcE i hi]; exact (hf i hi).1.len.1
              · obtain ⟨v, h1, h2, _⟩ := one i y j z hy hj
                rw [h1]; exact h2
              · obtain ⟨v, h1, _, h2, _⟩ := one i y j z hy hj
                rw [h1]; exact h2
              · obtain ⟨v, h1, _, _, h2⟩ := one i y j z hy hj
                rw [h1]; exact h2
              · have hl2 := (hf 0 (by omega)).1.len.2
                have := World.block_lt_of_cell? w _ ((hf 0 (by omega)).2 0 _ (List.getElem?_eq_getElem (by omega)))
                rwa [Ev.add_block] at this
      · rename_i fs hu
        split at hs
        case h_2 => cases hs
        rename_i ss' hsf
        split at hs
        case isFalse => cases hs
        rename_i hct
        simp only [Option.some.injEq] at hs; subst hs
        obtain ⟨xs, m, hm, rfl, hl, hlen, hf⟩ := DataW.trod_struct hu h
        have hl' : cs.length = ss'.length := by omega
        obtain ⟨ys, hys⟩ := fields_cells (Es := Es) (n := n) (m := m) (cs := cs) (fun t ss cs x h1 h2 h3 => ih m (by omega) n t ss cs x h1 h2 h3) fs.toList 0 ss' hsf hE (by omega) (fun f hmemf => by
          obtain ⟨i, hi⟩ := List.mem_iff_getElem?.1 hmemf
          have hi' : fs[i]? = some f := by simpa using hi
          have h1 := hf i f hi'
          have hlt : i < xs.length := by have := (List.getElem?_eq_some_iff.1 hi).1; simp at this; omega
          rw [List.getElem?_eq_getElem hlt] at h1
          exact ⟨_, h1⟩)
        refine ⟨ys, ?_⟩
        rw [List.drop_zero, List.take_of_length_le (by omega)] at hys
        exact hys
      · cases hs
/-- An argument of a struct type. -/
theorem rep_struct {H : Type} {enc : TypeId × Value → H} {base : Nat} {held : Bool} (Es : List TypeId) {t : TypeId} {ss : List Sh} {vs : Array Value} {d : DataW H} {ps : List MemPlace}
    (hEs : okEs P Es = true) (hs : shapes P 9 t = some ss) (hE : inEs Es ss) (h : DataW.Trod enc P w base (fun _ => true) held t (.agg vs) d ps) :
    ∃ xs, xs.length = ss.length ∧ (∀ (j : Nat) s x, ss[j]? = some s → xs[j]? = some x → CellOk P s x) ∧ Rep none4 (fun _ => False) zeroC w true (.agg xs) (.agg vs) := by
  obtain ⟨fuel, hf⟩ := h
  obtain ⟨xs, hx⟩ := rep_cells hEs fuel 9 t ss _ _ hs hE hf
  have hcs : (Value.agg vs).cells.toList = vs.toList := rfl
  rw [hcs] at hx
  have hl := hx.len
  refine ⟨xs, hl.1, fun j s x h1 h2 => ?_, .agg (by rw [← Array.length_toList]; omega) (fun j x hj => ?_)⟩
  · obtain ⟨s', v, h3, _, h4, _⟩ := hx.get j x h2
    rw [h1] at h3; cases h3
    exact h4
  · obtain ⟨s', v, _, h3, _, h4, _⟩ := hx.get j x hj
    have : vs.getD j undef = v := by
      rw [Array.getElem?_toList] at h3
      rw [Array.getD_eq_getD_getElem?, h3]; rfl
    rw [this]; exact h4
/-- An argument of a slice's type. -/
theorem rep_slice {H : Type} {enc : TypeId × Value → H} {base : Nat} {held : Bool} (Es : List TypeId) {t e : TypeId} {a : Option Addr} {len cap : Nat} {d : DataW H} {ps : List MemPlace}
    (hEs : okEs P Es = true) (hs : P.underlying t = some (.slice e)) (hE : e ∈ Es) (h : DataW.Trod enc P w base (fun _ => true) held t (.slice a len cap) d ps) :
    ∃ x, CellOk P (.sl e) x ∧ Rep none4 (fun _ => False) zeroC w true x (.slice a len cap) := by
  obtain ⟨fuel, hf⟩ := h
  have hsh : shapes P 9 t = some [.sl e] := by simp only [shapes, hs]
  obtain ⟨xs, hx⟩ := rep_cells hEs fuel 9 t _ _ _ hsh (fun e' he' => by simp at he'; subst he'; exact hE) hf
  have hcs : (Value.slice a len cap).cells.toList = [.slice a len cap] := rfl
  rw [hcs] at hx
  have hl := hx.len
  match xs, hl with
  | [x], _ =>
    obtain ⟨s', v, h1, h3, h2, h4, _⟩ := hx.get 0 x rfl
    simp at h1 h3; subst h1 h3
    exact ⟨x, h2, h4⟩
  | [], hl => simp at hl
  | _ :: _ :: _, hl => simp at hl
end
end Go.Ev
/- Cells of known types, told as plain things: events, rows of bytes. -/
namespace Go.Ev
set_option linter.unusedVariables false
theorem CellOk.int_inv {P : Program} {k : IntKind} {x : AV} (h : CellOk P (.int k) x) : ∃ n, x = .int k n ∧ (Lit.int k n).wf = true := by
  cases h with | int h => exact ⟨_, rfl, h⟩
theorem CellOk.bool_inv {P : Program} {x : AV} (h : CellOk P .bool x) : ∃ b, x = .bool b := by
  cases h; exact ⟨_, rfl⟩
theorem CellOk.str_inv {P : Program} {x : AV} (h : CellOk P .str x) : ∃ s, x = .str s ∧ s.size ≤ maxLen := by
  cases h with | str h => exact ⟨_, rfl, h⟩
/-- Each element of a row of structs, by its cells. -/
theorem CellOk.sl_inv {P : Program} {e : TypeId} {ss : List Sh} {x : AV} (h : CellOk P (.sl e) x) (hs : shapes P 9 e = some ss) : ∃ es : List AV, x = .fz ss.length es none ∧ es.length ≤ maxLen ∧ ∀ y ∈ es, y = mkE P e (cells y) ∧ (cells y).length = ss.length ∧ ∀ (j : Nat) s c, ss[j]? = some s → (cells y)[j]? = some c → CellOk P s c := by
  cases h with
  | @sl _ ss' es hs' hlen hl hf h =>
    rw [hs] at hs'; cases hs'
    exact ⟨es, rfl, hlen, fun y hy => ⟨hf y hy, hl y hy, h y hy⟩⟩
theorem mkE_struct {P : Program} {e : TypeId} {fs : Array Field} (hu : P.underlying e = some (.struct fs)) (xs : List AV) : mkE P e xs = .agg xs := by simp [mkE, hu]
/-- A row whose elements are each told so. -/
theorem list_of {α : Type} (f : α → AV) : ∀ (es : List AV), (∀ y ∈ es, ∃ a, y = f a) → ∃ l : List α, es = l.map f
  | [], _ => ⟨[], rfl⟩
  | y :: es, h => by
    obtain ⟨a, rfl⟩ := h y List.mem_cons_self
    obtain ⟨l, rfl⟩ := list_of f es (fun z hz => h z (List.mem_cons_of_mem _ hz))
    exact ⟨a :: l, rfl⟩
theorem xtavs_map : ∀ ps : List ET, xtavs ps = ps.map xtv
  | [] => by simp [xtavs]
  | p :: ps => by simp only [xtavs, xtav_tv, List.map_cons, xtavs_map ps]
theorem dec_ets {P : Program} {tE : TypeId} {fs : Array Field} (hu : P.underlying tE = some (.struct fs)) (hs : shapes P 9 tE = some [.int .i64, .sl tE]) : ∀ {s : Sh} {x : AV}, CellOk P s x → s = .sl tE → ∃ ps : List ET, x = .fz 2 (xtavs ps) none := by
  intro s x h
  induction h with
  | int => intro e; cases e
  | bool => intro e; cases e
  | str => intro e; cases e
  | @sl e ss es hs' hlen hl hf h ih =>
    intro e0
    cases e0
    rw [hs] at hs'; cases hs'
    obtain ⟨l, hl2⟩ := list_of xtv es (fun y hy => by
      have h1 := hl y hy
      have h2 := hf y hy
      rw [mkE_struct hu] at h2
      match hc : cells y, h1 with
      | [c0, c1], _ =>
        obtain ⟨n, rfl, _⟩ := (h y hy 0 _ c0 rfl (by rw [hc]; rfl)).int_inv
        obtain ⟨ps, rfl⟩ := ih y hy 1 _ c1 rfl (by rw [hc]; rfl) rfl
        rw [hc] at h2
        exact ⟨.mk n ps, h2⟩
      | [], h1 => simp at h1
      | [_], h1 => simp at h1
      | _ :: _ :: _ :: _, h1 => simp at h1)
    exact ⟨l, by rw [xtavs_map, ← hl2]; rfl⟩
theorem dec_ecells {P : Program} {tE : TypeId} {fs : Array Field} (hu : P.underlying tE = some (.struct fs)) (hs : shapes P 9 tE = some [.int .i64, .sl tE]) {xs : List AV} (hl : xs.length = 2)
    (h : ∀ (j : Nat) s x, ([.int .i64, .sl tE] : List Sh)[j]? = some s → xs[j]? = some x → CellOk P s x) : ∃ e : ET, xs = [.int .i64 e.n, .fz 2 (xtavs e.ps) none] := by
  match xs, hl with
  | [x0, x1], _ =>
    obtain ⟨n0, rfl, _⟩ := (h 0 _ x0 rfl rfl).int_inv
    obtain ⟨ps, rfl⟩ := dec_ets hu hs (h 1 _ x1 rfl rfl) rfl
    exact ⟨.mk n0 ps, rfl⟩
theorem dec_bytes {P : Program} {tB : TypeId} (hu : P.underlying tB = some (.int .u8)) {x : AV} (h : CellOk P (.sl tB) x) : ∃ bs : List Nat, x = .fz 1 (avs bs) none ∧ ∀ b ∈ bs, b < 256 := by
  have hs : shapes P 9 tB = some [.int .u8] := by simp only [shapes, hu]
  obtain ⟨es, rfl, _, he⟩ := h.sl_inv hs
  have key : ∀ y ∈ es, ∃ b : Nat, y = .int .u8 (b : Nat) ∧ b < 256 := by
    intro y hy
    obtain ⟨h1, h2, h3⟩ := he y hy
    match hc : cells y, h2 with
    | [c0], _ =>
      obtain ⟨n, rfl, hw⟩ := (h3 0 _ c0 rfl (by rw [hc]; rfl)).int_inv
      rw [hc] at h1
      simp [Lit.wf, IntKind.min, IntKind.max, IntKind.signed, IntKind.bits] at hw
      refine ⟨n.toNat, ?_, by omega⟩
      rw [h1]; simp only [mkE, hu, List.headD]; congr 1; omega
    | [], h2 => simp at h2
    | _ :: _ :: _, h2 => simp at h2
  obtain ⟨l, rfl⟩ := list_of (fun b : {b : Nat // b < 256} => AV.int .u8 ((b.1 : Nat) : Int)) es (fun y hy => by
    obtain ⟨b, h1, h2⟩ := key y hy
    exact ⟨⟨b, h2⟩, h1⟩)
  refine ⟨l.map (·.1), by simp [avs], ?_⟩
  intro b hb
  obtain ⟨a, _, rfl⟩ := List.mem_map.1 hb
  exact a.2
end Go.Ev
/- A stamp's cells, told as a plain thing. -/
namespace Go.Ev
set_option linter.unusedVariables false
theorem tavs_map : ∀ ps : List Tree, tavs ps = ps.map tv
  | [] => by simp [tavs]
  | p :: ps => by simp only [tavs, tav_tv, List.map_cons, tavs_map ps]
theorem dec_trs {P : Program} {tE : TypeId} {fs : Array Field} (hu : P.underlying tE = some (.struct fs)) (hs : shapes P 9 tE = some [.bool, .sl tE]) : ∀ {s : Sh} {x : AV}, CellOk P s x → s = .sl tE → ∃ ps : List Tree, x = .fz 2 (tavs ps) none := by
  intro s x h
  induction h with
  | int => intro e; cases e
  | bool => intro e; cases e
  | str => intro e; cases e
  | @sl e ss es hs' hlen hl hf h ih =>
    intro e0
    cases e0
    rw [hs] at hs'; cases hs'
    obtain ⟨l, hl2⟩ := list_of tv es (fun y hy => by
      have h1 := hl y hy
      have h2 := hf y hy
      rw [mkE_struct hu] at h2
      match hc : cells y, h1 with
      | [c0, c1], _ =>
        obtain ⟨n, rfl⟩ := (h y hy 0 _ c0 rfl (by rw [hc]; rfl)).bool_inv
        obtain ⟨ps, rfl⟩ := ih y hy 1 _ c1 rfl (by rw [hc]; rfl) rfl
        rw [hc] at h2
        exact ⟨.mk n ps, h2⟩
      | [], h1 => simp at h1
      | [_], h1 => simp at h1
      | _ :: _ :: _ :: _, h1 => simp at h1)
    exact ⟨l, by rw [tavs_map, ← hl2]; rfl⟩
theorem dec_scells {P : Program} {tI tE : TypeId} {fi fs : Array Field} (hui : P.underlying tI = some (.struct fi)) (hsi : shapes P 9 tI = some [.bool, .sl tI]) (hu : P.underlying tE = some (.struct fs)) (hs : shapes P 9 tE = some [.int .i64, .sl tE]) {xs : List AV} (hl : xs.length = 4)
    (h : ∀ (j : Nat) s x, ([.bool, .sl tI, .int .i64, .sl tE] : List Sh)[j]? = some s → xs[j]? = some x → CellOk P s x) : ∃ z : Tree × ET, xs = [.bool z.1.one, .fz 2 (tavs z.1.ps) none, .int .i64 z.2.n, .fz 2 (xtavs z.2.ps) none] := by
  match xs, hl with
  | [x0, x1, x2, x3], _ =>
    obtain ⟨b, rfl⟩ := (h 0 _ x0 rfl rfl).bool_inv
    obtain ⟨ps, rfl⟩ := dec_trs hui hsi (h 1 _ x1 rfl rfl) rfl
    obtain ⟨n, rfl, _⟩ := (h 2 _ x2 rfl rfl).int_inv
    obtain ⟨qs, rfl⟩ := dec_ets hu hs (h 3 _ x3 rfl rfl) rfl
    exact ⟨(.mk b ps, .mk n qs), rfl⟩
end Go.Ev
/- THE LAW StampRefuses: what isn't a right stamp is refused by all: the row's function answers true and leaves memory as it was.
   The walks step through the compiled bodies; here the row's reading of the arguments is opened and the answer shut. -/
namespace Go.Proofs.Ytmokhopjnjecbab.stampRefuses
open Go.ChangeShapes Go.WideShapes Go.ChangeAt Go.RowKit
open Go.Ev (PCalls Rep Reps none4 avs)
set_option linter.unusedVariables false
set_option maxRecDepth 100000
theorem own : ownKnob Try.prog.godebug = none := by kernel_rfl
theorem laidOut : laidOutB Try.prog = true := by kernel_rfl
theorem lifted (os : Os) (started : os.Started) (H : Type) (enc : TypeId × Value → H) :
    ReturnsInHanded {} Try.checked os 12 .any (Rows.stampRefusesSpec.pre6 enc Try.prog Try.f12 Rows.stampRefusesRow.domain false) (Rows.stampRefusesSpec.post enc Try.prog Try.f12 false true false false) := by
  refine returnsInHanded_of_change_sized (C := Try.checked) own started (by kernel_rfl) Try.func12
    (ChangeSpec.witness6 (enc := enc) (C := Try.checked) false ⟨#[], #[.agg #[.bool false, .slice none 0 0, .int .i64 0, .slice none 0 0], .agg #[.int .i64 0, .slice none 0 0]], []⟩ 8 (by kernel_rfl) (by kernel_rfl) (by kernel_rfl) (by kernel_rfl)) ?_
  intro W base args ds gs before hval0 hW hcnd hsz0 _
  have hval : ∀ (j : Nat) t v, Try.f12.params[j]? = some t → args[j]? = some v → Value.okWide Try.prog W .any base t v := hval0
  have hW' := hW
  obtain ⟨p, q, hA0, hV, rfl, hfz, hnd⟩ := hW
  have hA : DataW.TrodAll enc Try.prog W 0 (fun _ => true) true Try.f12.params.toList args.toList ds p := hA0
  rw [Try.params12] at hA hval
  obtain ⟨v0, vs0, d0, ds0, p0, q0, hargs, rfl, rfl, h0, r0⟩ := trodAll_cons hA
  obtain ⟨v1, vs1, d1, ds1, p1, q1, rfl, rfl, rfl, h1, r1⟩ := trodAll_cons r0
  obtain ⟨rfl, rfl, rfl⟩ := trodAll_nil r1
  obtain rfl : args = #[v0, v1] := by cases args; simp_all
  obtain ⟨rfl, rfl⟩ := trodVars_none hV
  have k0 := h0
  have lt0 : ∀ x ∈ p0, x.block < W.heap.size := by obtain ⟨m, hm⟩ := k0; exact DataW.trod_lt m _ _ _ hm
  obtain ⟨a0, rfl, _⟩ := okWide_struct Try.underlying96 (hval 0 96 v0 rfl rfl)
  obtain ⟨xs0, hxl0, hxc0, hrep0⟩ := Go.Ev.rep_struct [24,42] (by kernel_rfl) (show Go.Ev.shapes Try.prog 9 96 = some [.bool, .sl 24, .int .i64, .sl 42] by kernel_rfl) (by intro e he; simp at he ⊢; first | omega | exact he | (rcases he with rfl | rfl <;> simp)) h0
  obtain ⟨z0, hz0⟩ := Go.Ev.dec_scells Try.underlying24 (by kernel_rfl) Try.underlying42 (by kernel_rfl) hxl0 hxc0
  rw [hz0] at hrep0
  have k1 := h1
  have lt1 : ∀ x ∈ p1, x.block < W.heap.size := by obtain ⟨m, hm⟩ := k1; exact DataW.trod_lt m _ _ _ hm
  obtain ⟨a1, rfl, _⟩ := okWide_struct Try.underlying42 (hval 1 42 v1 rfl rfl)
  obtain ⟨xs1, hxl1, hxc1, hrep1⟩ := Go.Ev.rep_struct [42] (by kernel_rfl) (show Go.Ev.shapes Try.prog 9 42 = some [.int .i64, .sl 42] by kernel_rfl) (by intro e he; simp at he ⊢; first | omega | exact he | (rcases he with rfl | rfl <;> simp)) h1
  obtain ⟨z1, hz1⟩ := Go.Ev.dec_ecells Try.underlying42 (by kernel_rfl) hxl1 hxc1
  rw [hz1] at hrep1
  refine ((refuses_pair z0 z1).calls (fun _ => False) W [.agg a0, .agg a1] (fun _ h => h.elim) (.cons hrep0 (.cons hrep1 .nil))).mono fun e W' he => ?_
  obtain ⟨v, rfl, bel, hv⟩ := he
  cases hv
  exact ⟨_, rfl, _, _, _, [], _, [], hW', trodAll_mk1 (shut_bool Try.underlying4 _), (trodAll_cons_mk (Below.trod laidOut (by kernel_rfl) (of_decide_eq_true (by kernel_rfl)) k0 bel lt0) (trodAll_cons_mk (Below.trod laidOut (by kernel_rfl) (of_decide_eq_true (by kernel_rfl)) k1 bel lt1) trodAll_mk0)), rfl, bel.frame _, fun h => by cases h⟩
theorem over : Rows.stampRefusesRow.holds Try.pinned (OpenSpec.ofChange Rows.stampRefusesSpec) :=
  OpenClaim.holds_of_wide 12 Try.f12 rfl rfl rfl rfl rfl rfl rfl ⟨rfl, rfl, rfl, rfl, rfl⟩ rfl rfl rfl rfl rfl (by kernel_rfl) Try.func12 (by kernel_rfl)
    (of_decide_eq_true (by kernel_rfl)) (by unfold Func.isWrapper; first | (rw [if_pos (by decide +kernel)]; kernel_rfl) | (rw [if_neg (by decide +kernel)]; exact ⟨rfl, rfl⟩))
    (fun os started H enc _ => lifted os started H enc)
theorem proved : Rows.StampRefusesSaid := over
#print axioms proved
end Go.Proofs.Ytmokhopjnjecbab.stampRefuses
namespace Go.Proofs.Ytmokhopjnjecbab
/-- The row, under a short name, for the claim. -/
theorem stampRefuses_holds : Rows.StampRefusesSaid := stampRefuses.proved
end Go.Proofs.Ytmokhopjnjecbab
