/- Trees of identities out of a row's reading of the arguments. -/
import Derived.Test.YtmokhopjnjecbabPTree
import Derived.Test.YtmokhopjnjecbabSized
namespace Go.Proofs.Ytmokhopjnjecbab.Sized
open Go.ChangeShapes Go.WideShapes Go.RowKit
open Go.Ev (PCalls Rep Reps none4 zeroC Tree tv tavs tavs_get tavs_len)
set_option linter.unusedVariables false
set_option linter.unusedSimpArgs false
theorem add_add (a : Addr) (x y : Nat) : (a.add x).add y = a.add (x + y) := by by_cases hx : x = 0 <;> by_cases hy : y = 0 <;> simp [Addr.add, hx, hy, Nat.add_assoc]
theorem rep_tree {H : Type} {enc : TypeId × Value → H} {P : Program} {w : World} {base : Nat} {held : Bool} {tI : TypeId} {f0 f1 : Field}
    (hI : P.underlying tI = some (.struct #[f0, f1])) (hb : P.underlying f0.type = some .bool) (hs : P.underlying f1.type = some (.slice tI)) (h2 : P.cellsOf tI = 2) (c0 : P.cellsOf f0.type = 1) (c1 : P.cellsOf f1.type = 1) (o0 : f0.offset = 0) (o1 : f1.offset = 1) :
    ∀ (fuel : Nat) (cs : List Value) (x : DataW H × List MemPlace), DataW.trod enc P w base (fun _ => true) held fuel tI cs = some x →
    ∃ (t : Tree) (v : Value), cs = [.bool t.one, v] ∧ Rep none4 (fun _ => False) zeroC w true (.fz 2 (tavs t.ps) none) v ∧ v.oneCell' = true := by
  intro fuel
  induction fuel using Nat.strongRecOn with
  | ind fuel ih =>
    intro cs x h
    obtain ⟨xs, n, hn, rfl, hl, hlen, hf⟩ := DataW.trod_struct hI h
    have hf0 := hf 0 f0 rfl
    have hf1 := hf 1 f1 rfl
    rw [h2] at hl
    obtain ⟨u, v, rfl⟩ : ∃ u v, cs = [u, v] := by
      match cs, hl with
      | [u, v], _ => exact ⟨u, v, rfl⟩
    obtain ⟨y0, y1, rfl⟩ : ∃ y0 y1, xs = [y0, y1] := by
      match xs, hlen with
      | [y0, y1], _ => exact ⟨y0, y1, rfl⟩
    · · rw [o0, c0] at hf0
        rw [o1, c1] at hf1
        simp only [List.drop_zero, List.take_succ_cons, List.take_zero, List.drop_succ_cons, List.getElem?_cons_zero, List.getElem?_cons_succ] at hf0 hf1
        obtain ⟨b, hu, _⟩ := DataW.trod_bool hb hf0
        simp only [List.cons.injEq, and_true] at hu
        subst hu
        rcases DataW.trod_slice hs hf1 with ⟨hcs, _⟩ | ⟨a', len, cap, elems, rest, m, hm, hcs, _, hbb, hl, hmx, hle, hel, _, _⟩
        · simp only [List.cons.injEq, and_true] at hcs
          subst hcs
          exact ⟨.mk b [], _, rfl, .fz0 (by simp) (fun _ => ⟨rfl, rfl⟩), rfl⟩
        · simp only [List.cons.injEq, and_true] at hcs
          subst hcs
          have each : ∀ i, i < len → ∃ q : Tree × Value, w.cell? (a'.add (i * 2)) = some (.bool q.1.one) ∧ w.cell? (a'.add (i * 2 + 1)) = some q.2 ∧ Rep none4 (fun _ => False) zeroC w true (.fz 2 (tavs q.1.ps) none) q.2 ∧ q.2.oneCell' = true := by
            intro i hi
            have h1 := hel i hi
            rw [List.getElem?_eq_getElem (by omega), h2, Option.bind_eq_some_iff] at h1
            obtain ⟨cs', h3, h4⟩ := h1
            obtain ⟨t, v, rfl, hr, ho⟩ := ih m (by omega) cs' _ h4
            have hc := (World.cells?_some h3).2.2
            have g0 := hc 0 (by omega)
            have g1 := hc 1 (by omega)
            rw [add_add] at g0 g1
            exact ⟨(t, v), g0, g1, hr, ho⟩
          obtain ⟨f, hf⟩ : ∃ f : Nat → Tree × Value, ∀ i, i < len → w.cell? (a'.add (i * 2)) = some (.bool (f i).1.one) ∧ w.cell? (a'.add (i * 2 + 1)) = some (f i).2 ∧ Rep none4 (fun _ => False) zeroC w true (.fz 2 (tavs (f i).1.ps) none) (f i).2 ∧ (f i).2.oneCell' = true :=
            ⟨fun i => if hi : i < len then Classical.choose (each i hi) else (.mk false [], undef), fun i hi => by
              simp only [dif_pos hi]
              exact Classical.choose_spec (each i hi)⟩
          refine ⟨.mk b ((List.range len).map fun i => (f i).1), _, rfl, ?_, rfl⟩
          show Rep _ _ _ _ _ (.fz 2 (tavs ((List.range len).map fun i => (f i).1)) none) _
          by_cases h0 : len = 0
          · subst h0
            simp only [List.range_zero, List.map_nil, tavs]
            exact .fz0 (by simp) (fun e => by cases e)
          · have hlen2 : (tavs ((List.range len).map fun i => (f i).1)).length = len := by rw [tavs_len]; simp
            have hget : ∀ (i : Nat) y, (tavs ((List.range len).map fun i => (f i).1))[i]? = some y → i < len ∧ y = tv (f i).1 := by
              intro i y hy
              have hi : i < len := by have := (List.getElem?_eq_some_iff.1 hy).1; omega
              rw [tavs_get, List.getElem?_map, List.getElem?_range hi] at hy
              simp only [Option.map_some, Option.some.injEq] at hy
              exact ⟨hi, hy.symm⟩
            have hsl : (Value.slice (some a') len cap) = .slice (some a') (tavs ((List.range len).map fun i => (f i).1)).length cap := by rw [hlen2]
            rw [hsl]
            refine .fz (fun i j => if j = 0 then .bool (f i).1.one else (f i).2) (fun e => by have := congrArg List.length e; rw [hlen2] at this; simp at this; omega) (by omega) (by simp) (fun i y hy => ?_) (fun i y j z hy hj => ?_) (fun i y j z hy hj => ?_) (fun i y j z hy hj => ?_) ⟨fun _ _ _ h => h, fun h => h, ?_⟩
            · obtain ⟨hi, rfl⟩ := hget i y hy; rfl
            · obtain ⟨hi, rfl⟩ := hget i y hy
              rcases j with _ | _ | j
              · exact (hf i hi).1
              · exact (hf i hi).2.1
              · simp [Ev.cells] at hj
            · obtain ⟨hi, rfl⟩ := hget i y hy
              rcases j with _ | _ | j
              · simp [Ev.cells] at hj; subst hj; exact .bool
              · simp [Ev.cells] at hj; subst hj; exact (hf i hi).2.2.1
              · simp [Ev.cells] at hj
            · obtain ⟨hi, rfl⟩ := hget i y hy
              rcases j with _ | _ | j
              · rfl
              · exact (hf i hi).2.2.2
              · simp [Ev.cells] at hj
            · have := World.block_lt_of_cell? w _ (hf 0 (by omega)).1
              rwa [Ev.add_block] at this
/-- An identity, opened. -/
theorem rep_id {H : Type} {enc : TypeId × Value → H} {P : Program} {w : World} {base : Nat} {held : Bool} {tI : TypeId} {f0 f1 : Field} {vs : Array Value} {d : DataW H} {ps : List MemPlace}
    (hI : P.underlying tI = some (.struct #[f0, f1])) (hb : P.underlying f0.type = some .bool) (hs : P.underlying f1.type = some (.slice tI)) (h2 : P.cellsOf tI = 2) (c0 : P.cellsOf f0.type = 1) (c1 : P.cellsOf f1.type = 1) (o0 : f0.offset = 0) (o1 : f1.offset = 1)
    (h : DataW.Trod enc P w base (fun _ => true) held tI (.agg vs) d ps) : ∃ t : Tree, Rep none4 (fun _ => False) zeroC w true (tv t) (.agg vs) := by
  obtain ⟨fuel, hf⟩ := h
  obtain ⟨t, v, hcs, hr, _⟩ := rep_tree hI hb hs h2 c0 c1 o0 o1 fuel _ _ hf
  have hcs : vs.toList = [.bool t.one, v] := hcs
  have hsz : vs.size = 2 := by rw [← Array.length_toList, hcs]; rfl
  refine ⟨t, .agg hsz (fun j x hx => ?_)⟩
  have hg : ∀ j, vs.getD j undef = ([Value.bool t.one, v][j]?).getD undef := by
    intro j
    rw [← hcs]
    simp [Array.getD_eq_getD_getElem?]
  rw [hg]
  rcases j with _ | _ | j
  · simp at hx; subst hx; exact .bool
  · simp at hx; subst hx; exact hr
  · simp at hx
end Go.Proofs.Ytmokhopjnjecbab.Sized
