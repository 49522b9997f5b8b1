/- Rows of bytes out of a row's reading of the arguments. -/
import Derived.Test.YtmokhopjnjecbaaPSum
import Derived.SizedLaws
import Derived.ChangeSlices
namespace Go.Proofs.Ytmokhopjnjecbaa.Sized
open Go.ChangeShapes Go.WideShapes Go.RowKit
open Go.Ev (PCalls Rep Reps none4 zeroC avs avs_get avs_len add_mk)
set_option linter.unusedVariables false
set_option linter.unusedSimpArgs false
/-- A slice of whole numbers, opened. -/
def IsRow (k : IntKind) (w : World) (a : Option Addr) (len cap : Nat) (zs : List Int) : Prop :=
  (a = none ∧ len = 0 ∧ cap = 0 ∧ zs = []) ∨
  ∃ x, a = some x ∧ len ≤ cap ∧ cap ≤ maxLen ∧ zs.length = cap ∧ (∀ i, i < zs.length → w.cell? (x.add i) = some (.int k (zs.getD i 0))) ∧ ∀ n ∈ zs, (Lit.int k n).wf = true
theorem rep_bytes {w : World} {a : Option Addr} {len cap : Nat} {zs : List Int} (h : IsRow .u8 w a len cap zs) :
    ∃ bs : List Nat, (∀ b ∈ bs, b < 256) ∧ bs.length = len ∧ Rep none4 (fun _ => False) zeroC w true (.fz 1 (avs bs) none) (.slice a len cap) := by
  rcases h with ⟨rfl, rfl, rfl, rfl⟩ | ⟨x, rfl, hl, hm, hz, hcell, hwf⟩
  · exact ⟨[], by simp, rfl, .fz0 (by simp) (fun _ => ⟨rfl, rfl⟩)⟩
  · have hrange : ∀ n ∈ zs, 0 ≤ n ∧ n < 256 := by
      intro n hn
      have := hwf n hn
      simp [Lit.wf, IntKind.min, IntKind.max, IntKind.signed, IntKind.bits] at this
      omega
    have hlen : ((zs.take len).map Int.toNat).length = len := by simp; omega
    refine ⟨(zs.take len).map Int.toNat, ?_, hlen, ?_⟩
    · intro b hb
      obtain ⟨n, hn, rfl⟩ := List.mem_map.1 hb
      have := hrange n (List.mem_of_mem_take hn)
      omega
    · by_cases h0 : len = 0
      · subst h0
        simp only [List.take_zero, List.map_nil, avs]
        exact .fz0 (by simp) (fun e => by cases e)
      · have hal : (avs ((zs.take len).map Int.toNat)).length = len := by rw [avs_len]; exact hlen
        have hsl : (Value.slice (some x) len cap) = .slice (some x) (avs ((zs.take len).map Int.toNat)).length cap := by rw [hal]
        rw [hsl]
        have hget : ∀ (i : Nat) e, (avs ((zs.take len).map Int.toNat))[i]? = some e → i < zs.length ∧ e = .int .u8 (zs.getD i 0) := by
          intro i e hi
          have hlt : i < len := by have := (List.getElem?_eq_some_iff.1 hi).1; omega
          rw [avs_get, List.getElem?_map, List.getElem?_take_of_lt hlt, List.getElem?_eq_getElem (by omega)] at hi
          simp at hi
          subst hi
          refine ⟨by omega, ?_⟩
          have := hrange zs[i] (List.getElem_mem (by omega))
          have e2 : zs.getD i 0 = zs[i] := by simp [List.getD, show i < zs.length by omega]
          rw [e2]
          congr 1
          omega
        refine .fz (fun i _ => .int .u8 (zs.getD i 0)) (fun e => by rw [e] at hal; simp at hal; omega) (by omega) (by simp) (fun i e hi => ?_) (fun i e j y hi hj => ?_) (fun i e j y hi hj => ?_) (fun i e j y hi hj => rfl) ⟨fun _ _ _ h => h, fun h => h, ?_⟩
        · obtain ⟨_, rfl⟩ := hget i e hi; rfl
        · obtain ⟨hlt, rfl⟩ := hget i e hi
          cases j with
          | succ j => simp [Ev.cells] at hj
          | zero => rw [Nat.mul_one, Nat.add_zero]; exact hcell i hlt
        · obtain ⟨hlt, rfl⟩ := hget i e hi
          cases j with
          | succ j => simp [Ev.cells] at hj
          | zero => simp [Ev.cells] at hj; subst hj; exact .int
        · have := hcell 0 (by omega)
          have := World.block_lt_of_cell? w _ this
          rwa [Ev.add_block] at this
/-- A slice of rows of bytes, opened. -/
theorem rep_rows {H : Type} {enc : TypeId × Value → H} {P : Program} {w : World} {base : Nat} {held : Bool} {fuel : Nat} {t e b : TypeId} {a : Option Addr} {len cap : Nat} {x : DataW H × List MemPlace}
    (ht : P.underlying t = some (.slice e)) (he : P.underlying e = some (.slice b)) (hb : P.underlying b = some (.int .u8)) (hc1 : P.cellsOf e = 1) (hc2 : P.cellsOf b = 1)
    (h : DataW.trod enc P w base (fun _ => true) held fuel t [.slice a len cap] = some x) :
    ∃ ls : List (List Nat), ls.length = len ∧ (∀ l ∈ ls, ∀ b ∈ l, b < 256) ∧ Rep none4 (fun _ => False) zeroC w true (.fz 1 (ls.map fun l => .fz 1 (avs l) none) none) (.slice a len cap) := by
  rcases DataW.trod_slice ht h with ⟨hcs, _⟩ | ⟨a', len', cap', elems, rest, n, _, hcs, rfl, hbb, hl, hm, hlen, hel, _, _⟩
  · simp only [List.cons.injEq, Value.slice.injEq, and_true] at hcs
    obtain ⟨rfl, rfl, rfl⟩ := hcs
    exact ⟨[], rfl, by simp, .fz0 (by simp) (fun _ => ⟨rfl, rfl⟩)⟩
  · simp only [List.cons.injEq, Value.slice.injEq, and_true] at hcs
    obtain ⟨rfl, rfl, rfl⟩ := hcs
    have each : ∀ i, i < len → ∃ (bs : List Nat) (v : Value), (∀ b ∈ bs, b < 256) ∧ w.cell? (a'.add i) = some v ∧ Rep none4 (fun _ => False) zeroC w true (.fz 1 (avs bs) none) v ∧ v.oneCell' = true := by
      intro i hi
      have h1 := hel i hi
      rw [List.getElem?_eq_getElem (by omega), hc1, Nat.mul_one, Option.bind_eq_some_iff] at h1
      obtain ⟨cs', h2, h3⟩ := h1
      have row : ∃ a1 l1 c1 zs, cs' = [.slice a1 l1 c1] ∧ IsRow .u8 w a1 l1 c1 zs := by
        rcases open_ints he hb hc2 h3 with ⟨rfl, _⟩ | ⟨x1, l1, c1, zs, rfl, _, hl1, hm1, hz, _, hcell, hwz⟩
        · exact ⟨none, 0, 0, [], rfl, .inl ⟨rfl, rfl, rfl, rfl⟩⟩
        · exact ⟨some x1, l1, c1, zs, rfl, .inr ⟨x1, rfl, hl1, hm1, by simpa using hz, hcell, hwz⟩⟩
      obtain ⟨a1, l1, c1, zs, rfl, hrow⟩ := row
      obtain ⟨bs, hbs, _, hrep⟩ := rep_bytes hrow
      exact ⟨bs, _, hbs, cell_of_cells?_one h2, hrep, rfl⟩
    obtain ⟨f, hf⟩ : ∃ f : Nat → List Nat × Value, ∀ i, i < len → (∀ b ∈ (f i).1, b < 256) ∧ w.cell? (a'.add i) = some (f i).2 ∧ Rep none4 (fun _ => False) zeroC w true (.fz 1 (avs (f i).1) none) (f i).2 ∧ (f i).2.oneCell' = true :=
      ⟨fun i => if hi : i < len then (Classical.choose (each i hi), Classical.choose (Classical.choose_spec (each i hi))) else ([], undef), fun i hi => by
        simp only [dif_pos hi]
        exact Classical.choose_spec (Classical.choose_spec (each i hi))⟩
    clear each
    refine ⟨(List.range len).map fun i => (f i).1, by simp, ?_, ?_⟩
    · intro l hl'
      obtain ⟨i, hi, rfl⟩ := List.mem_map.1 hl'
      exact (hf i (List.mem_range.1 hi)).1
    · by_cases h0 : len = 0
      · subst h0
        exact .fz0 (by simp) (fun e => by cases e)
      · have hget : ∀ (i : Nat) y, (((List.range len).map fun i => (f i).1).map fun l => Ev.AV.fz 1 (avs l) none)[i]? = some y → i < len ∧ y = .fz 1 (avs (f i).1) none := by
          intro i y hy
          have hi : i < len := by have := (List.getElem?_eq_some_iff.1 hy).1; simpa using this
          simp [List.getElem?_map, hi] at hy
          exact ⟨hi, hy.symm⟩
        have hsl : (Value.slice (some a') len cap) = .slice (some a') (((List.range len).map fun i => (f i).1).map fun l => Ev.AV.fz 1 (avs l) none).length cap := by simp
        rw [hsl]
        refine .fz (fun i _ => (f i).2) (fun e => by have := congrArg List.length e; simp at this; omega) (by simpa using hl) (by simp) (fun i y hy => ?_) (fun i y j z hy hj => ?_) (fun i y j z hy hj => ?_) (fun i y j z hy hj => ?_) ⟨fun _ _ _ h => h, fun h => h, ?_⟩
        · obtain ⟨hi, rfl⟩ := hget i y hy; rfl
        · obtain ⟨hi, rfl⟩ := hget i y hy
          cases j with
          | succ j => simp [Ev.cells] at hj
          | zero => rw [Nat.mul_one, Nat.add_zero]; exact (hf i hi).2.1
        · obtain ⟨hi, rfl⟩ := hget i y hy
          cases j with
          | succ j => simp [Ev.cells] at hj
          | zero =>
            simp [Ev.cells] at hj; subst hj
            exact (hf i hi).2.2.1
        · obtain ⟨hi, rfl⟩ := hget i y hy
          exact (hf i hi).2.2.2
        · have := World.block_lt_of_cell? w _ (hf 0 (by omega)).2.1
          rwa [Ev.add_block] at this
/-- A row's slice of whole numbers is no longer than its weight allows. -/
theorem sized_ints {H : Type} {enc : TypeId × Value → H} {P : Program} {W : World} {base : Nat} {spare : Nat → Bool} {held : Bool} {t e : TypeId} {k : IntKind} {a : Option Addr} {len cap : Nat} {d : DataW H} {ps : List MemPlace} {ts : List TypeId} {ds : List (DataW H)} {j : Nat}
    (hsz : (DataW.weightsEach P ts ds).all (· ≤ reachBytes) = true) (ht : ts[j]? = some t) (hd : ds[j]? = some d) (hu : P.underlying t = some (.slice e)) (he : P.underlying e = some (.int k)) (hc : P.cellsOf e = 1) {B : Nat} (hB : P.bytesOf e = B)
    (h : DataW.Trod enc P W base spare held t (.slice a len cap) d ps) : len * B ≤ 140737488351232 := by
  obtain ⟨fuel, hf⟩ := h
  rcases open_ints hu he hc hf with ⟨hcs, _⟩ | ⟨x, l, c, zs, hcs, _, hl, _, hz, hx, _, _⟩
  · simp [Value.cells] at hcs
    obtain ⟨rfl, rfl, rfl⟩ := hcs
    simp
  · simp [Value.cells] at hcs
    obtain ⟨rfl, rfl, rfl⟩ := hcs
    obtain ⟨hx, _⟩ := Prod.mk.inj hx
    subst hx
    have z := sized_slice hsz ht hd hu
    rw [hB] at z
    have hl2 : len ≤ zs.length := by
      rw [hz]
      split
      · exact hl
      · exact Nat.le_refl _
    have h1 : (lits (H := H) k (zs.take len)).length + (lits (H := H) k (zs.drop len)).length = zs.length := by
      simp [lits]
      omega
    rw [h1] at z
    exact Nat.le_trans (Nat.mul_le_mul_right _ hl2) z
end Go.Proofs.Ytmokhopjnjecbaa.Sized
