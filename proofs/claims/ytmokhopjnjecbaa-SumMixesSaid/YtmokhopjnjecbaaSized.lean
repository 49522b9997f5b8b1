/- Rows of bytes out of a row's reading of the arguments. -/
import Derived.Test.YtmokhopjnjecbaaPSum
import Derived.SizedLaws
import Derived.ChangeSlices
namespace Go.Proofs.Ytmokhopjnjecbaa.Sized
open Go.ChangeShapes Go.WideShapes Go.RowKit
open Go.Ev (PCalls Rep Reps none4 avs avs_get avs_len add_mk)
set_option linter.unusedVariables false
set_option linter.unusedSimpArgs false
/-- A slice of whole numbers, opened. -/
def IsRow (k : IntKind) (w : World) (a : Option Addr) (len cap : Nat) (zs : List Int) : Prop :=
  (a = none ∧ len = 0 ∧ cap = 0 ∧ zs = []) ∨
  ∃ x, a = some x ∧ len ≤ cap ∧ cap ≤ maxLen ∧ zs.length = cap ∧ (∀ i, i < zs.length → w.cell? (x.add i) = some (.int k (zs.getD i 0))) ∧ ∀ n ∈ zs, (Lit.int k n).wf = true
theorem rep_bytes {w : World} {a : Option Addr} {len cap : Nat} {zs : List Int} (h : IsRow .u8 w a len cap zs) :
    ∃ bs : List Nat, (∀ b ∈ bs, b < 256) ∧ bs.length = len ∧ Rep none4 (fun _ => False) 0 w true (.fz 1 (avs bs) none) (.slice a len cap) := by
  rcases h with ⟨rfl, rfl, rfl, rfl⟩ | ⟨x, rfl, hl, hm, hz, hcell, hwf⟩
  · exact ⟨[], by simp, rfl, .fz0 (by simp) (fun _ => rfl)⟩
  · have hrange : ∀ n ∈ zs, 0 ≤ n ∧ n < 256 := by
      intro n hn
      have := hwf n hn
      simp [Lit.wf, IntKind.min, IntKind.max, IntKind.signed, IntKind.bits] at this
      omega
    have hlen : ((zs.take len).map Int.toNat).length = len := by simp; omega
    refine ⟨(zs.take len).map Int.toNat, ?_, hlen, ?_⟩
    · intro b hb
      obtain ⟨n, hn, rfl⟩ := List.mem_map.1 hb
      have := hrange n (List.mem_of_mem_take hn)
      omega
    · by_cases h0 : len = 0
      · subst h0
        simp only [List.take_zero, List.map_nil, avs]
        exact .fz0 (by simp) (fun e => by cases e)
      · have hal : (avs ((zs.take len).map Int.toNat)).length = len := by rw [avs_len]; exact hlen
        have hsl : (Value.slice (some x) len cap) = .slice (some x) (avs ((zs.take len).map Int.toNat)).length cap := by rw [hal]
        rw [hsl]
        have hget : ∀ (i : Nat) e, (avs ((zs.take len).map Int.toNat))[i]? = some e → i < zs.length ∧ e = .int .u8 (zs.getD i 0) := by
          intro i e hi
          have hlt : i < len := by have := (List.getElem?_eq_some_iff.1 hi).1; omega
          rw [avs_get, List.getElem?_map, List.getElem?_take_of_lt hlt, List.getElem?_eq_getElem (by omega)] at hi
          simp at hi
          subst hi
          refine ⟨by omega, ?_⟩
          have := hrange zs[i] (List.getElem_mem (by omega))
          have e2 : zs.getD i 0 = zs[i] := by simp [List.getD, show i < zs.length by omega]
          rw [e2]
          congr 1
          omega
        refine .fz (fun i _ => .int .u8 (zs.getD i 0)) (fun e => by rw [e] at hal; simp at hal; omega) (by omega) (by simp) (fun i e hi => ?_) (fun i e j y hi hj => ?_) (fun i e j y hi hj => ?_) (fun i e j y hi hj => rfl) ⟨fun _ _ _ h => h, fun h => h, ?_⟩
        · obtain ⟨_, rfl⟩ := hget i e hi; rfl
        · obtain ⟨hlt, rfl⟩ := hget i e hi
          cases j with
          | succ j => simp [Ev.cells] at hj
          | zero => rw [Nat.mul_one, Nat.add_zero]; exact hcell i hlt
        · obtain ⟨hlt, rfl⟩ := hget i e hi
          cases j with
          | succ j => simp [Ev.cells] at hj
          | zero => simp [Ev.cells] at hj; subst hj; exact .int
        · have := hcell 0 (by omega)
          have := World.block_lt_of_cell? w _ this
          rwa [Ev.add_block] at this
/-- A row's slice of whole numbers is no longer than its weight allows. -/
theorem sized_ints {H : Type} {enc : TypeId × Value → H} {P : Program} {W : World} {base : Nat} {spare : Nat → Bool} {held : Bool} {t e : TypeId} {k : IntKind} {a : Option Addr} {len cap : Nat} {d : DataW H} {ps : List MemPlace} {ts : List TypeId} {ds : List (DataW H)} {j : Nat}
    (hsz : (DataW.weightsEach P ts ds).all (· ≤ reachBytes) = true) (ht : ts[j]? = some t) (hd : ds[j]? = some d) (hu : P.underlying t = some (.slice e)) (he : P.underlying e = some (.int k)) (hc : P.cellsOf e = 1) {B : Nat} (hB : P.bytesOf e = B)
    (h : DataW.Trod enc P W base spare held t (.slice a len cap) d ps) : len * B ≤ 140737488351232 := by
  obtain ⟨fuel, hf⟩ := h
  rcases open_ints hu he hc hf with ⟨hcs, _⟩ | ⟨x, l, c, zs, hcs, _, hl, _, hz, hx, _, _⟩
  · simp [Value.cells] at hcs
    obtain ⟨rfl, rfl, rfl⟩ := hcs
    simp
  · simp [Value.cells] at hcs
    obtain ⟨rfl, rfl, rfl⟩ := hcs
    obtain ⟨hx, _⟩ := Prod.mk.inj hx
    subst hx
    have z := sized_slice hsz ht hd hu
    rw [hB] at z
    have hl2 : len ≤ zs.length := by
      rw [hz]
      split
      · exact hl
      · exact Nat.le_refl _
    have h1 : (lits (H := H) k (zs.take len)).length + (lits (H := H) k (zs.drop len)).length = zs.length := by
      simp [lits]
      omega
    rw [h1] at z
    exact Nat.le_trans (Nat.mul_le_mul_right _ hl2) z
end Go.Proofs.Ytmokhopjnjecbaa.Sized
