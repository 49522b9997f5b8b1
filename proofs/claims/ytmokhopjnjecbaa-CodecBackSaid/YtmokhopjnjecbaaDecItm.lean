/- An item's cells, told as a plain thing. -/
import Derived.Test.YtmokhopjnjecbaaDec
import Derived.Test.YtmokhopjnjecbaaWOut8
namespace Go.Ev
set_option linter.unusedVariables false
theorem dec_items {P : Program} {tI : TypeId} {fs : Array Field} (hu : P.underlying tI = some (.struct fs)) (hs : shapes P 9 tI = some [.int .u8, .int .i64, .str]) {x : AV} (h : CellOk P (.sl tI) x) : ∃ L : List Itm, x = .fz 3 (L.map itv) none ∧ ∀ y ∈ L, ItmOk y := by
  obtain ⟨es, rfl, _, he⟩ := h.sl_inv hs
  have key : ∀ y ∈ es, ∃ i : {i : Itm // ItmOk i}, y = itv i.1 := by
    intro y hy
    obtain ⟨h1, h2, h3⟩ := he y hy
    match hc : cells y, h2 with
    | [c0, c1, c2], _ =>
      obtain ⟨n0, rfl, w0⟩ := (h3 0 _ c0 rfl (by rw [hc]; rfl)).int_inv
      obtain ⟨n1, rfl, w1⟩ := (h3 1 _ c1 rfl (by rw [hc]; rfl)).int_inv
      obtain ⟨s, rfl, _⟩ := (h3 2 _ c2 rfl (by rw [hc]; rfl)).str_inv
      rw [hc, mkE_struct hu] at h1
      simp [Lit.wf, IntKind.min, IntKind.max, IntKind.signed, IntKind.bits] at w0 w1
      refine ⟨⟨⟨n0.toNat, n1, s⟩, ⟨by show n0.toNat < 256; omega, by show -9223372036854775808 ≤ n1 ∧ n1 < 9223372036854775808; omega⟩⟩, ?_⟩
      rw [h1]; simp only [itv]; congr 3; omega
    | [], h2 => simp at h2
    | [_], h2 => simp at h2
    | [_, _], h2 => simp at h2
    | _ :: _ :: _ :: _ :: _, h2 => simp at h2
  obtain ⟨l, rfl⟩ := list_of (fun i : {i : Itm // ItmOk i} => itv i.1) es key
  refine ⟨l.map (·.1), by simp, ?_⟩
  intro y hy
  obtain ⟨a, _, rfl⟩ := List.mem_map.1 hy
  exact a.2
end Go.Ev
