/- Versions out of a row's reading of the arguments. -/
import Derived.Test.YtmokhopjnjecbaaDec
import Derived.Test.YtmokhopjnjecbaaWVer3
namespace Go.Proofs.Ytmokhopjnjecbaa
open Go.Ev
set_option linter.unusedVariables false
/-- The cells of a version. -/
theorem dec_vcells {P : Program} {tE : TypeId} {fs : Array Field} (hu : P.underlying tE = some (.struct fs)) (hs : shapes P 9 tE = some [.int .i64, .sl tE]) {xs : List AV} (hl : xs.length = 7)
    (h : ∀ (j : Nat) s x, ([.int .i64, .int .i64, .str, .str, .bool, .int .i64, .sl tE] : List Sh)[j]? = some s → xs[j]? = some x → CellOk P s x) : ∃ v : Ver, xs = vcs v := by
  match xs, hl with
  | [x0, x1, x2, x3, x4, x5, x6], _ =>
    obtain ⟨n0, rfl, _⟩ := (h 0 _ x0 rfl rfl).int_inv
    obtain ⟨n1, rfl, _⟩ := (h 1 _ x1 rfl rfl).int_inv
    obtain ⟨s2, rfl, _⟩ := (h 2 _ x2 rfl rfl).str_inv
    obtain ⟨s3, rfl, _⟩ := (h 3 _ x3 rfl rfl).str_inv
    obtain ⟨b4, rfl⟩ := (h 4 _ x4 rfl rfl).bool_inv
    obtain ⟨n5, rfl, _⟩ := (h 5 _ x5 rfl rfl).int_inv
    obtain ⟨ps, rfl⟩ := dec_ets hu hs (h 6 _ x6 rfl rfl) rfl
    exact ⟨⟨n0, n1, s2, s3, b4, .mk n5 ps⟩, rfl⟩
theorem dec_vers {P : Program} {tE tV : TypeId} {fs fs2 : Array Field} (hu : P.underlying tE = some (.struct fs)) (hs : shapes P 9 tE = some [.int .i64, .sl tE]) (hu2 : P.underlying tV = some (.struct fs2))
    (hs2 : shapes P 9 tV = some [.int .i64, .int .i64, .str, .str, .bool, .int .i64, .sl tE]) {x : AV} (h : CellOk P (.sl tV) x) : ∃ l : List Ver, x = .fz 7 (l.map vv) none ∧ l.length ≤ maxLen := by
  obtain ⟨es, rfl, hlen, he⟩ := h.sl_inv hs2
  obtain ⟨l, rfl⟩ := list_of vv es (fun y hy => by
    obtain ⟨h1, h2, h3⟩ := he y hy
    rw [mkE_struct hu2] at h1
    obtain ⟨v, hv⟩ := dec_vcells hu hs (xs := cells y) h2 h3
    exact ⟨v, by rw [h1, hv]⟩)
  exact ⟨l, rfl, by simpa using hlen⟩
end Go.Proofs.Ytmokhopjnjecbaa
