/- Cells of known types, told as plain things: events, rows of bytes. -/
import Derived.Test.YtmokhopjnjecbaaSizedGen
import Derived.Test.YtmokhopjnjecbaaPEv
import Derived.Test.YtmokhopjnjecbaaPSum
namespace Go.Ev
set_option linter.unusedVariables false
theorem CellOk.int_inv {P : Program} {k : IntKind} {x : AV} (h : CellOk P (.int k) x) : ∃ n, x = .int k n ∧ (Lit.int k n).wf = true := by
  cases h with | int h => exact ⟨_, rfl, h⟩
theorem CellOk.bool_inv {P : Program} {x : AV} (h : CellOk P .bool x) : ∃ b, x = .bool b := by
  cases h; exact ⟨_, rfl⟩
theorem CellOk.str_inv {P : Program} {x : AV} (h : CellOk P .str x) : ∃ s, x = .str s ∧ s.size ≤ maxLen := by
  cases h with | str h => exact ⟨_, rfl, h⟩
/-- Each element of a row of structs, by its cells. -/
theorem CellOk.sl_inv {P : Program} {e : TypeId} {ss : List Sh} {x : AV} (h : CellOk P (.sl e) x) (hs : shapes P 9 e = some ss) : ∃ es : List AV, x = .fz ss.length es none ∧ es.length ≤ maxLen ∧ ∀ y ∈ es, y = mkE P e (cells y) ∧ (cells y).length = ss.length ∧ ∀ (j : Nat) s c, ss[j]? = some s → (cells y)[j]? = some c → CellOk P s c := by
  cases h with
  | @sl _ ss' es hs' hlen hl hf h =>
    rw [hs] at hs'; cases hs'
    exact ⟨es, rfl, hlen, fun y hy => ⟨hf y hy, hl y hy, h y hy⟩⟩
theorem mkE_struct {P : Program} {e : TypeId} {fs : Array Field} (hu : P.underlying e = some (.struct fs)) (xs : List AV) : mkE P e xs = .agg xs := by simp [mkE, hu]
/-- A row whose elements are each told so. -/
theorem list_of {α : Type} (f : α → AV) : ∀ (es : List AV), (∀ y ∈ es, ∃ a, y = f a) → ∃ l : List α, es = l.map f
  | [], _ => ⟨[], rfl⟩
  | y :: es, h => by
    obtain ⟨a, rfl⟩ := h y List.mem_cons_self
    obtain ⟨l, rfl⟩ := list_of f es (fun z hz => h z (List.mem_cons_of_mem _ hz))
    exact ⟨a :: l, rfl⟩
theorem xtavs_map : ∀ ps : List ET, xtavs ps = ps.map xtv
  | [] => by simp [xtavs]
  | p :: ps => by simp only [xtavs, xtav_tv, List.map_cons, xtavs_map ps]
theorem dec_ets {P : Program} {tE : TypeId} {fs : Array Field} (hu : P.underlying tE = some (.struct fs)) (hs : shapes P 9 tE = some [.int .i64, .sl tE]) : ∀ {s : Sh} {x : AV}, CellOk P s x → s = .sl tE → ∃ ps : List ET, x = .fz 2 (xtavs ps) none := by
  intro s x h
  induction h with
  | int => intro e; cases e
  | bool => intro e; cases e
  | str => intro e; cases e
  | @sl e ss es hs' hlen hl hf h ih =>
    intro e0
    cases e0
    rw [hs] at hs'; cases hs'
    obtain ⟨l, hl2⟩ := list_of xtv es (fun y hy => by
      have h1 := hl y hy
      have h2 := hf y hy
      rw [mkE_struct hu] at h2
      match hc : cells y, h1 with
      | [c0, c1], _ =>
        obtain ⟨n, rfl, _⟩ := (h y hy 0 _ c0 rfl (by rw [hc]; rfl)).int_inv
        obtain ⟨ps, rfl⟩ := ih y hy 1 _ c1 rfl (by rw [hc]; rfl) rfl
        rw [hc] at h2
        exact ⟨.mk n ps, h2⟩
      | [], h1 => simp at h1
      | [_], h1 => simp at h1
      | _ :: _ :: _ :: _, h1 => simp at h1)
    exact ⟨l, by rw [xtavs_map, ← hl2]; rfl⟩
theorem dec_ecells {P : Program} {tE : TypeId} {fs : Array Field} (hu : P.underlying tE = some (.struct fs)) (hs : shapes P 9 tE = some [.int .i64, .sl tE]) {xs : List AV} (hl : xs.length = 2)
    (h : ∀ (j : Nat) s x, ([.int .i64, .sl tE] : List Sh)[j]? = some s → xs[j]? = some x → CellOk P s x) : ∃ e : ET, xs = [.int .i64 e.n, .fz 2 (xtavs e.ps) none] := by
  match xs, hl with
  | [x0, x1], _ =>
    obtain ⟨n0, rfl, _⟩ := (h 0 _ x0 rfl rfl).int_inv
    obtain ⟨ps, rfl⟩ := dec_ets hu hs (h 1 _ x1 rfl rfl) rfl
    exact ⟨.mk n0 ps, rfl⟩
theorem dec_bytes {P : Program} {tB : TypeId} (hu : P.underlying tB = some (.int .u8)) {x : AV} (h : CellOk P (.sl tB) x) : ∃ bs : List Nat, x = .fz 1 (avs bs) none ∧ ∀ b ∈ bs, b < 256 := by
  have hs : shapes P 9 tB = some [.int .u8] := by simp only [shapes, hu]
  obtain ⟨es, rfl, _, he⟩ := h.sl_inv hs
  have key : ∀ y ∈ es, ∃ b : Nat, y = .int .u8 (b : Nat) ∧ b < 256 := by
    intro y hy
    obtain ⟨h1, h2, h3⟩ := he y hy
    match hc : cells y, h2 with
    | [c0], _ =>
      obtain ⟨n, rfl, hw⟩ := (h3 0 _ c0 rfl (by rw [hc]; rfl)).int_inv
      rw [hc] at h1
      simp [Lit.wf, IntKind.min, IntKind.max, IntKind.signed, IntKind.bits] at hw
      refine ⟨n.toNat, ?_, by omega⟩
      rw [h1]; simp only [mkE, hu, List.headD]; congr 1; omega
    | [], h2 => simp at h2
    | _ :: _ :: _, h2 => simp at h2
  obtain ⟨l, rfl⟩ := list_of (fun b : {b : Nat // b < 256} => AV.int .u8 ((b.1 : Nat) : Int)) es (fun y hy => by
    obtain ⟨b, h1, h2⟩ := key y hy
    exact ⟨⟨b, h2⟩, h1⟩)
  refine ⟨l.map (·.1), by simp [avs], ?_⟩
  intro b hb
  obtain ⟨a, _, rfl⟩ := List.mem_map.1 hb
  exact a.2
end Go.Ev
