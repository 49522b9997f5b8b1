/- THE LAW EventJoins: whatever two event trees, they are compared and joined count by count: the row's function answers true and leaves memory as it was.
   The walks step through the compiled bodies; here the row's reading of the arguments is opened and the answer shut. -/
import Derived.Test.YtmokhopjnjecbabWEvJoins
import Derived.Test.YtmokhopjnjecbabSizedGen
import Derived.Test.YtmokhopjnjecbabDec
import Derived.ProofKit
import Derived.OpenShut
import Derived.ShutString
import Derived.ChangeOld
import Derived.ChangeMaps5
import Derived.Below
import Derived.SizedLaws
namespace Go.Proofs.Ytmokhopjnjecbab.eventJoins
open Go.ChangeShapes Go.WideShapes Go.ChangeAt Go.RowKit
open Go.Ev (PCalls Rep Reps none4 avs)
set_option linter.unusedVariables false
set_option maxRecDepth 100000
theorem own : ownKnob Try.prog.godebug = none := by kernel_rfl
theorem laidOut : laidOutB Try.prog = true := by kernel_rfl
theorem lifted (os : Os) (started : os.Started) (H : Type) (enc : TypeId × Value → H) :
    ReturnsInHanded {} Try.checked os 6 .any (Rows.eventJoinsSpec.pre6 enc Try.prog Try.f6 Rows.eventJoinsRow.domain false) (Rows.eventJoinsSpec.post enc Try.prog Try.f6 false true false false) := by
  refine returnsInHanded_of_change_sized (C := Try.checked) own started (by kernel_rfl) Try.func6
    (ChangeSpec.witness6 (enc := enc) (C := Try.checked) false ⟨#[], #[.agg #[.int .i64 0, .slice none 0 0], .agg #[.int .i64 0, .slice none 0 0]], []⟩ 8 (by kernel_rfl) (by kernel_rfl) (by kernel_rfl) (by kernel_rfl)) ?_
  intro W base args ds gs before hval0 hW hcnd hsz0 _
  have hval : ∀ (j : Nat) t v, Try.f6.params[j]? = some t → args[j]? = some v → Value.okWide Try.prog W .any base t v := hval0
  have hW' := hW
  obtain ⟨p, q, hA0, hV, rfl, hfz, hnd⟩ := hW
  have hA : DataW.TrodAll enc Try.prog W 0 (fun _ => true) true Try.f6.params.toList args.toList ds p := hA0
  rw [Try.params6] at hA hval
  obtain ⟨v0, vs0, d0, ds0, p0, q0, hargs, rfl, rfl, h0, r0⟩ := trodAll_cons hA
  obtain ⟨v1, vs1, d1, ds1, p1, q1, rfl, rfl, rfl, h1, r1⟩ := trodAll_cons r0
  obtain ⟨rfl, rfl, rfl⟩ := trodAll_nil r1
  obtain rfl : args = #[v0, v1] := by cases args; simp_all
  obtain ⟨rfl, rfl⟩ := trodVars_none hV
  have k0 := h0
  have lt0 : ∀ x ∈ p0, x.block < W.heap.size := by obtain ⟨m, hm⟩ := k0; exact DataW.trod_lt m _ _ _ hm
  obtain ⟨a0, rfl, _⟩ := okWide_struct Try.underlying42 (hval 0 42 v0 rfl rfl)
  obtain ⟨xs0, hxl0, hxc0, hrep0⟩ := Go.Ev.rep_struct [42] (by kernel_rfl) (show Go.Ev.shapes Try.prog 9 42 = some [.int .i64, .sl 42] by kernel_rfl) (by intro e he; simp at he ⊢; first | omega | exact he | (rcases he with rfl | rfl <;> simp)) h0
  obtain ⟨z0, hz0⟩ := Go.Ev.dec_ecells Try.underlying42 (by kernel_rfl) hxl0 hxc0
  rw [hz0] at hrep0
  have k1 := h1
  have lt1 : ∀ x ∈ p1, x.block < W.heap.size := by obtain ⟨m, hm⟩ := k1; exact DataW.trod_lt m _ _ _ hm
  obtain ⟨a1, rfl, _⟩ := okWide_struct Try.underlying42 (hval 1 42 v1 rfl rfl)
  obtain ⟨xs1, hxl1, hxc1, hrep1⟩ := Go.Ev.rep_struct [42] (by kernel_rfl) (show Go.Ev.shapes Try.prog 9 42 = some [.int .i64, .sl 42] by kernel_rfl) (by intro e he; simp at he ⊢; first | omega | exact he | (rcases he with rfl | rfl <;> simp)) h1
  obtain ⟨z1, hz1⟩ := Go.Ev.dec_ecells Try.underlying42 (by kernel_rfl) hxl1 hxc1
  rw [hz1] at hrep1
  refine ((ejoins_calls z0 z1).calls (fun _ => False) W [.agg a0, .agg a1] (fun _ h => h.elim) (.cons hrep0 (.cons hrep1 .nil))).mono fun e W' he => ?_
  obtain ⟨v, rfl, bel, hv⟩ := he
  cases hv
  exact ⟨_, rfl, _, _, _, [], _, [], hW', trodAll_mk1 (shut_bool Try.underlying4 _), (trodAll_cons_mk (Below.trod laidOut (by kernel_rfl) (of_decide_eq_true (by kernel_rfl)) k0 bel lt0) (trodAll_cons_mk (Below.trod laidOut (by kernel_rfl) (of_decide_eq_true (by kernel_rfl)) k1 bel lt1) trodAll_mk0)), rfl, bel.frame _, fun h => by cases h⟩
theorem over : Rows.eventJoinsRow.holds Try.pinned (OpenSpec.ofChange Rows.eventJoinsSpec) :=
  OpenClaim.holds_of_wide 6 Try.f6 rfl rfl rfl rfl rfl rfl rfl ⟨rfl, rfl, rfl, rfl, rfl⟩ rfl rfl rfl rfl rfl (by kernel_rfl) Try.func6 (by kernel_rfl)
    (of_decide_eq_true (by kernel_rfl)) (by unfold Func.isWrapper; first | (rw [if_pos (by decide +kernel)]; kernel_rfl) | (rw [if_neg (by decide +kernel)]; exact ⟨rfl, rfl⟩))
    (fun os started H enc _ => lifted os started H enc)
theorem proved : Rows.EventJoinsSaid := over
#print axioms proved
end Go.Proofs.Ytmokhopjnjecbab.eventJoins
namespace Go.Proofs.Ytmokhopjnjecbab
/-- The row, under a short name, for the claim. -/
theorem eventJoins_holds : Rows.EventJoinsSaid := eventJoins.proved
end Go.Proofs.Ytmokhopjnjecbab
