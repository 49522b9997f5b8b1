/- THE LAW CodecTakes: whatever bytes, whatever is asked, just that is taken that could have been put there: the row's function answers true and leaves memory as it was.
   The walks step through the compiled bodies; here the row's reading of the arguments is opened and the answer shut. -/
import Derived.Test.YtmokhopjnjecbaaWCodec5
import Derived.Test.YtmokhopjnjecbaaSizedGen
import Derived.Test.YtmokhopjnjecbaaDec
import Derived.ProofKit
import Derived.OpenShut
import Derived.ShutString
import Derived.ChangeOld
import Derived.ChangeMaps5
import Derived.Below
import Derived.SizedLaws
namespace Go.Proofs.Ytmokhopjnjecbaa.codecTakes
open Go.ChangeShapes Go.WideShapes Go.ChangeAt Go.RowKit
open Go.Ev (PCalls Rep Reps none4 avs)
set_option linter.unusedVariables false
set_option maxRecDepth 100000
theorem own : ownKnob Try.prog.godebug = none := by kernel_rfl
theorem laidOut : laidOutB Try.prog = true := by kernel_rfl
theorem lifted (os : Os) (started : os.Started) (H : Type) (enc : TypeId × Value → H) :
    ReturnsInHanded {} Try.checked os 8 .any (Rows.codecTakesSpec.pre6 enc Try.prog Try.f8 Rows.codecTakesRow.domain false) (Rows.codecTakesSpec.post enc Try.prog Try.f8 false true false false) := by
  refine returnsInHanded_of_change_sized (C := Try.checked) own started (by kernel_rfl) Try.func8
    (ChangeSpec.witness6 (enc := enc) (C := Try.checked) false ⟨#[], #[.slice none 0 0, .slice none 0 0, .int .i64 0], []⟩ 8 (by kernel_rfl) (by kernel_rfl) (by kernel_rfl) (by kernel_rfl)) ?_
  intro W base args ds gs before hval0 hW hcnd hsz0 _
  have hval : ∀ (j : Nat) t v, Try.f8.params[j]? = some t → args[j]? = some v → Value.okWide Try.prog W .any base t v := hval0
  have hW' := hW
  obtain ⟨p, q, hA0, hV, rfl, hfz, hnd⟩ := hW
  have hA : DataW.TrodAll enc Try.prog W 0 (fun _ => true) true Try.f8.params.toList args.toList ds p := hA0
  rw [Try.params8] at hA hval
  obtain ⟨v0, vs0, d0, ds0, p0, q0, hargs, rfl, rfl, h0, r0⟩ := trodAll_cons hA
  obtain ⟨v1, vs1, d1, ds1, p1, q1, rfl, rfl, rfl, h1, r1⟩ := trodAll_cons r0
  obtain ⟨v2, vs2, d2, ds2, p2, q2, rfl, rfl, rfl, h2, r2⟩ := trodAll_cons r1
  obtain ⟨rfl, rfl, rfl⟩ := trodAll_nil r2
  obtain rfl : args = #[v0, v1, v2] := by cases args; simp_all
  obtain ⟨rfl, rfl⟩ := trodVars_none hV
  have k0 := h0
  have lt0 : ∀ x ∈ p0, x.block < W.heap.size := by obtain ⟨m, hm⟩ := k0; exact DataW.trod_lt m _ _ _ hm
  obtain ⟨a0, len0, cap0, rfl⟩ := okWide_slice Try.underlying22 (hval 0 22 v0 rfl rfl)
  obtain ⟨x0, hxc0, hrep0⟩ := Go.Ev.rep_slice [5] (by kernel_rfl) Try.underlying22 (by decide) h0
  obtain ⟨z0, hz0⟩ := Go.Ev.dec_bytes Try.underlying5 hxc0
  obtain ⟨hz0, hy0⟩ := hz0
  rw [hz0] at hrep0
  have k1 := h1
  have lt1 : ∀ x ∈ p1, x.block < W.heap.size := by obtain ⟨m, hm⟩ := k1; exact DataW.trod_lt m _ _ _ hm
  obtain ⟨a1, len1, cap1, rfl⟩ := okWide_slice Try.underlying22 (hval 1 22 v1 rfl rfl)
  obtain ⟨x1, hxc1, hrep1⟩ := Go.Ev.rep_slice [5] (by kernel_rfl) Try.underlying22 (by decide) h1
  obtain ⟨z1, hz1⟩ := Go.Ev.dec_bytes Try.underlying5 hxc1
  obtain ⟨hz1, hy1⟩ := hz1
  rw [hz1] at hrep1
  have k2 := h2
  have lt2 : ∀ x ∈ p2, x.block < W.heap.size := by obtain ⟨m, hm⟩ := k2; exact DataW.trod_lt m _ _ _ hm
  obtain ⟨n2, rfl, _, _, hwf2⟩ := open_int Try.underlying3 (hval 2 3 v2 rfl rfl) h2
  have hr2 : -9223372036854775808 ≤ n2 ∧ n2 < 9223372036854775808 := by
    simp [Lit.wf, IntKind.min, IntKind.max, IntKind.signed, IntKind.bits] at hwf2
    omega
  refine ((takes_calls z0 hy0 z1 hy1 n2 hr2).calls (fun _ => False) W [.slice a0 len0 cap0, .slice a1 len1 cap1, .int .i64 n2] (fun _ h => h.elim) (.cons hrep0 (.cons hrep1 (.cons .int .nil)))).mono fun e W' he => ?_
  obtain ⟨v, rfl, bel, hv⟩ := he
  cases hv
  exact ⟨_, rfl, _, _, _, [], _, [], hW', trodAll_mk1 (shut_bool Try.underlying4 _), (trodAll_cons_mk (Below.trod laidOut (by kernel_rfl) (of_decide_eq_true (by kernel_rfl)) k0 bel lt0) (trodAll_cons_mk (Below.trod laidOut (by kernel_rfl) (of_decide_eq_true (by kernel_rfl)) k1 bel lt1) (trodAll_cons_mk (Below.trod laidOut (by kernel_rfl) (of_decide_eq_true (by kernel_rfl)) k2 bel lt2) trodAll_mk0))), rfl, bel.frame _, fun h => by cases h⟩
theorem over : Rows.codecTakesRow.holds Try.pinned (OpenSpec.ofChange Rows.codecTakesSpec) :=
  OpenClaim.holds_of_wide 8 Try.f8 rfl rfl rfl rfl rfl rfl rfl ⟨rfl, rfl, rfl, rfl, rfl⟩ rfl rfl rfl rfl rfl (by kernel_rfl) Try.func8 (by kernel_rfl)
    (of_decide_eq_true (by kernel_rfl)) (by unfold Func.isWrapper; first | (rw [if_pos (by decide +kernel)]; kernel_rfl) | (rw [if_neg (by decide +kernel)]; exact ⟨rfl, rfl⟩))
    (fun os started H enc _ => lifted os started H enc)
theorem proved : Rows.CodecTakesSaid := over
#print axioms proved
end Go.Proofs.Ytmokhopjnjecbaa.codecTakes
namespace Go.Proofs.Ytmokhopjnjecbaa
/-- The row, under a short name, for the claim. -/
theorem codecTakes_holds : Rows.CodecTakesSaid := codecTakes.proved
end Go.Proofs.Ytmokhopjnjecbaa
