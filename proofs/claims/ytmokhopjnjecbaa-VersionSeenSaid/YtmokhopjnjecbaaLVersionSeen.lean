/- THE LAW VersionSeen: whatever versions, what they know together is the greatest of each count: the row's function answers true and leaves memory as it was.
   The walks step through the compiled bodies; here the row's reading of the arguments is opened and the answer shut. -/
import Derived.Test.YtmokhopjnjecbaaWSeen
import Derived.Test.YtmokhopjnjecbaaSizedGen
import Derived.Test.YtmokhopjnjecbaaDecVer
import Derived.ProofKit
import Derived.OpenShut
import Derived.ShutString
import Derived.ChangeOld
import Derived.ChangeMaps5
import Derived.Below
import Derived.SizedLaws
namespace Go.Proofs.Ytmokhopjnjecbaa.versionSeen
open Go.ChangeShapes Go.WideShapes Go.ChangeAt Go.RowKit
open Go.Ev (PCalls Rep Reps none4 avs)
set_option linter.unusedVariables false
set_option maxRecDepth 100000
theorem own : ownKnob Try.prog.godebug = none := by kernel_rfl
theorem laidOut : laidOutB Try.prog = true := by kernel_rfl
theorem lifted (os : Os) (started : os.Started) (H : Type) (enc : TypeId × Value → H) :
    ReturnsInHanded {} Try.checked os 14 .any (Rows.versionSeenSpec.pre6 enc Try.prog Try.f14 Rows.versionSeenRow.domain false) (Rows.versionSeenSpec.post enc Try.prog Try.f14 false true false false) := by
  refine returnsInHanded_of_change_sized (C := Try.checked) own started (by kernel_rfl) Try.func14
    (ChangeSpec.witness6 (enc := enc) (C := Try.checked) false ⟨#[], #[.slice none 0 0], []⟩ 8 (by kernel_rfl) (by kernel_rfl) (by kernel_rfl) (by kernel_rfl)) ?_
  intro W base args ds gs before hval0 hW hcnd hsz0 _
  have hval : ∀ (j : Nat) t v, Try.f14.params[j]? = some t → args[j]? = some v → Value.okWide Try.prog W .any base t v := hval0
  have hW' := hW
  obtain ⟨p, q, hA0, hV, rfl, hfz, hnd⟩ := hW
  have hA : DataW.TrodAll enc Try.prog W 0 (fun _ => true) true Try.f14.params.toList args.toList ds p := hA0
  rw [Try.params14] at hA hval
  obtain ⟨v0, vs0, d0, ds0, p0, q0, hargs, rfl, rfl, h0, r0⟩ := trodAll_cons hA
  obtain ⟨rfl, rfl, rfl⟩ := trodAll_nil r0
  obtain rfl : args = #[v0] := by cases args; simp_all
  obtain ⟨rfl, rfl⟩ := trodVars_none hV
  have k0 := h0
  have lt0 : ∀ x ∈ p0, x.block < W.heap.size := by obtain ⟨m, hm⟩ := k0; exact DataW.trod_lt m _ _ _ hm
  obtain ⟨a0, len0, cap0, rfl⟩ := okWide_slice Try.underlying67 (hval 0 67 v0 rfl rfl)
  obtain ⟨x0, hxc0, hrep0⟩ := Go.Ev.rep_slice [65,63] (by kernel_rfl) Try.underlying67 (by decide) h0
  obtain ⟨z0, hz0⟩ := dec_vers Try.underlying63 (by kernel_rfl) Try.underlying65 (by kernel_rfl) hxc0
  obtain ⟨hz0, hy0⟩ := hz0
  rw [hz0] at hrep0
  refine ((versionSeen_calls z0 hy0).calls (fun _ => False) W [.slice a0 len0 cap0] (fun _ h => h.elim) (.cons hrep0 .nil)).mono fun e W' he => ?_
  obtain ⟨v, rfl, bel, hv⟩ := he
  cases hv
  exact ⟨_, rfl, _, _, _, [], _, [], hW', trodAll_mk1 (shut_bool Try.underlying4 _), (trodAll_cons_mk (Below.trod laidOut (by kernel_rfl) (of_decide_eq_true (by kernel_rfl)) k0 bel lt0) trodAll_mk0), rfl, bel.frame _, fun h => by cases h⟩
theorem over : Rows.versionSeenRow.holds Try.pinned (OpenSpec.ofChange Rows.versionSeenSpec) :=
  OpenClaim.holds_of_wide 14 Try.f14 rfl rfl rfl rfl rfl rfl rfl ⟨rfl, rfl, rfl, rfl, rfl⟩ rfl rfl rfl rfl rfl (by kernel_rfl) Try.func14 (by kernel_rfl)
    (of_decide_eq_true (by kernel_rfl)) (by unfold Func.isWrapper; first | (rw [if_pos (by decide +kernel)]; kernel_rfl) | (rw [if_neg (by decide +kernel)]; exact ⟨rfl, rfl⟩))
    (fun os started H enc _ => lifted os started H enc)
theorem proved : Rows.VersionSeenSaid := over
#print axioms proved
end Go.Proofs.Ytmokhopjnjecbaa.versionSeen
namespace Go.Proofs.Ytmokhopjnjecbaa
/-- The row, under a short name, for the claim. -/
theorem versionSeen_holds : Rows.VersionSeenSaid := versionSeen.proved
end Go.Proofs.Ytmokhopjnjecbaa
