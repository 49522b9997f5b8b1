/- THE LAW VersionBehind: whatever two versions, which one is behind which one is told by what had happened alone: the row's function answers true and leaves memory as it was.
   The walks step through the compiled bodies; here the row's reading of the arguments is opened and the answer shut. -/
import Derived.Test.YtmokhopjnjecbaaWVer3
import Derived.Test.YtmokhopjnjecbaaSizedGen
import Derived.Test.YtmokhopjnjecbaaDecVer
import Derived.ProofKit
import Derived.OpenShut
import Derived.ShutString
import Derived.ChangeOld
import Derived.ChangeMaps5
import Derived.Below
import Derived.SizedLaws
namespace Go.Proofs.Ytmokhopjnjecbaa.versionBehind
open Go.ChangeShapes Go.WideShapes Go.ChangeAt Go.RowKit
open Go.Ev (PCalls Rep Reps none4 avs)
set_option linter.unusedVariables false
set_option maxRecDepth 100000
theorem own : ownKnob Try.prog.godebug = none := by kernel_rfl
theorem laidOut : laidOutB Try.prog = true := by kernel_rfl
theorem lifted (os : Os) (started : os.Started) (H : Type) (enc : TypeId × Value → H) :
    ReturnsInHanded {} Try.checked os 9 .any (Rows.versionBehindSpec.pre6 enc Try.prog Try.f9 Rows.versionBehindRow.domain false) (Rows.versionBehindSpec.post enc Try.prog Try.f9 false true false false) := by
  refine returnsInHanded_of_change_sized (C := Try.checked) own started (by kernel_rfl) Try.func9
    (ChangeSpec.witness6 (enc := enc) (C := Try.checked) false ⟨#[], #[.agg #[.int .i64 0, .int .i64 0, .string ⟨#[]⟩, .string ⟨#[]⟩, .bool false, .int .i64 0, .slice none 0 0], .agg #[.int .i64 0, .int .i64 0, .string ⟨#[]⟩, .string ⟨#[]⟩, .bool false, .int .i64 0, .slice none 0 0]], []⟩ 8 (by kernel_rfl) (by kernel_rfl) (by kernel_rfl) (by kernel_rfl)) ?_
  intro W base args ds gs before hval0 hW hcnd hsz0 _
  have hval : ∀ (j : Nat) t v, Try.f9.params[j]? = some t → args[j]? = some v → Value.okWide Try.prog W .any base t v := hval0
  have hW' := hW
  obtain ⟨p, q, hA0, hV, rfl, hfz, hnd⟩ := hW
  have hA : DataW.TrodAll enc Try.prog W 0 (fun _ => true) true Try.f9.params.toList args.toList ds p := hA0
  rw [Try.params9] at hA hval
  obtain ⟨v0, vs0, d0, ds0, p0, q0, hargs, rfl, rfl, h0, r0⟩ := trodAll_cons hA
  obtain ⟨v1, vs1, d1, ds1, p1, q1, rfl, rfl, rfl, h1, r1⟩ := trodAll_cons r0
  obtain ⟨rfl, rfl, rfl⟩ := trodAll_nil r1
  obtain rfl : args = #[v0, v1] := by cases args; simp_all
  obtain ⟨rfl, rfl⟩ := trodVars_none hV
  have k0 := h0
  have lt0 : ∀ x ∈ p0, x.block < W.heap.size := by obtain ⟨m, hm⟩ := k0; exact DataW.trod_lt m _ _ _ hm
  obtain ⟨a0, rfl, _⟩ := okWide_struct Try.underlying65 (hval 0 65 v0 rfl rfl)
  obtain ⟨xs0, hxl0, hxc0, hrep0⟩ := Go.Ev.rep_struct [63] (by kernel_rfl) (show Go.Ev.shapes Try.prog 9 65 = some [.int .i64, .int .i64, .str, .str, .bool, .int .i64, .sl 63] by kernel_rfl) (by intro e he; simp at he ⊢; first | omega | exact he | (rcases he with rfl | rfl <;> simp)) h0
  obtain ⟨z0, hz0⟩ := dec_vcells Try.underlying63 (by kernel_rfl) hxl0 hxc0
  rw [hz0] at hrep0
  have k1 := h1
  have lt1 : ∀ x ∈ p1, x.block < W.heap.size := by obtain ⟨m, hm⟩ := k1; exact DataW.trod_lt m _ _ _ hm
  obtain ⟨a1, rfl, _⟩ := okWide_struct Try.underlying65 (hval 1 65 v1 rfl rfl)
  obtain ⟨xs1, hxl1, hxc1, hrep1⟩ := Go.Ev.rep_struct [63] (by kernel_rfl) (show Go.Ev.shapes Try.prog 9 65 = some [.int .i64, .int .i64, .str, .str, .bool, .int .i64, .sl 63] by kernel_rfl) (by intro e he; simp at he ⊢; first | omega | exact he | (rcases he with rfl | rfl <;> simp)) h1
  obtain ⟨z1, hz1⟩ := dec_vcells Try.underlying63 (by kernel_rfl) hxl1 hxc1
  rw [hz1] at hrep1
  refine ((versionBehind_calls z0 z1).calls (fun _ => False) W [.agg a0, .agg a1] (fun _ h => h.elim) (.cons hrep0 (.cons hrep1 .nil))).mono fun e W' he => ?_
  obtain ⟨v, rfl, bel, hv⟩ := he
  cases hv
  exact ⟨_, rfl, _, _, _, [], _, [], hW', trodAll_mk1 (shut_bool Try.underlying4 _), (trodAll_cons_mk (Below.trod laidOut (by kernel_rfl) (of_decide_eq_true (by kernel_rfl)) k0 bel lt0) (trodAll_cons_mk (Below.trod laidOut (by kernel_rfl) (of_decide_eq_true (by kernel_rfl)) k1 bel lt1) trodAll_mk0)), rfl, bel.frame _, fun h => by cases h⟩
theorem over : Rows.versionBehindRow.holds Try.pinned (OpenSpec.ofChange Rows.versionBehindSpec) :=
  OpenClaim.holds_of_wide 9 Try.f9 rfl rfl rfl rfl rfl rfl rfl ⟨rfl, rfl, rfl, rfl, rfl⟩ rfl rfl rfl rfl rfl (by kernel_rfl) Try.func9 (by kernel_rfl)
    (of_decide_eq_true (by kernel_rfl)) (by unfold Func.isWrapper; first | (rw [if_pos (by decide +kernel)]; kernel_rfl) | (rw [if_neg (by decide +kernel)]; exact ⟨rfl, rfl⟩))
    (fun os started H enc _ => lifted os started H enc)
theorem proved : Rows.VersionBehindSaid := over
#print axioms proved
end Go.Proofs.Ytmokhopjnjecbaa.versionBehind
namespace Go.Proofs.Ytmokhopjnjecbaa
/-- The row, under a short name, for the claim. -/
theorem versionBehind_holds : Rows.VersionBehindSaid := versionBehind.proved
end Go.Proofs.Ytmokhopjnjecbaa
