/-
  Proved: LengthSqrt returns true for every input: Sqrt is the square root, rounded down, and equal to that of the reference. No condition but that of the row itself.
-/
import Derived.Test.YtgmhnkoifdpemaaOpt
import Derived.Test.YtgmhnkoifdpemaaLengthSqrtW
import Derived.Test.YtgmhnkoifdpemaaLengthSqrtP
namespace Go.Proofs.Ytgmhnkoifdpemaa
open Go.ChangeShapes Go.WideShapes Go.ChangeAt Go.RowKit
set_option linter.unusedVariables false
set_option maxRecDepth 100000 in
theorem lengthSqrt_lifted (os : Os) (started : os.Started) (H : Type) (enc : TypeId × Value → H) :
    ReturnsInHanded {} Try.checked os 3 .any (Rows.lengthSqrtSpec.pre6 enc Try.prog Try.f3 Rows.lengthSqrtRow.domain false) (Rows.lengthSqrtSpec.post enc Try.prog Try.f3 false true false false) := by
  refine returnsInHanded_of_change (C := Try.checked) own started (by kernel_rfl) Try.func3
    (ChangeSpec.witness6 (enc := enc) (C := Try.checked) false ⟨#[], #[.int .i64 0], []⟩ 8 (by kernel_rfl) (by kernel_rfl) (by kernel_rfl) (by kernel_rfl)) ?_
  intro W base args ds gs before hval0 hW hcnd _
  have hval : ∀ (j : Nat) t v, Try.f3.params[j]? = some t → args[j]? = some v → Value.okWide Try.prog W .any base t v := hval0
  have hW' := hW
  obtain ⟨p, q, hA0, hV, rfl, hfz, hnd⟩ := hW
  have hA : DataW.TrodAll enc Try.prog W 0 (fun _ => true) true Try.f3.params.toList args.toList ds p := hA0
  rw [Try.params3] at hA hval
  obtain ⟨v0, vs0, d0, ds0, p0, q0, hargs, rfl, rfl, h0, r0⟩ := trodAll_cons hA
  obtain ⟨rfl, rfl, rfl⟩ := trodAll_nil r0
  obtain rfl : args = #[v0] := by cases args; simp_all
  obtain ⟨n, kn, x0⟩ := open_one (opens_int Try.underlying3) (.inr (.inl ⟨_, Try.underlying3⟩)) (hval 0 3 v0 rfl rfl) h0
  clear hA0 hval0
  refine (law_of_pure (pLengthSqrt n (bounds_i64 kn)) (lengthSqrt_true n (bounds_i64 kn)) (.cons x0 .nil)).mono fun e W' ⟨he, hb⟩ => ?_
  subst he
  exact ⟨_, rfl, law_post hW' rfl rfl laidOut (by rw [Try.params3]; exact List.forall_mem_cons.2 ⟨⟨by kernel_rfl, of_decide_eq_true (by kernel_rfl)⟩, List.forall_mem_nil _⟩) rfl Try.underlying4 hb⟩
theorem lengthSqrt_holds : Rows.LengthSqrtSaid :=
  OpenClaim.holds_of_wide 3 Try.f3 rfl rfl rfl rfl rfl rfl rfl ⟨rfl, rfl, rfl, rfl, rfl⟩ rfl rfl rfl rfl rfl (by kernel_rfl) Try.func3 (by kernel_rfl)
    (of_decide_eq_true (by kernel_rfl)) (by unfold Func.isWrapper; first | (rw [if_pos (by decide +kernel)]; kernel_rfl) | (rw [if_neg (by decide +kernel)]; exact ⟨rfl, rfl⟩))
    (fun os started H enc _ => lengthSqrt_lifted os started H enc)
#print axioms lengthSqrt_holds
end Go.Proofs.Ytgmhnkoifdpemaa
