/-
  Proved: LengthAround returns true for every input: a way round about is not shorter, and an arc lies between its chord and the way along the axes. No condition but that of the row itself.
-/
import Derived.Test.YtgmhnkoifdpemaaOpt
import Derived.Test.YtgmhnkoifdpemaaLengthAroundW
import Derived.Test.YtgmhnkoifdpemaaLengthAroundP
namespace Go.Proofs.Ytgmhnkoifdpemaa
open Go.ChangeShapes Go.WideShapes Go.ChangeAt Go.RowKit
set_option linter.unusedVariables false
set_option maxRecDepth 100000 in
theorem lengthAround_lifted (os : Os) (started : os.Started) (H : Type) (enc : TypeId × Value → H) :
    ReturnsInHanded {} Try.checked os 5 .any (Rows.lengthAroundSpec.pre6 enc Try.prog Try.f5 Rows.lengthAroundRow.domain false) (Rows.lengthAroundSpec.post enc Try.prog Try.f5 false true false false) := by
  refine returnsInHanded_of_change (C := Try.checked) own started (by kernel_rfl) Try.func5
    (ChangeSpec.witness6 (enc := enc) (C := Try.checked) false ⟨#[], #[.agg #[.int .i64 0, .int .i64 0], .agg #[.int .i64 0, .int .i64 0], .agg #[.int .i64 0, .int .i64 0]], []⟩ 8 (by kernel_rfl) (by kernel_rfl) (by kernel_rfl) (by kernel_rfl)) ?_
  intro W base args ds gs before hval0 hW hcnd _
  have hval : ∀ (j : Nat) t v, Try.f5.params[j]? = some t → args[j]? = some v → Value.okWide Try.prog W .any base t v := hval0
  have hW' := hW
  obtain ⟨p, q, hA0, hV, rfl, hfz, hnd⟩ := hW
  have hA : DataW.TrodAll enc Try.prog W 0 (fun _ => true) true Try.f5.params.toList args.toList ds p := hA0
  rw [Try.params5] at hA hval
  obtain ⟨v0, vs0, d0, ds0, p0, q0, hargs, rfl, rfl, h0, r0⟩ := trodAll_cons hA
  obtain ⟨v1, vs1, d1, ds1, p1, q1, rfl, rfl, rfl, h1, r1⟩ := trodAll_cons r0
  obtain ⟨v2, vs2, d2, ds2, p2, q2, rfl, rfl, rfl, h2, r2⟩ := trodAll_cons r1
  obtain ⟨rfl, rfl, rfl⟩ := trodAll_nil r2
  obtain rfl : args = #[v0, v1, v2] := by cases args; simp_all
  obtain ⟨a, ka, x0⟩ := open_agg opT31 (.inl ⟨_, Try.underlying31⟩) (hval 0 31 v0 rfl rfl) h0
  obtain ⟨b, kb, x1⟩ := open_agg opT31 (.inl ⟨_, Try.underlying31⟩) (hval 1 31 v1 rfl rfl) h1
  obtain ⟨c, kc, x2⟩ := open_agg opT31 (.inl ⟨_, Try.underlying31⟩) (hval 2 31 v2 rfl rfl) h2
  clear hA0 hval0
  refine (law_of_pure (pLengthAround a b c) (lengthAround_true a b c) (.cons x0 (.cons x1 (.cons x2 .nil)))).mono fun e W' ⟨he, hb⟩ => ?_
  subst he
  exact ⟨_, rfl, law_post hW' rfl rfl laidOut (by rw [Try.params5]; exact List.forall_mem_cons.2 ⟨⟨by kernel_rfl, of_decide_eq_true (by kernel_rfl)⟩, List.forall_mem_cons.2 ⟨⟨by kernel_rfl, of_decide_eq_true (by kernel_rfl)⟩, List.forall_mem_cons.2 ⟨⟨by kernel_rfl, of_decide_eq_true (by kernel_rfl)⟩, List.forall_mem_nil _⟩⟩⟩) rfl Try.underlying4 hb⟩
theorem lengthAround_holds : Rows.LengthAroundSaid :=
  OpenClaim.holds_of_wide 5 Try.f5 rfl rfl rfl rfl rfl rfl rfl ⟨rfl, rfl, rfl, rfl, rfl⟩ rfl rfl rfl rfl rfl (by kernel_rfl) Try.func5 (by kernel_rfl)
    (of_decide_eq_true (by kernel_rfl)) (by unfold Func.isWrapper; first | (rw [if_pos (by decide +kernel)]; kernel_rfl) | (rw [if_neg (by decide +kernel)]; exact ⟨rfl, rfl⟩))
    (fun os started H enc _ => lengthAround_lifted os started H enc)
#print axioms lengthAround_holds
end Go.Proofs.Ytgmhnkoifdpemaa
