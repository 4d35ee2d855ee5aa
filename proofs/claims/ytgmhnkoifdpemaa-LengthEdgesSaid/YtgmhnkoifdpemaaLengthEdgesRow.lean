/-
  Proved: LengthEdges returns true for every input: Edge and Shape are those of the reference. No condition but that of the row itself.
-/
import Derived.Test.YtgmhnkoifdpemaaOpt
import Derived.Test.YtgmhnkoifdpemaaLengthEdgesW
import Derived.Test.YtgmhnkoifdpemaaLengthEdgesP
namespace Go.Proofs.Ytgmhnkoifdpemaa
open Go.ChangeShapes Go.WideShapes Go.ChangeAt Go.RowKit
set_option linter.unusedVariables false
set_option maxRecDepth 100000 in
theorem lengthEdges_lifted (os : Os) (started : os.Started) (H : Type) (enc : TypeId × Value → H) :
    ReturnsInHanded {} Try.checked os 4 .any (Rows.lengthEdgesSpec.pre6 enc Try.prog Try.f4 Rows.lengthEdgesRow.domain false) (Rows.lengthEdgesSpec.post enc Try.prog Try.f4 false true false false) := by
  refine returnsInHanded_of_change (C := Try.checked) own started (by kernel_rfl) Try.func4
    (ChangeSpec.witness6 (enc := enc) (C := Try.checked) false ⟨#[], #[.agg #[.slice none 0 0, .slice none 0 0, .slice none 0 0, .int .i64 0, .int .i64 0, .int .i64 0], .agg #[.int .i64 0, .int .i64 0, .int .i64 0, .int .i64 0, .int .i64 0, .int .i64 0, .int .i64 0, .int .i64 0, .slice none 0 0, .int .i64 0], .int .u8 0], []⟩ 8 (by kernel_rfl) (by kernel_rfl) (by kernel_rfl) (by kernel_rfl)) ?_
  intro W base args ds gs before hval0 hW hcnd _
  have hval : ∀ (j : Nat) t v, Try.f4.params[j]? = some t → args[j]? = some v → Value.okWide Try.prog W .any base t v := hval0
  have hW' := hW
  obtain ⟨p, q, hA0, hV, rfl, hfz, hnd⟩ := hW
  have hA : DataW.TrodAll enc Try.prog W 0 (fun _ => true) true Try.f4.params.toList args.toList ds p := hA0
  rw [Try.params4] at hA hval
  obtain ⟨v0, vs0, d0, ds0, p0, q0, hargs, rfl, rfl, h0, r0⟩ := trodAll_cons hA
  obtain ⟨v1, vs1, d1, ds1, p1, q1, rfl, rfl, rfl, h1, r1⟩ := trodAll_cons r0
  obtain ⟨v2, vs2, d2, ds2, p2, q2, rfl, rfl, rfl, h2, r2⟩ := trodAll_cons r1
  obtain ⟨rfl, rfl, rfl⟩ := trodAll_nil r2
  obtain rfl : args = #[v0, v1, v2] := by cases args; simp_all
  obtain ⟨c, kc, x0⟩ := open_agg opT29 (.inl ⟨_, Try.underlying29⟩) (hval 0 29 v0 rfl rfl) h0
  obtain ⟨raw, kraw, x1⟩ := open_agg opT38 (.inl ⟨_, Try.underlying38⟩) (hval 1 38 v1 rfl rfl) h1
  obtain ⟨f, kf, x2⟩ := open_one (opens_int Try.underlying5) (.inr (.inl ⟨_, Try.underlying5⟩)) (hval 2 5 v2 rfl rfl) h2
  clear hA0 hval0
  refine (law_of_pure (pLengthEdges c raw f (maxLen_i kc.2.1.1) (maxLen_i kc.1.1) (bounds_u8 kf) (maxLen_i kraw.2.1.2.1.1)) (lengthEdges_true c raw f) (.cons x0 (.cons x1 (.cons x2 .nil)))).mono fun e W' ⟨he, hb⟩ => ?_
  subst he
  exact ⟨_, rfl, law_post hW' rfl rfl laidOut (by rw [Try.params4]; exact List.forall_mem_cons.2 ⟨⟨by kernel_rfl, of_decide_eq_true (by kernel_rfl)⟩, List.forall_mem_cons.2 ⟨⟨by kernel_rfl, of_decide_eq_true (by kernel_rfl)⟩, List.forall_mem_cons.2 ⟨⟨by kernel_rfl, of_decide_eq_true (by kernel_rfl)⟩, List.forall_mem_nil _⟩⟩⟩) rfl Try.underlying4 hb⟩
theorem lengthEdges_holds : Rows.LengthEdgesSaid :=
  OpenClaim.holds_of_wide 4 Try.f4 rfl rfl rfl rfl rfl rfl rfl ⟨rfl, rfl, rfl, rfl, rfl⟩ rfl rfl rfl rfl rfl (by kernel_rfl) Try.func4 (by kernel_rfl)
    (of_decide_eq_true (by kernel_rfl)) (by unfold Func.isWrapper; first | (rw [if_pos (by decide +kernel)]; kernel_rfl) | (rw [if_neg (by decide +kernel)]; exact ⟨rfl, rfl⟩))
    (fun os started H enc _ => lengthEdges_lifted os started H enc)
#print axioms lengthEdges_holds
end Go.Proofs.Ytgmhnkoifdpemaa
