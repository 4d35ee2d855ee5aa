/-
  Proved: EdgeBoxes returns true for every input: an edge lies in its box, and rays cross it as its ends say. No condition.
-/
import Derived.Test.YtmhhigaelofbmaaOpt
import Derived.Test.YtmhhigaelofbmaaEdgeBoxesW
import Derived.Test.YtmhhigaelofbmaaEdgeBoxesP
namespace Go.Proofs.Ytmhhigaelofbmaa
open Go.ChangeShapes Go.WideShapes Go.ChangeAt Go.RowKit
set_option linter.unusedVariables false
set_option maxRecDepth 100000 in
theorem edgeBoxes_lifted (os : Os) (started : os.Started) (H : Type) (enc : TypeId × Value → H) :
    ReturnsInHanded {} Try.checked os 6 .any (Rows.edgeBoxesSpec.pre6 enc Try.prog Try.f6 Rows.edgeBoxesRow.domain false) (Rows.edgeBoxesSpec.post enc Try.prog Try.f6 false true false false) := by
  refine returnsInHanded_of_change (C := Try.checked) own started (by kernel_rfl) Try.func6
    (ChangeSpec.witness6 (enc := enc) (C := Try.checked) false ⟨#[], #[.slice none 0 0, .slice none 0 0], []⟩ 8 (by kernel_rfl) (by kernel_rfl) (by kernel_rfl) (by kernel_rfl)) ?_
  intro W base args ds gs before hval0 hW hcnd _
  have hval : ∀ (j : Nat) t v, Try.f6.params[j]? = some t → args[j]? = some v → Value.okWide Try.prog W .any base t v := hval0
  have hW' := hW
  obtain ⟨p, q, hA0, hV, rfl, hfz, hnd⟩ := hW
  have hA : DataW.TrodAll enc Try.prog W 0 (fun _ => true) true Try.f6.params.toList args.toList ds p := hA0
  rw [Try.params6] at hA hval
  obtain ⟨v0, vs0, d0, ds0, p0, q0, hargs, rfl, rfl, h0, r0⟩ := trodAll_cons hA
  obtain ⟨v1, vs1, d1, ds1, p1, q1, rfl, rfl, rfl, h1, r1⟩ := trodAll_cons r0
  obtain ⟨rfl, rfl, rfl⟩ := trodAll_nil r1
  obtain rfl : args = #[v0, v1] := by cases args; simp_all
  obtain ⟨l, kl, x0⟩ := open_one opT22 (.inl ⟨_, Try.underlying22⟩) (hval 0 22 v0 rfl rfl) h0
  obtain ⟨m, km, x1⟩ := open_one opT22 (.inl ⟨_, Try.underlying22⟩) (hval 1 22 v1 rfl rfl) h1
  clear hA0 hval0
  refine (law_of_pure (pEdgeBoxes l m (maxLen_i kl.1) (maxLen_i km.1)) (edgeBoxes_true l m) (.cons x0 (.cons x1 .nil))).mono fun e W' ⟨he, hb⟩ => ?_
  subst he
  exact ⟨_, rfl, law_post hW' rfl rfl laidOut (by rw [Try.params6]; exact List.forall_mem_cons.2 ⟨⟨by kernel_rfl, of_decide_eq_true (by kernel_rfl)⟩, List.forall_mem_cons.2 ⟨⟨by kernel_rfl, of_decide_eq_true (by kernel_rfl)⟩, List.forall_mem_nil _⟩⟩) rfl Try.underlying4 hb⟩
theorem edgeBoxes_holds : Rows.EdgeBoxesSaid :=
  OpenClaim.holds_of_wide 6 Try.f6 rfl rfl rfl rfl rfl rfl rfl ⟨rfl, rfl, rfl, rfl, rfl⟩ rfl rfl rfl rfl rfl (by kernel_rfl) Try.func6 (by kernel_rfl)
    (of_decide_eq_true (by kernel_rfl)) (by unfold Func.isWrapper; first | (rw [if_pos (by decide +kernel)]; kernel_rfl) | (rw [if_neg (by decide +kernel)]; exact ⟨rfl, rfl⟩))
    (fun os started H enc _ => edgeBoxes_lifted os started H enc)
#print axioms edgeBoxes_holds
end Go.Proofs.Ytmhhigaelofbmaa
