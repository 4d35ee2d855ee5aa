/-
  Proved: VecComposes returns true for every input: a composed motion does what its motions do one after the other, an inverse one undoes it, composing is associative. No condition.
-/
import Derived.Test.YtofnohnjmakjmaaComposes
import Derived.Test.YtofnohnjmakjmaaRow
namespace Go.Proofs.Ytofnohnjmakjmaa
open Go.ChangeShapes Go.WideShapes Go.ChangeAt Go.RowKit
set_option linter.unusedVariables false

set_option maxRecDepth 100000 in
theorem vecComposes_lifted (os : Os) (started : os.Started) (H : Type) (enc : TypeId × Value → H) :
    ReturnsInHanded {} Try.checked os 5 .any (Rows.vecComposesSpec.pre6 enc Try.prog Try.f5 Rows.vecComposesRow.domain false) (Rows.vecComposesSpec.post enc Try.prog Try.f5 false true false false) := by
  refine returnsInHanded_of_change (C := Try.checked) own started (by kernel_rfl) Try.func5
    (ChangeSpec.witness6 (enc := enc) (C := Try.checked) false ⟨#[], #[.agg #[.int .i64 0, .int .i64 0, .int .i64 0, .bool false], .agg #[.int .i64 0, .int .i64 0, .int .i64 0, .bool false], .agg #[.int .i64 0, .int .i64 0, .int .i64 0, .bool false, .int .i64 0, .int .i64 0]], []⟩ 8 (by kernel_rfl) (by kernel_rfl) (by kernel_rfl) (by kernel_rfl)) ?_
  intro W base args ds gs before hval0 hW hcnd _
  have hval : ∀ (j : Nat) t v, Try.f5.params[j]? = some t → args[j]? = some v → Value.okWide Try.prog W .any base t v := hval0
  have hW' := hW
  obtain ⟨p, q, hA0, hV, rfl, hfz, hnd⟩ := hW
  have hA : DataW.TrodAll enc Try.prog W 0 (fun _ => true) true Try.f5.params.toList args.toList ds p := hA0
  rw [Try.params5] at hA hval
  obtain ⟨v0, vs0, d0, ds0, p0, q0, hargs, rfl, rfl, h0, r0⟩ := trodAll_cons hA
  obtain ⟨v1, vs1, d1, ds1, p1, q1, rfl, rfl, rfl, h1, r1⟩ := trodAll_cons r0
  obtain ⟨v2, vs2, d2, ds2, p2, q2, rfl, rfl, rfl, h2, r2⟩ := trodAll_cons r1
  obtain ⟨rfl, rfl, rfl⟩ := trodAll_nil r2
  obtain rfl : args = #[v0, v1, v2] := by cases args; simp_all
  obtain ⟨cs0, rfl, l0⟩ := open_plain 9 (ls := [some .i64, some .i64, some .i64, none]) (by kernel_rfl) (.inl ⟨_, Try.underlying34⟩) (hval 0 34 v0 rfl rfl) h0
  obtain ⟨x, cs0_0, rfl, wx, l0_0⟩ := leaf_int l0
  obtain ⟨y, cs0_1, rfl, wy, l0_1⟩ := leaf_int l0_0
  obtain ⟨t, cs0_2, rfl, wt, l0_2⟩ := leaf_int l0_1
  obtain ⟨m, cs0_3, rfl, l0_3⟩ := leaf_bool l0_2
  obtain rfl := leaf_nil l0_3
  obtain ⟨cs1, rfl, l1⟩ := open_plain 9 (ls := [some .i64, some .i64, some .i64, none]) (by kernel_rfl) (.inl ⟨_, Try.underlying34⟩) (hval 1 34 v1 rfl rfl) h1
  obtain ⟨x', cs1_0, rfl, wx', l1_0⟩ := leaf_int l1
  obtain ⟨y', cs1_1, rfl, wy', l1_1⟩ := leaf_int l1_0
  obtain ⟨t', cs1_2, rfl, wt', l1_2⟩ := leaf_int l1_1
  obtain ⟨m', cs1_3, rfl, l1_3⟩ := leaf_bool l1_2
  obtain rfl := leaf_nil l1_3
  obtain ⟨cs2, rfl, l2⟩ := open_plain 9 (ls := [some .i64, some .i64, some .i64, none, some .i64, some .i64]) (by kernel_rfl) (.inl ⟨_, Try.underlying40⟩) (hval 2 40 v2 rfl rfl) h2
  obtain ⟨ox, cs2_0, rfl, wox, l2_0⟩ := leaf_int l2
  obtain ⟨oy, cs2_1, rfl, woy, l2_1⟩ := leaf_int l2_0
  obtain ⟨ot, cs2_2, rfl, wot, l2_2⟩ := leaf_int l2_1
  obtain ⟨om, cs2_3, rfl, l2_3⟩ := leaf_bool l2_2
  obtain ⟨px, cs2_4, rfl, wpx, l2_4⟩ := leaf_int l2_3
  obtain ⟨py, cs2_5, rfl, wpy, l2_5⟩ := leaf_int l2_4
  obtain rfl := leaf_nil l2_5
  clear hA0 hval0
  refine (vecComposes x y t m x' y' t' m' ox oy ot om px py (r64_of_wf wx) (r64_of_wf wy) (r64_of_wf wx') (r64_of_wf wy') (r64_of_wf wox) (r64_of_wf woy) (r64_of_wf wpx) (r64_of_wf wpy) W).mono fun e W' ⟨he, hb⟩ => ?_
  subst he
  exact ⟨_, rfl, law_post hW' rfl rfl laidOut (by rw [Try.params5]; exact List.forall_mem_cons.2 ⟨⟨by kernel_rfl, of_decide_eq_true (by kernel_rfl)⟩, List.forall_mem_cons.2 ⟨⟨by kernel_rfl, of_decide_eq_true (by kernel_rfl)⟩, List.forall_mem_cons.2 ⟨⟨by kernel_rfl, of_decide_eq_true (by kernel_rfl)⟩, List.forall_mem_nil _⟩⟩⟩) rfl Try.underlying4 hb⟩
theorem vecComposes_holds : Rows.VecComposesSaid :=
  OpenClaim.holds_of_wide 5 Try.f5 rfl rfl rfl rfl rfl rfl rfl ⟨rfl, rfl, rfl, rfl, rfl⟩ rfl rfl rfl rfl rfl (by kernel_rfl) Try.func5 (by kernel_rfl)
    (of_decide_eq_true (by kernel_rfl)) (by unfold Func.isWrapper; first | (rw [if_pos (by decide +kernel)]; kernel_rfl) | (rw [if_neg (by decide +kernel)]; exact ⟨rfl, rfl⟩))
    (fun os started H enc _ => vecComposes_lifted os started H enc)
#print axioms vecComposes_holds
end Go.Proofs.Ytofnohnjmakjmaa
