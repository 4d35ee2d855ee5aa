/-
  Proved: VecKeeps returns true for every input: motions keep products of differences, and sides, up to the sign that mirroring turns. No condition.
-/
import Derived.Test.YtofnohnjmakjmaaKeeps
import Derived.Test.YtofnohnjmakjmaaRow
namespace Go.Proofs.Ytofnohnjmakjmaa
open Go.ChangeShapes Go.WideShapes Go.ChangeAt Go.RowKit
set_option linter.unusedVariables false

set_option maxRecDepth 100000 in
theorem vecKeeps_lifted (os : Os) (started : os.Started) (H : Type) (enc : TypeId × Value → H) :
    ReturnsInHanded {} Try.checked os 6 .any (Rows.vecKeepsSpec.pre6 enc Try.prog Try.f6 Rows.vecKeepsRow.domain false) (Rows.vecKeepsSpec.post enc Try.prog Try.f6 false true false false) := by
  refine returnsInHanded_of_change (C := Try.checked) own started (by kernel_rfl) Try.func6
    (ChangeSpec.witness6 (enc := enc) (C := Try.checked) false ⟨#[], #[.agg #[.int .i64 0, .int .i64 0, .int .i64 0, .bool false], .agg #[.int .i64 0, .int .i64 0, .int .i64 0, .int .i64 0, .int .i64 0, .int .i64 0]], []⟩ 8 (by kernel_rfl) (by kernel_rfl) (by kernel_rfl) (by kernel_rfl)) ?_
  intro W base args ds gs before hval0 hW hcnd _
  have hval : ∀ (j : Nat) t v, Try.f6.params[j]? = some t → args[j]? = some v → Value.okWide Try.prog W .any base t v := hval0
  have hW' := hW
  obtain ⟨p, q, hA0, hV, rfl, hfz, hnd⟩ := hW
  have hA : DataW.TrodAll enc Try.prog W 0 (fun _ => true) true Try.f6.params.toList args.toList ds p := hA0
  rw [Try.params6] at hA hval
  obtain ⟨v0, vs0, d0, ds0, p0, q0, hargs, rfl, rfl, h0, r0⟩ := trodAll_cons hA
  obtain ⟨v1, vs1, d1, ds1, p1, q1, rfl, rfl, rfl, h1, r1⟩ := trodAll_cons r0
  obtain ⟨rfl, rfl, rfl⟩ := trodAll_nil r1
  obtain rfl : args = #[v0, v1] := by cases args; simp_all
  obtain ⟨cs0, rfl, l0⟩ := open_plain 9 (ls := [some .i64, some .i64, some .i64, none]) (by kernel_rfl) (.inl ⟨_, Try.underlying34⟩) (hval 0 34 v0 rfl rfl) h0
  obtain ⟨rX, cs0_0, rfl, wrX, l0_0⟩ := leaf_int l0
  obtain ⟨rY, cs0_1, rfl, wrY, l0_1⟩ := leaf_int l0_0
  obtain ⟨t, cs0_2, rfl, wt, l0_2⟩ := leaf_int l0_1
  obtain ⟨m, cs0_3, rfl, l0_3⟩ := leaf_bool l0_2
  obtain rfl := leaf_nil l0_3
  obtain ⟨cs1, rfl, l1⟩ := open_plain 9 (ls := [some .i64, some .i64, some .i64, some .i64, some .i64, some .i64]) (by kernel_rfl) (.inr ⟨_, _, Try.underlying24⟩) (hval 1 24 v1 rfl rfl) h1
  obtain ⟨rx0, cs1_0, rfl, wrx0, l1_0⟩ := leaf_int l1
  obtain ⟨ry0, cs1_1, rfl, wry0, l1_1⟩ := leaf_int l1_0
  obtain ⟨rx1, cs1_2, rfl, wrx1, l1_2⟩ := leaf_int l1_1
  obtain ⟨ry1, cs1_3, rfl, wry1, l1_3⟩ := leaf_int l1_2
  obtain ⟨rx2, cs1_4, rfl, wrx2, l1_4⟩ := leaf_int l1_3
  obtain ⟨ry2, cs1_5, rfl, wry2, l1_5⟩ := leaf_int l1_4
  obtain rfl := leaf_nil l1_5
  clear hA0 hval0
  refine (vecKeeps rX rY t m rx0 ry0 rx1 ry1 rx2 ry2 W).mono fun e W' ⟨he, hb⟩ => ?_
  subst he
  exact ⟨_, rfl, law_post hW' rfl rfl laidOut (by rw [Try.params6]; exact List.forall_mem_cons.2 ⟨⟨by kernel_rfl, of_decide_eq_true (by kernel_rfl)⟩, List.forall_mem_cons.2 ⟨⟨by kernel_rfl, of_decide_eq_true (by kernel_rfl)⟩, List.forall_mem_nil _⟩⟩) rfl Try.underlying4 hb⟩
theorem vecKeeps_holds : Rows.VecKeepsSaid :=
  OpenClaim.holds_of_wide 6 Try.f6 rfl rfl rfl rfl rfl rfl rfl ⟨rfl, rfl, rfl, rfl, rfl⟩ rfl rfl rfl rfl rfl (by kernel_rfl) Try.func6 (by kernel_rfl)
    (of_decide_eq_true (by kernel_rfl)) (by unfold Func.isWrapper; first | (rw [if_pos (by decide +kernel)]; kernel_rfl) | (rw [if_neg (by decide +kernel)]; exact ⟨rfl, rfl⟩))
    (fun os started H enc _ => vecKeeps_lifted os started H enc)
#print axioms vecKeeps_holds
end Go.Proofs.Ytofnohnjmakjmaa
