/-
  Proved: VecPoints returns true for every input: the functions on points return what the reference returns, for any points and for their rests by 100. No condition.
-/
import Derived.Test.YtofnohnjmakjmaaPoints
import Derived.Test.YtofnohnjmakjmaaRow
namespace Go.Proofs.Ytofnohnjmakjmaa
open Go.ChangeShapes Go.WideShapes Go.ChangeAt Go.RowKit
set_option linter.unusedVariables false

set_option maxRecDepth 100000 in
theorem vecPoints_lifted (os : Os) (started : os.Started) (H : Type) (enc : TypeId × Value → H) :
    ReturnsInHanded {} Try.checked os 3 .any (Rows.vecPointsSpec.pre6 enc Try.prog Try.f3 Rows.vecPointsRow.domain false) (Rows.vecPointsSpec.post enc Try.prog Try.f3 false true false false) := by
  refine returnsInHanded_of_change (C := Try.checked) own started (by kernel_rfl) Try.func3
    (ChangeSpec.witness6 (enc := enc) (C := Try.checked) false ⟨#[], #[.agg #[.int .i64 0, .int .i64 0, .int .i64 0, .int .i64 0, .int .i64 0, .int .i64 0]], []⟩ 8 (by kernel_rfl) (by kernel_rfl) (by kernel_rfl) (by kernel_rfl)) ?_
  intro W base args ds gs before hval0 hW hcnd _
  have hval : ∀ (j : Nat) t v, Try.f3.params[j]? = some t → args[j]? = some v → Value.okWide Try.prog W .any base t v := hval0
  have hW' := hW
  obtain ⟨p, q, hA0, hV, rfl, hfz, hnd⟩ := hW
  have hA : DataW.TrodAll enc Try.prog W 0 (fun _ => true) true Try.f3.params.toList args.toList ds p := hA0
  rw [Try.params3] at hA hval
  obtain ⟨v0, vs0, d0, ds0, p0, q0, hargs, rfl, rfl, h0, r0⟩ := trodAll_cons hA
  obtain ⟨rfl, rfl, rfl⟩ := trodAll_nil r0
  obtain rfl : args = #[v0] := by cases args; simp_all
  obtain ⟨cs0, rfl, l0⟩ := open_plain 9 (ls := [some .i64, some .i64, some .i64, some .i64, some .i64, some .i64]) (by kernel_rfl) (.inr ⟨_, _, Try.underlying24⟩) (hval 0 24 v0 rfl rfl) h0
  obtain ⟨ax, cs0_0, rfl, wax, l0_0⟩ := leaf_int l0
  obtain ⟨ay, cs0_1, rfl, way, l0_1⟩ := leaf_int l0_0
  obtain ⟨bx, cs0_2, rfl, wbx, l0_2⟩ := leaf_int l0_1
  obtain ⟨by', cs0_3, rfl, wby', l0_3⟩ := leaf_int l0_2
  obtain ⟨cx, cs0_4, rfl, wcx, l0_4⟩ := leaf_int l0_3
  obtain ⟨cy, cs0_5, rfl, wcy, l0_5⟩ := leaf_int l0_4
  obtain rfl := leaf_nil l0_5
  clear hA0 hval0
  refine (vecPoints ax ay bx by' cx cy W).mono fun e W' ⟨he, hb⟩ => ?_
  subst he
  exact ⟨_, rfl, law_post hW' rfl rfl laidOut (by rw [Try.params3]; exact List.forall_mem_cons.2 ⟨⟨by kernel_rfl, of_decide_eq_true (by kernel_rfl)⟩, List.forall_mem_nil _⟩) rfl Try.underlying4 hb⟩
theorem vecPoints_holds : Rows.VecPointsSaid :=
  OpenClaim.holds_of_wide 3 Try.f3 rfl rfl rfl rfl rfl rfl rfl ⟨rfl, rfl, rfl, rfl, rfl⟩ rfl rfl rfl rfl rfl (by kernel_rfl) Try.func3 (by kernel_rfl)
    (of_decide_eq_true (by kernel_rfl)) (by unfold Func.isWrapper; first | (rw [if_pos (by decide +kernel)]; kernel_rfl) | (rw [if_neg (by decide +kernel)]; exact ⟨rfl, rfl⟩))
    (fun os started H enc _ => vecPoints_lifted os started H enc)
#print axioms vecPoints_holds
end Go.Proofs.Ytofnohnjmakjmaa
