/-
  Proved: EdgeMoved returns true for every input: Reverse, Move and Box of an edge are equal to those of the reference. No condition.
-/
import Derived.Test.YtmhhigaelofbmaaEdgeMoved
import Derived.Test.YtmhhigaelofbmaaRow
namespace Go.Proofs.Ytmhhigaelofbmaa
open Go.ChangeShapes Go.WideShapes Go.ChangeAt Go.RowKit
set_option linter.unusedVariables false

set_option maxRecDepth 100000 in
theorem edgeMoved_lifted (os : Os) (started : os.Started) (H : Type) (enc : TypeId × Value → H) :
    ReturnsInHanded {} Try.checked os 9 .any (Rows.edgeMovedSpec.pre6 enc Try.prog Try.f9 Rows.edgeMovedRow.domain false) (Rows.edgeMovedSpec.post enc Try.prog Try.f9 false true false false) := by
  refine returnsInHanded_of_change (C := Try.checked) own started (by kernel_rfl) Try.func9
    (ChangeSpec.witness6 (enc := enc) (C := Try.checked) false ⟨#[], #[.agg #[.int .i64 0, .int .i64 0, .int .i64 0, .int .i64 0, .int .i64 0, .int .i64 0, .int .i64 0], .agg #[.int .i64 0, .int .i64 0, .int .i64 0, .bool false]], []⟩ 8 (by kernel_rfl) (by kernel_rfl) (by kernel_rfl) (by kernel_rfl)) ?_
  intro W base args ds gs before hval0 hW hcnd _
  have hval : ∀ (j : Nat) t v, Try.f9.params[j]? = some t → args[j]? = some v → Value.okWide Try.prog W .any base t v := hval0
  have hW' := hW
  obtain ⟨p, q, hA0, hV, rfl, hfz, hnd⟩ := hW
  have hA : DataW.TrodAll enc Try.prog W 0 (fun _ => true) true Try.f9.params.toList args.toList ds p := hA0
  rw [Try.params9] at hA hval
  obtain ⟨v0, vs0, d0, ds0, p0, q0, hargs, rfl, rfl, h0, r0⟩ := trodAll_cons hA
  obtain ⟨v1, vs1, d1, ds1, p1, q1, rfl, rfl, rfl, h1, r1⟩ := trodAll_cons r0
  obtain ⟨rfl, rfl, rfl⟩ := trodAll_nil r1
  obtain rfl : args = #[v0, v1] := by cases args; simp_all
  obtain ⟨cs0, rfl, l0⟩ := open_plain 9 (ls := [some .i64, some .i64, some .i64, some .i64, some .i64, some .i64, some .i64]) (by kernel_rfl) (.inl ⟨_, Try.underlying26⟩) (hval 0 26 v0 rfl rfl) h0
  obtain ⟨k, cs0_0, rfl, wk, l0_0⟩ := leaf_int l0
  obtain ⟨ax, cs0_1, rfl, wax, l0_1⟩ := leaf_int l0_0
  obtain ⟨ay, cs0_2, rfl, way, l0_2⟩ := leaf_int l0_1
  obtain ⟨bx, cs0_3, rfl, wbx, l0_3⟩ := leaf_int l0_2
  obtain ⟨by', cs0_4, rfl, wby', l0_4⟩ := leaf_int l0_3
  obtain ⟨cx, cs0_5, rfl, wcx, l0_5⟩ := leaf_int l0_4
  obtain ⟨cy, cs0_6, rfl, wcy, l0_6⟩ := leaf_int l0_5
  obtain rfl := leaf_nil l0_6
  obtain ⟨cs1, rfl, l1⟩ := open_plain 9 (ls := [some .i64, some .i64, some .i64, none]) (by kernel_rfl) (.inl ⟨_, Try.underlying55⟩) (hval 1 55 v1 rfl rfl) h1
  obtain ⟨x, cs1_0, rfl, wx, l1_0⟩ := leaf_int l1
  obtain ⟨y, cs1_1, rfl, wy, l1_1⟩ := leaf_int l1_0
  obtain ⟨t, cs1_2, rfl, wt, l1_2⟩ := leaf_int l1_1
  obtain ⟨m, cs1_3, rfl, l1_3⟩ := leaf_bool l1_2
  obtain rfl := leaf_nil l1_3
  clear hA0 hval0
  refine (edgeMoved k ax ay bx by' cx cy x y t m (r64_of_wf wax) (r64_of_wf way) (r64_of_wf wbx) (r64_of_wf wby') (r64_of_wf wcx) (r64_of_wf wcy) W).mono fun e W' ⟨he, hb⟩ => ?_
  subst he
  exact ⟨_, rfl, law_post hW' rfl rfl laidOut (by rw [Try.params9]; exact List.forall_mem_cons.2 ⟨⟨by kernel_rfl, of_decide_eq_true (by kernel_rfl)⟩, List.forall_mem_cons.2 ⟨⟨by kernel_rfl, of_decide_eq_true (by kernel_rfl)⟩, List.forall_mem_nil _⟩⟩) rfl Try.underlying4 hb⟩
theorem edgeMoved_holds : Rows.EdgeMovedSaid :=
  OpenClaim.holds_of_wide 9 Try.f9 rfl rfl rfl rfl rfl rfl rfl ⟨rfl, rfl, rfl, rfl, rfl⟩ rfl rfl rfl rfl rfl (by kernel_rfl) Try.func9 (by kernel_rfl)
    (of_decide_eq_true (by kernel_rfl)) (by unfold Func.isWrapper; first | (rw [if_pos (by decide +kernel)]; kernel_rfl) | (rw [if_neg (by decide +kernel)]; exact ⟨rfl, rfl⟩))
    (fun os started H enc _ => edgeMoved_lifted os started H enc)
#print axioms edgeMoved_holds
end Go.Proofs.Ytmhhigaelofbmaa
