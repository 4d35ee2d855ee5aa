/-
  Proved: JudgeHolds returns true for every input: Holds answers as that of the reference. No condition but the row's own.
-/
import Derived.Test.YtoojlpcimogehaaOpt
import Derived.Test.YtoojlpcimogehaaJudgeHoldsW
import Derived.Test.YtoojlpcimogehaaJudgeHoldsP
import Derived.Test.YtoojlpcimogehaaOpc
namespace Go.Proofs.Ytoojlpcimogehaa
open Go.ChangeShapes Go.WideShapes Go.ChangeAt Go.RowKit
set_option linter.unusedVariables false
set_option maxRecDepth 100000 in
theorem judgeHolds_lifted (os : Os) (started : os.Started) (H : Type) (enc : TypeId × Value → H) :
    ReturnsInHanded {} Try.checked os 6 .any (Rows.judgeHoldsSpec.pre6 enc Try.prog Try.f6 Rows.judgeHoldsRow.domain false) (Rows.judgeHoldsSpec.post enc Try.prog Try.f6 false true false false) := by
  refine returnsInHanded_of_change (C := Try.checked) own started (by kernel_rfl) Try.func6
    (ChangeSpec.witness6 (enc := enc) (C := Try.checked) false ⟨#[], #[.slice none 0 0, .slice none 0 0, .agg #[.int .i64 0, .string ⟨#[]⟩, .int .i64 0, .int .i64 0, .int .i64 0, .int .i64 0, .int .i64 0, .slice none 0 0], .int .i64 0], []⟩ 8 (by kernel_rfl) (by kernel_rfl) (by kernel_rfl) (by kernel_rfl)) ?_
  intro W base args ds gs before hval0 hW hcnd _
  have hval : ∀ (j : Nat) t v, Try.f6.params[j]? = some t → args[j]? = some v → Value.okWide Try.prog W .any base t v := hval0
  have hW' := hW
  obtain ⟨p, q, hA0, hV, rfl, hfz, hnd⟩ := hW
  have hA : DataW.TrodAll enc Try.prog W 0 (fun _ => true) true Try.f6.params.toList args.toList ds p := hA0
  rw [Try.params6] at hA hval
  obtain ⟨v0, vs0, d0, ds0, p0, q0, hargs, rfl, rfl, h0, r0⟩ := trodAll_cons hA
  obtain ⟨v1, vs1, d1, ds1, p1, q1, rfl, rfl, rfl, h1, r1⟩ := trodAll_cons r0
  obtain ⟨v2, vs2, d2, ds2, p2, q2, rfl, rfl, rfl, h2, r2⟩ := trodAll_cons r1
  obtain ⟨v3, vs3, d3, ds3, p3, q3, rfl, rfl, rfl, h3, r3⟩ := trodAll_cons r2
  obtain ⟨rfl, rfl, rfl⟩ := trodAll_nil r3
  obtain rfl : args = #[v0, v1, v2, v3] := by cases args; simp_all
  obtain ⟨l, kl, x0⟩ := open_one opT23 (.inl ⟨_, Try.underlying23⟩) (hval 0 23 v0 rfl rfl) h0
  obtain ⟨m, km, x1⟩ := open_one opT23 (.inl ⟨_, Try.underlying23⟩) (hval 1 23 v1 rfl rfl) h1
  obtain ⟨c, kc, x2⟩ := open_agg opCond (.inl ⟨_, Try.underlying58⟩) (hval 2 58 v2 rfl rfl) h2
  obtain ⟨layer, klayer, x3⟩ := open_one (opens_int Try.underlying3) (.inr (.inl ⟨_, Try.underlying3⟩)) (hval 3 3 v3 rfl rfl) h3
  clear hA0 hval0
  refine (law_of_pure (pJudgeHolds (lvC c.1) l m c.2 layer (maxLen_i kl.1) (maxLen_i km.1) (condD_ok _ _ kc)) (judgeHolds_true l m c.2 layer) (.cons x0 (.cons x1 (.cons x2 (.cons x3 .nil))))).mono fun e W' ⟨he, hb⟩ => ?_
  subst he
  exact ⟨_, rfl, law_post hW' rfl rfl laidOut (by rw [Try.params6]; exact List.forall_mem_cons.2 ⟨⟨by kernel_rfl, of_decide_eq_true (by kernel_rfl)⟩, List.forall_mem_cons.2 ⟨⟨by kernel_rfl, of_decide_eq_true (by kernel_rfl)⟩, List.forall_mem_cons.2 ⟨⟨by kernel_rfl, of_decide_eq_true (by kernel_rfl)⟩, List.forall_mem_cons.2 ⟨⟨by kernel_rfl, of_decide_eq_true (by kernel_rfl)⟩, List.forall_mem_nil _⟩⟩⟩⟩) rfl Try.underlying4 hb⟩
theorem judgeHolds_holds : Rows.JudgeHoldsSaid :=
  OpenClaim.holds_of_wide 6 Try.f6 rfl rfl rfl rfl rfl rfl rfl ⟨rfl, rfl, rfl, rfl, rfl⟩ rfl rfl rfl rfl rfl (by kernel_rfl) Try.func6 (by kernel_rfl)
    (of_decide_eq_true (by kernel_rfl)) (by unfold Func.isWrapper; first | (rw [if_pos (by decide +kernel)]; kernel_rfl) | (rw [if_neg (by decide +kernel)]; exact ⟨rfl, rfl⟩))
    (fun os started H enc _ => judgeHolds_lifted os started H enc)
#print axioms judgeHolds_holds
end Go.Proofs.Ytoojlpcimogehaa
