/-
  Proved: JudgeRaw returns true for every input: Clear, Value, Most and Waived answer as those of the reference, for any rules. No condition but that of the row itself.
-/
import Derived.Test.YtoojlpcimogehaaOpt
import Derived.Test.YtoojlpcimogehaaJudgeRawW
import Derived.Test.YtoojlpcimogehaaJudgeRawP
import Derived.Test.YtoojlpcimogehaaOpr
namespace Go.Proofs.Ytoojlpcimogehaa
open Go.ChangeShapes Go.WideShapes Go.ChangeAt Go.RowKit
set_option linter.unusedVariables false
set_option maxRecDepth 100000 in
theorem judgeRaw_lifted (os : Os) (started : os.Started) (H : Type) (enc : TypeId × Value → H) :
    ReturnsInHanded {} Try.checked os 9 .any (Rows.judgeRawSpec.pre6 enc Try.prog Try.f9 Rows.judgeRawRow.domain false) (Rows.judgeRawSpec.post enc Try.prog Try.f9 false true false false) := by
  refine returnsInHanded_of_change_sized (C := Try.checked) own started (by kernel_rfl) Try.func9
    (ChangeSpec.witness6 (enc := enc) (C := Try.checked) false ⟨#[], #[.slice none 0 0, .agg #[.int .i64 0, .string ⟨#[]⟩, .int .i64 0, .string ⟨#[]⟩, .int .i64 0, .int .i64 0, .int .i64 0, .slice none 0 0, .int .i64 0], .agg #[.int .i64 0, .string ⟨#[]⟩, .int .i64 0, .string ⟨#[]⟩, .int .i64 0, .int .i64 0, .int .i64 0, .slice none 0 0, .int .i64 0], .int .i64 0], []⟩ 8 (by kernel_rfl) (by kernel_rfl) (by kernel_rfl) (by kernel_rfl)) ?_
  intro W base args ds gs before hval0 hW hcnd hwt _
  have hval : ∀ (j : Nat) t v, Try.f9.params[j]? = some t → args[j]? = some v → Value.okWide Try.prog W .any base t v := hval0
  have hW' := hW
  obtain ⟨p, q, hA0, hV, rfl, hfz, hnd⟩ := hW
  have hA : DataW.TrodAll enc Try.prog W 0 (fun _ => true) true Try.f9.params.toList args.toList ds p := hA0
  rw [Try.params9] at hA hval hwt
  obtain ⟨v0, vs0, d0, ds0, p0, q0, hargs, rfl, rfl, h0, r0⟩ := trodAll_cons hA
  obtain ⟨v1, vs1, d1, ds1, p1, q1, rfl, rfl, rfl, h1, r1⟩ := trodAll_cons r0
  obtain ⟨v2, vs2, d2, ds2, p2, q2, rfl, rfl, rfl, h2, r2⟩ := trodAll_cons r1
  obtain ⟨v3, vs3, d3, ds3, p3, q3, rfl, rfl, rfl, h3, r3⟩ := trodAll_cons r2
  obtain ⟨rfl, rfl, rfl⟩ := trodAll_nil r3
  obtain rfl : args = #[v0, v1, v2, v3] := by cases args; simp_all
  obtain ⟨l, kl, x0⟩ := openS_one opRules ⟨_, Try.underlying37⟩ (hval 0 37 v0 rfl rfl) h0 (sq_arg hwt 0 rfl rfl)
  obtain ⟨ix, kix, x1⟩ := open_agg opT44 (.inl ⟨_, Try.underlying44⟩) (hval 1 44 v1 rfl rfl) h1
  obtain ⟨iy, kiy, x2⟩ := open_agg opT44 (.inl ⟨_, Try.underlying44⟩) (hval 2 44 v2 rfl rfl) h2
  obtain ⟨layer, klayer, x3⟩ := open_one (opens_int Try.underlying3) (.inr (.inl ⟨_, Try.underlying3⟩)) (hval 3 3 v3 rfl rfl) h3
  clear hA0 hval0
  refine (law_of_pure (pJudgeRaw (lvR l.1) l.2 ix iy layer (maxLen_i kl.1) (rules_cd kl.2) (rules_nm kl.2) (maxLen_i kix.2.2.2.2.2.2.1.2.1.1) (maxLen_i kiy.2.2.2.2.2.2.1.2.1.1)) (judgeRaw_true l.2 ix iy layer) (.cons x0 (.cons x1 (.cons x2 (.cons x3 .nil))))).mono fun e W' ⟨he, hb⟩ => ?_
  subst he
  exact ⟨_, rfl, law_post hW' rfl rfl laidOut (by rw [Try.params9]; exact List.forall_mem_cons.2 ⟨⟨by kernel_rfl, of_decide_eq_true (by kernel_rfl)⟩, List.forall_mem_cons.2 ⟨⟨by kernel_rfl, of_decide_eq_true (by kernel_rfl)⟩, List.forall_mem_cons.2 ⟨⟨by kernel_rfl, of_decide_eq_true (by kernel_rfl)⟩, List.forall_mem_cons.2 ⟨⟨by kernel_rfl, of_decide_eq_true (by kernel_rfl)⟩, List.forall_mem_nil _⟩⟩⟩⟩) rfl Try.underlying4 hb⟩
theorem judgeRaw_holds : Rows.JudgeRawSaid :=
  OpenClaim.holds_of_wide 9 Try.f9 rfl rfl rfl rfl rfl rfl rfl ⟨rfl, rfl, rfl, rfl, rfl⟩ rfl rfl rfl rfl rfl (by kernel_rfl) Try.func9 (by kernel_rfl)
    (of_decide_eq_true (by kernel_rfl)) (by unfold Func.isWrapper; first | (rw [if_pos (by decide +kernel)]; kernel_rfl) | (rw [if_neg (by decide +kernel)]; exact ⟨rfl, rfl⟩))
    (fun os started H enc _ => judgeRaw_lifted os started H enc)
#print axioms judgeRaw_holds
end Go.Proofs.Ytoojlpcimogehaa
