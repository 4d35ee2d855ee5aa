/-
  Proved: JudgeTop returns true for every input: the rule with the greatest priority decides, one with the least priority changes nothing. No condition.
-/
import Derived.Test.YtoojlpcimogehaaOpt
import Derived.Test.YtoojlpcimogehaaJudgeTopW
import Derived.Test.YtoojlpcimogehaaJudgeTopP
namespace Go.Proofs.Ytoojlpcimogehaa
open Go.ChangeShapes Go.WideShapes Go.ChangeAt Go.RowKit
set_option linter.unusedVariables false
set_option maxRecDepth 100000 in
theorem judgeTop_lifted (os : Os) (started : os.Started) (H : Type) (enc : TypeId × Value → H) :
    ReturnsInHanded {} Try.checked os 5 .any (Rows.judgeTopSpec.pre6 enc Try.prog Try.f5 Rows.judgeTopRow.domain false) (Rows.judgeTopSpec.post enc Try.prog Try.f5 false true false false) := by
  refine returnsInHanded_of_change (C := Try.checked) own started (by kernel_rfl) Try.func5
    (ChangeSpec.witness6 (enc := enc) (C := Try.checked) false ⟨#[], #[.slice none 0 0, .agg #[.slice none 0 0, .slice none 0 0], .int .i64 0, .int .u16 0], []⟩ 8 (by kernel_rfl) (by kernel_rfl) (by kernel_rfl) (by kernel_rfl)) ?_
  intro W base args ds gs before hval0 hW hcnd _
  have hval : ∀ (j : Nat) t v, Try.f5.params[j]? = some t → args[j]? = some v → Value.okWide Try.prog W .any base t v := hval0
  have hW' := hW
  obtain ⟨p, q, hA0, hV, rfl, hfz, hnd⟩ := hW
  have hA : DataW.TrodAll enc Try.prog W 0 (fun _ => true) true Try.f5.params.toList args.toList ds p := hA0
  rw [Try.params5] at hA hval
  obtain ⟨v0, vs0, d0, ds0, p0, q0, hargs, rfl, rfl, h0, r0⟩ := trodAll_cons hA
  obtain ⟨v1, vs1, d1, ds1, p1, q1, rfl, rfl, rfl, h1, r1⟩ := trodAll_cons r0
  obtain ⟨v2, vs2, d2, ds2, p2, q2, rfl, rfl, rfl, h2, r2⟩ := trodAll_cons r1
  obtain ⟨v3, vs3, d3, ds3, p3, q3, rfl, rfl, rfl, h3, r3⟩ := trodAll_cons r2
  obtain ⟨rfl, rfl, rfl⟩ := trodAll_nil r3
  obtain rfl : args = #[v0, v1, v2, v3] := by cases args; simp_all
  obtain ⟨l, kl, x0⟩ := open_one opT22 (.inl ⟨_, Try.underlying22⟩) (hval 0 22 v0 rfl rfl) h0
  obtain ⟨m, km, x1⟩ := open_agg opT24 (.inr ⟨_, _, Try.underlying24⟩) (hval 1 24 v1 rfl rfl) h1
  obtain ⟨layer, klayer, x2⟩ := open_one (opens_int Try.underlying3) (.inr (.inl ⟨_, Try.underlying3⟩)) (hval 2 3 v2 rfl rfl) h2
  obtain ⟨value, kvalue, x3⟩ := open_one (opens_int Try.underlying53) (.inr (.inl ⟨_, Try.underlying53⟩)) (hval 3 53 v3 rfl rfl) h3
  clear hA0 hval0
  refine (law_of_pure (pJudgeTop l m layer value (maxLen_i kl.1) (len_getD kl.2) (maxLen_i km.1.1) (maxLen_i km.2.1.1)) (judgeTop_true l m layer value) (.cons x0 (.cons x1 (.cons x2 (.cons x3 .nil))))).mono fun e W' ⟨he, hb⟩ => ?_
  subst he
  exact ⟨_, rfl, law_post hW' rfl rfl laidOut (by rw [Try.params5]; exact List.forall_mem_cons.2 ⟨⟨by kernel_rfl, of_decide_eq_true (by kernel_rfl)⟩, List.forall_mem_cons.2 ⟨⟨by kernel_rfl, of_decide_eq_true (by kernel_rfl)⟩, List.forall_mem_cons.2 ⟨⟨by kernel_rfl, of_decide_eq_true (by kernel_rfl)⟩, List.forall_mem_cons.2 ⟨⟨by kernel_rfl, of_decide_eq_true (by kernel_rfl)⟩, List.forall_mem_nil _⟩⟩⟩⟩) rfl Try.underlying4 hb⟩
theorem judgeTop_holds : Rows.JudgeTopSaid :=
  OpenClaim.holds_of_wide 5 Try.f5 rfl rfl rfl rfl rfl rfl rfl ⟨rfl, rfl, rfl, rfl, rfl⟩ rfl rfl rfl rfl rfl (by kernel_rfl) Try.func5 (by kernel_rfl)
    (of_decide_eq_true (by kernel_rfl)) (by unfold Func.isWrapper; first | (rw [if_pos (by decide +kernel)]; kernel_rfl) | (rw [if_neg (by decide +kernel)]; exact ⟨rfl, rfl⟩))
    (fun os started H enc _ => judgeTop_lifted os started H enc)
#print axioms judgeTop_holds
end Go.Proofs.Ytoojlpcimogehaa
