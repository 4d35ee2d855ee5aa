/-
  No statement is proved in this text. What JudgeRules computes is true.
-/
import Derived.Test.YtoojlpcimogehaaProg
import Derived.Test.YtoojlpcimogehaaJudgeRulesW
import Derived.Test.YtoojlpcimogehaaPm21
import Derived.Test.YtoojlpcimogehaaOpn
namespace Go.Proofs.Ytoojlpcimogehaa
open Go.RowKit
set_option linter.unusedVariables false
theorem len_getD {l : List (List Int)} (h : ∀ x ∈ l, (x.length ≤ maxLen ∧ ∀ y ∈ x, WF .i64 y)) : ∀ i, ((l.getD i default).length : Int) ≤ 9223372036854775807 := by
  intro i
  rw [List.getD_eq_getElem?_getD]
  by_cases hi : i < l.length
  · rw [List.getElem?_eq_getElem hi]
    exact maxLen_i (h _ (List.getElem_mem hi)).1
  · rw [List.getElem?_eq_none (by omega)]
    show ((([] : List Int).length : Nat) : Int) ≤ _
    simp
theorem judgeRules_1 (l : List (List Int)) (m : TA24) (layer what v : Int) (K0 : Int → Bool) : ∀ f (k : Nat), 5 - k < f → FJudgeRules_l1 l m layer what v K0 f (k : Int) = K0 (v + 1) := by
  intro f
  induction f with
  | zero => intro k h; omega
  | succ f ih =>
    intro k h
    unfold FJudgeRules_l1
    by_cases hk : k < 5
    · rw [decide_eq_true (show (k : Int) < 5 by omega)]
      simp only [value_alike, decide_true, Bool.not_true, beq_self_eq_true, cond_true, cond_false]
      exact ih (k + 1) (by omega)
    · rw [decide_eq_false (show ¬ (k : Int) < 5 by omega)]
      rfl
theorem judgeRules_0 (l : List (List Int)) (m : TA24) (layer what : Int) : ∀ f (k : Nat), 3 - k < f → FJudgeRules_l0 l m layer what f (k : Int) = true := by
  intro f
  induction f with
  | zero => intro k h; omega
  | succ f ih =>
    intro k h
    unfold FJudgeRules_l0
    by_cases hk : k < 3
    · rw [decide_eq_true (show (k : Int) < 3 by omega)]
      simp only [clear_alike, decide_true, Bool.not_true, beq_self_eq_true, cond_true, cond_false]
      exact (judgeRules_1 l m layer what k (FJudgeRules_l0 l m layer what f) (((5 : Int) - 0).toNat + 1) 0 (by decide)).trans (ih (k + 1) (by omega))
    · rw [decide_eq_false (show ¬ (k : Int) < 3 by omega), sanity_true]
      simp only [most_alike, cond_true, cond_false, decide_true]
theorem judgeRules_true (l : List (List Int)) (m : TA24) (layer what : Int) : FJudgeRules l m layer what = true := judgeRules_0 l m layer what (((3 : Int) - 0).toNat + 1) 0 (by decide)
end Go.Proofs.Ytoojlpcimogehaa
