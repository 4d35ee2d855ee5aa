/-
  No statement is proved in this text. It holds what is known of the rules that are made.
-/
import Derived.Test.YtoojlpcimogehaaProg
import Derived.Test.YtoojlpcimogehaaK21m
import Derived.Test.YtoojlpcimogehaaPm21
import Derived.Test.YtoojlpcimogehaaOpn
namespace Go.Proofs.Ytoojlpcimogehaa
open Go.RowKit
set_option linter.unusedVariables false
theorem len_getD {l : List (List Int)} (h : ∀ x ∈ l, (x.length ≤ maxLen ∧ ∀ y ∈ x, WF .i64 y)) : ∀ i, ((l.getD i default).length : Int) ≤ 9223372036854775807 := by
  intro i
  rw [List.getD_eq_getElem?_getD]
  by_cases hi : i < l.length
  · rw [List.getElem?_eq_getElem hi]
    exact maxLen_i (h _ (List.getElem_mem hi)).1
  · rw [List.getElem?_eq_none (by omega)]
    show ((([] : List Int).length : Nat) : Int) ≤ _
    simp
/-- What holds for a made rule. -/
def RuleIn (r : TRule) : Prop := 0 ≤ r.Value ∧ 0 ≤ r.Priority ∧ r.Priority ≤ 2 ∧ 1 ≤ r.Name.size
theorem rule_in (x : UInt8) (d e : TDraw) (w : Int) (A B : TCond) : RuleIn (TRule.mk ((({ data := #[114] } : ByteArray)) ++ (ByteArray.empty.push x)) ((FNext d 3).1) w A B (W64 (2 * ((FNext e 8).1)))) := by
  have h1 := next_b d 3 (by decide) (by decide)
  have h2 := next_b e 8 (by decide) (by decide)
  refine ⟨?_, h1.1, by show (FNext d 3).1 ≤ 2; omega, ?_⟩
  · show 0 ≤ W64 (2 * ((FNext e 8).1))
    simp only [W64_def]
    omega
  · show 1 ≤ ((({ data := #[114] } : ByteArray)) ++ (ByteArray.empty.push x)).size
    rw [ByteArray.size_append]
    show 1 ≤ 1 + 1
    decide
theorem rules_in (l : List (List Int)) : ∀ (m : Nat) (out : List TRule) (k : Int), (∀ r ∈ out, RuleIn r) → ∀ r ∈ FRules_l0 l m out k, RuleIn r := by
  intro m
  induction m with
  | zero => intro out k h r hr; exact absurd hr (by intro h; cases h)
  | succ m ih =>
    intro out k h r hr
    unfold FRules_l0 at hr
    cases hc : (bif decide ((k : Int) < ((l.length : Int))) then decide ((k : Int) < 5) else false)
    · rw [hc] at hr
      exact h r hr
    · rw [hc] at hr
      refine ih _ _ ?_ r hr
      intro x hx
      rcases List.mem_append.1 hx with hx | hx
      · exact h x hx
      · rw [List.mem_singleton.1 hx]
        exact rule_in _ _ _ _ _ _
theorem board_in (l : List (List Int)) : ∀ r ∈ (FBoard l).Rules, RuleIn r := rules_in l _ [] 0 (fun r h => by cases h)
theorem mem_step {acc : List TRule} {x r : TRule} (h : r ∈ stepJ acc x) : r ∈ acc ∨ r = x := by
  unfold stepJ at h
  cases h1 : (bif decide ((0 : Int) < (((acc.length : Nat) : Int))) then decide ((x.Priority : Int) < ((acc.getD 0 default).Priority)) else false)
  · rw [h1] at h
    cases h2 : (bif decide ((0 : Int) < (((acc.length : Nat) : Int))) then decide ((((acc.getD 0 default).Priority) : Int) < x.Priority) else false)
    · rw [h2] at h
      rcases List.mem_append.1 h with h | h
      · exact .inl h
      · exact .inr (List.mem_singleton.1 h)
    · rw [h2] at h
      exact .inr (List.mem_singleton.1 h)
  · rw [h1] at h
    exact .inl h
theorem mem_fold (l : List TRule) : ∀ (acc : List TRule) (r : TRule), r ∈ l.foldl stepJ acc → r ∈ acc ∨ r ∈ l := by
  induction l with
  | nil => intro acc r h; exact .inl h
  | cons x l ih =>
    intro acc r h
    rcases ih _ r h with h | h
    · rcases mem_step h with h | h
      · exact .inl h
      · exact .inr (by rw [h]; exact List.mem_cons_self ..)
    · exact .inr (List.mem_cons_of_mem _ h)
end Go.Proofs.Ytoojlpcimogehaa
