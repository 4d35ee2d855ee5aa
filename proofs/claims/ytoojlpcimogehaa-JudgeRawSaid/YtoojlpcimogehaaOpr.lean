/-
  No statement is proved in this text. It opens lists of rules.
-/
import Derived.Test.YtoojlpcimogehaaOpc
namespace Go.Proofs.Ytoojlpcimogehaa
open Go.ChangeShapes Go.WideShapes Go.ChangeAt Go.RowKit
set_option linter.unusedVariables false
/-- What is known of a rule that was read. -/
def okR (n : Nat) (r : TRule) : Prop := r.Name.size ≤ reachBytes ∧ okC n r.A ∧ okC n r.B
set_option maxRecDepth 100000 in
theorem opRule (n : Nat) : OpensA true (n + 1) Try.prog 61 (ruleC (LL (lvC n))) (okR (lvC n)) := by
  refine opensA_map (opensA_struct (fuel := n) Try.underlying61 (by kernel_rfl) (opensFA_cons 1 (by kernel_rfl) rfl (opensA_string Try.underlying9) (opensFA_cons 1 (by kernel_rfl) rfl (opensA_of (opens_int Try.underlying3) n) (opensFA_cons 1 (by kernel_rfl) rfl (opensA_of (opens_int Try.underlying3) n) (opensFA_cons 8 (by kernel_rfl) rfl (opC n) (opensFA_cons 8 (by kernel_rfl) rfl (opC n) (opensFA_cons 1 (by kernel_rfl) rfl (opensA_of (opens_int Try.underlying3) n) opensFA_nil))))))) ?_
  rintro ⟨a, b, c, e, f, g, _⟩ ⟨h1, h2, h3, h4, h5, h6, _⟩
  exact ⟨⟨a, b, c, e, f, g⟩, ⟨h1, h4, h5⟩, rfl⟩
def lvR (n : Nat) : Nat := match n with
  | m + 2 => lvC m
  | _ => 0
theorem opRules (n : Nat) : OpensA true n Try.prog 37 (fun xs : List TRule => [lst 20 (ruleC (LL (lvR n))) xs]) (fun xs => xs.length ≤ maxLen ∧ ∀ x ∈ xs, okR (lvR n) x) := by
  refine opens_slice_at 20 Try.underlying37 (by kernel_rfl) (by decide) n fun k hk => ?_
  subst hk
  cases k with
  | zero => exact opensA_zero Try.underlying61
  | succ m => exact opRule m
theorem rules_cd {n : Nat} {l : List TRule} (h : ∀ x ∈ l, okR n x) : ∀ i, i < l.length → CondD n (l.getD i default).A ∧ CondD n (l.getD i default).B := by
  intro i hi
  rw [List.getD_eq_getElem?_getD, List.getElem?_eq_getElem hi]
  have := h _ (List.getElem_mem hi)
  exact ⟨condD_ok _ _ this.2.1, condD_ok _ _ this.2.2⟩
theorem rules_nm {n : Nat} {l : List TRule} (h : ∀ x ∈ l, okR n x) : ∀ i, (l.getD i default).Name.size ≤ 140737488355328 := by
  intro i
  rw [List.getD_eq_getElem?_getD]
  by_cases hi : i < l.length
  · rw [List.getElem?_eq_getElem hi]
    exact Nat.le_trans (h _ (List.getElem_mem hi)).1 (by decide)
  · rw [List.getElem?_eq_none (by omega)]
    exact Nat.zero_le _
end Go.Proofs.Ytoojlpcimogehaa
