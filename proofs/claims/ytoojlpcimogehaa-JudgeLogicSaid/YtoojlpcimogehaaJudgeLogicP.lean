/-
  No statement is proved in this text. What JudgeLogic computes is true.
-/
import Derived.Test.YtoojlpcimogehaaProg
import Derived.Test.YtoojlpcimogehaaJudgeLogicW
import Derived.Test.YtoojlpcimogehaaPr21
namespace Go.Proofs.Ytoojlpcimogehaa
open Go.RowKit
set_option linter.unusedVariables false
def cC (o : Int) (l : List TCond) : TCond := TCond.mk o (⟨#[]⟩) 0 (TRect.mk 0 0 0 0) l
def ntC (c : TCond) : TCond := cC 8 [c]
section
variable (q : TAsked)
theorem h_not (n : Nat) (c : TCond) : Feval (n + 1) q (ntC c) = !(Feval n q c) := rfl
theorem h_and (n : Nat) (l : List TCond) : Feval (n + 1) q (cC 9 l) = !(l.any fun x => !(Feval n q x)) := by
  show (!(FcoEb (Feval n) l q)) = _
  rw [coEb_any]
theorem h_or (n : Nat) (l : List TCond) : Feval (n + 1) q (cC 10 l) = l.any fun x => Feval n q x := by
  show FcoEa (Feval n) l q = _
  rw [coEa_any]
theorem logic_1 (l : List TCond) : (bif !((Feval 5 q (ntC (cC 9 l))) == (Feval 5 q (cC 10 (l.map ntC)))) then true else ((Feval 4 q (cC 9 l.reverse)) == (Feval 5 q (ntC (cC 9 l))))) = false := by
  rw [h_not, h_and, h_or, h_and, List.any_map, List.any_reverse]
  show (bif !((!!(l.any fun x => !(Feval 3 q x))) == (l.any fun x => !(Feval 3 q x))) then true else ((!(l.any fun x => !(Feval 3 q x))) == (!!(l.any fun x => !(Feval 3 q x))))) = false
  cases (l.any fun x => !(Feval 3 q x)) <;> rfl
theorem logic_2 (l : List TCond) : (bif !((Feval 5 q (ntC (cC 10 l))) == (Feval 5 q (cC 9 (l.map ntC)))) then true else ((Feval 4 q (cC 10 l.reverse)) == (Feval 5 q (ntC (cC 10 l))))) = false := by
  rw [h_not, h_or, h_and, h_or, List.any_map, List.any_reverse]
  have e : (fun x => !(Feval 4 q x)) ∘ ntC = fun x => Feval 3 q x := by
    funext x
    show (!(Feval 4 q (ntC x))) = _
    rw [h_not, Bool.not_not]
  rw [e]
  cases (l.any fun x => Feval 3 q x) <;> rfl
theorem logic_0 (c : TCond) : (!((Feval 5 q (ntC (ntC c))) == (Feval 3 q c))) = false := by
  rw [h_not, h_not, Bool.not_not]
  simp
end
theorem bif_f {c x : Bool} (h : c = false) : (bif c then false else x) = x := by rw [h]; rfl
theorem judgeLogic_l (l : List (List Int)) (m : List Int) (layer : Int) : ∀ f (k : Nat) (v : List TCond), 3 - k < f → FJudgeLogic_l0 l m layer f v (v.map ntC) v.reverse (k : Int) = true := by
  intro f
  induction f with
  | zero => intro k v h; omega
  | succ f ih =>
    intro k v h
    unfold FJudgeLogic_l0
    have h1 := logic_1 ⟨FBoard [], FItem m, layer⟩ v
    have h2 := logic_2 ⟨FBoard [], FItem m, layer⟩ v
    have hend : ∀ x y z : Bool, x = false → y = false → z = true → (bif x then false else (bif y then false else z)) = true := by
      intro x y z h1 h2 h3; rw [h1, h2, h3]; rfl
    by_cases hk : (k : Int) < (l.length : Int)
    · rw [decide_eq_true hk]
      by_cases hk3 : k < 3
      · rw [decide_eq_true (show (k : Int) < 3 by omega)]
        refine Eq.trans (bif_f (logic_0 ⟨FBoard [], FItem m, layer⟩ (FCond (l.getD (k : Int).toNat default)))) ?_
        have i := ih (k + 1) (v ++ [FCond (l.getD (k : Int).toNat default)]) (by omega)
        rw [List.map_append, List.reverse_append] at i
        exact i
      · rw [decide_eq_false (show ¬ (k : Int) < 3 by omega)]
        exact hend _ _ _ h1 h2 sanity_true
    · rw [decide_eq_false hk]
      exact hend _ _ _ h1 h2 sanity_true
theorem judgeLogic_true (l : List (List Int)) (m : List Int) (layer : Int) : FJudgeLogic l m layer = true := judgeLogic_l l m layer (((3 : Int) - 0).toNat + 1) 0 [] (by decide)
end Go.Proofs.Ytoojlpcimogehaa
