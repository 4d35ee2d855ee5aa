/-
  No statement is proved in this text. What JudgeHolds computes is true.
-/
import Derived.Test.YtoojlpcimogehaaProg
import Derived.Test.YtoojlpcimogehaaJudgeHoldsW
import Derived.Test.YtoojlpcimogehaaPe21
import Derived.Test.YtoojlpcimogehaaPm21
namespace Go.Proofs.Ytoojlpcimogehaa
open Go.RowKit
set_option linter.unusedVariables false
theorem holds_alike (n : Nat) (b : TBoard) (c : TCond) (it : TItem) (layer : Int) : (!((FjHolds n b c it layer) == (Fhold n b c it layer))) = false := by
  show (!((Feval n ⟨b, it, layer⟩ c) == (Fhold n b c it layer))) = false
  rw [eval_hold]
  simp
theorem bif_f {c x : Bool} (h : c = false) : (bif c then false else x) = x := by rw [h]; rfl
theorem judgeHolds_2 (l m : List Int) (c : TCond) (layer v : Int) (K0 : Int → Bool) : ∀ f (k : Nat), 3 - k < f → FJudgeHolds_l2 l m c layer v K0 f (k : Int) = true := by
  intro f
  induction f with
  | zero => intro k h; omega
  | succ f ih =>
    intro k h
    unfold FJudgeHolds_l2
    by_cases hk : k < 3
    · rw [decide_eq_true (show (k : Int) < 3 by omega)]
      refine Eq.trans (bif_f ?_) (ih (k + 1) (by omega))
      exact holds_alike 4 (FBoard []) (Fcut 4 c 3) (FItem m) _
    · rw [decide_eq_false (show ¬ (k : Int) < 3 by omega)]
      exact sanity_true
theorem judgeHolds_1 (l m : List Int) (c : TCond) (layer : Int) : ∀ f (k : Nat), 3 - k < f → FJudgeHolds_l1 l m c layer f (k : Int) = true := by
  intro f
  induction f with
  | zero => intro k h; omega
  | succ f ih =>
    intro k h
    unfold FJudgeHolds_l1
    by_cases hk : k < 3
    · rw [decide_eq_true (show (k : Int) < 3 by omega)]
      refine Eq.trans (bif_f ?_) (ih (k + 1) (by omega))
      exact holds_alike 3 (FBoard []) (FCond l) (FItem m) _
    · rw [decide_eq_false (show ¬ (k : Int) < 3 by omega)]
      exact judgeHolds_2 l m c layer k (FJudgeHolds_l1 l m c layer f) (((3 : Int) - 0).toNat + 1) 0 (by decide)
theorem judgeHolds_true (l m : List Int) (c : TCond) (layer : Int) : FJudgeHolds l m c layer = true := judgeHolds_1 l m c layer (((3 : Int) - 0).toNat + 1) 0 (by decide)
end Go.Proofs.Ytoojlpcimogehaa
