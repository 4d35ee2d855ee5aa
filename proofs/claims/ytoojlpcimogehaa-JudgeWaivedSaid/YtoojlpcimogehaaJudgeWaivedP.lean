/-
  No statement is proved in this text. What JudgeWaived computes is true.
-/
import Derived.Test.YtoojlpcimogehaaProg
import Derived.Test.YtoojlpcimogehaaJudgeWaivedW
import Derived.Test.YtoojlpcimogehaaPm21
namespace Go.Proofs.Ytoojlpcimogehaa
open Go.RowKit
set_option linter.unusedVariables false
def pW (a b : Int) (r : ByteArray) (w : TWaiver) : Bool := decide (a = w.A) && (decide (b = w.B) && ((r.toList == w.Rule.toList) && true))
theorem conW_any (s : List TWaiver) (a b : Int) (r : ByteArray) : FconW s ⟨a, b, r⟩ = s.any (pW a b r) := srch_any s (pW a b r) (FidxW_l0 s ⟨a, b, r⟩) (fun _ _ => rfl) _ 0 (by omega)
theorem any_or (s : List TWaiver) (p q : TWaiver → Bool) : (bif s.any p then true else s.any q) = s.any fun w => p w || q w := by
  induction s with
  | nil => rfl
  | cons a s ih =>
    simp only [List.any_cons]
    rw [← ih]
    cases p a <;> cases q a <;> cases s.any p <;> cases s.any q <;> rfl
def brd (L : List TWaiver) : TBoard := TBoard.mk 0 (TShape.mk 0 [] 0) [] [] [] [] [] [] [] [] [] L []
theorem jW_any (L : List TWaiver) (a b : Int) (r : ByteArray) : FjWaived (brd L) a b r = L.any fun w => pW a b r w || pW b a r w := by
  show (bif FconW L ⟨a, b, r⟩ then true else FconW L ⟨b, a, r⟩) = _
  rw [conW_any, conW_any, any_or]
theorem jW_in (L : List TWaiver) (w : TWaiver) (h : w ∈ L) : FjWaived (brd L) w.A w.B w.Rule = true ∧ FjWaived (brd L) w.B w.A w.Rule = true := by
  rw [jW_any, jW_any]
  exact ⟨List.any_eq_true.2 ⟨w, h, by simp [pW]⟩, List.any_eq_true.2 ⟨w, h, by simp [pW]⟩⟩
def qW (k j : Int) (rule : ByteArray) (w : TWaiver) : Bool := bif (w.Rule.toList == rule.toList) then bif bif decide ((w.A : Int) = k) then decide ((w.B : Int) = j) else false then true else bif decide ((w.B : Int) = k) then decide ((w.A : Int) = j) else false else false
theorem pq (k j : Int) (r : ByteArray) (w : TWaiver) : (pW k j r w || pW j k r w) = qW k j r w := by
  unfold pW qW
  rw [show (r.toList == w.Rule.toList) = (w.Rule.toList == r.toList) from Bool.beq_comm, show decide (k = w.A) = decide (w.A = k) from decide_eq_decide.2 eq_comm, show decide (j = w.B) = decide (w.B = j) from decide_eq_decide.2 eq_comm, show decide (j = w.A) = decide (w.A = j) from decide_eq_decide.2 eq_comm, show decide (k = w.B) = decide (w.B = k) from decide_eq_decide.2 eq_comm]
  cases decide (w.A = k) <;> cases decide (w.B = j) <;> cases decide (w.A = j) <;> cases decide (w.B = k) <;> cases (w.Rule.toList == r.toList) <;> rfl
theorem waived_l (l : List TWaiver) (k j : Int) (rule : ByteArray) (L : List TWaiver) (hL : l.take (min ((l.length : Int)) 10 : Int).toNat = L) : ∀ f v (i : Nat), L.length - i < f → FJudgeWaived_l0 l k j rule f v (i : Int) = wJudgeWaived_12 l k j rule (v || (L.drop i).any (qW k j rule)) := by
  intro f
  induction f with
  | zero => intro v i h; omega
  | succ f ih =>
    intro v i h
    unfold FJudgeWaived_l0
    rw [hL]
    by_cases hi : i < L.length
    · rw [decide_eq_true (show (i : Int) < (L.length : Int) by omega), drop_cons L i hi, List.any_cons]
      have e7 : wJudgeWaived_7 l (i : Int) = L.getD i default := by unfold wJudgeWaived_7; rw [hL, Int.toNat_natCast]
      have hin : L.getD i default ∈ L := by
        rw [List.getD_eq_getElem?_getD, List.getElem?_eq_getElem hi]
        exact List.getElem_mem hi
      have e11 : wJudgeWaived_11 l (i : Int) = false := by
        unfold wJudgeWaived_11 wJudgeWaived_9
        rw [e7, hL]
        have h1 := jW_in L _ hin
        show (bif !(FjWaived (brd L) (L.getD i default).A (L.getD i default).B (L.getD i default).Rule) then true else !(FjWaived (brd L) (L.getD i default).B (L.getD i default).A (L.getD i default).Rule)) = false
        rw [h1.1, h1.2]
        rfl
      rw [e11, e7]
      have h2 := ih (bif v then true else qW k j rule (L.getD i default)) (i + 1) (by omega)
      refine Eq.trans h2 ?_
      congr 1
      cases v <;> cases qW k j rule (L.getD i default) <;> rfl
    · rw [decide_eq_false (show ¬ (i : Int) < (L.length : Int) by omega), List.drop_eq_nil_of_le (by omega)]
      simp
theorem judgeWaived_true (l : List TWaiver) (k j : Int) (rule : ByteArray) : FJudgeWaived l k j rule = true := by
  have h := waived_l l k j rule _ rfl ((((((l.take (min ((l.length : Int)) 10 : Int).toNat).length : Int))) - 0).toNat + 1) false 0 (by omega)
  refine Eq.trans h ?_
  unfold wJudgeWaived_12
  rw [sanity_true]
  show ((FjWaived (brd (l.take (min ((l.length : Int)) 10 : Int).toNat)) k j rule) == (false || (l.take (min ((l.length : Int)) 10 : Int).toNat).any (qW k j rule))) = true
  rw [jW_any, Bool.false_or, any_eq _ (fun w => pq k j rule w)]
  simp
end Go.Proofs.Ytoojlpcimogehaa
