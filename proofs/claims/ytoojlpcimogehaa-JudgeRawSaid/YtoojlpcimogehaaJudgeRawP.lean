/-
  No statement is proved in this text. What JudgeRaw computes is true.
-/
import Derived.Test.YtoojlpcimogehaaProg
import Derived.Test.YtoojlpcimogehaaJudgeRawW
import Derived.Test.YtoojlpcimogehaaPn21
namespace Go.Proofs.Ytoojlpcimogehaa
open Go.RowKit
set_option linter.unusedVariables false
def pW (a b : Int) (r : ByteArray) (w : TWaiver) : Bool := decide (a = w.A) && (decide (b = w.B) && ((r.toList == w.Rule.toList) && true))
theorem conW_any (s : List TWaiver) (a b : Int) (r : ByteArray) : FconW s ⟨a, b, r⟩ = s.any (pW a b r) := srch_any s (pW a b r) (FidxW_l0 s ⟨a, b, r⟩) (fun _ _ => rfl) _ 0 (by omega)
theorem any_or (s : List TWaiver) (p q : TWaiver → Bool) : (bif s.any p then true else s.any q) = s.any fun w => p w || q w := by
  induction s with
  | nil => rfl
  | cons a s ih =>
    simp only [List.any_cons]
    rw [← ih]
    cases p a <;> cases q a <;> cases s.any p <;> cases s.any q <;> rfl
def qW (k j : Int) (rule : ByteArray) (w : TWaiver) : Bool := bif (w.Rule.toList == rule.toList) then bif bif decide ((w.A : Int) = k) then decide ((w.B : Int) = j) else false then true else bif decide ((w.A : Int) = j) then decide ((w.B : Int) = k) else false else false
theorem pq (k j : Int) (r : ByteArray) (w : TWaiver) : (pW k j r w || pW j k r w) = qW k j r w := by
  unfold pW qW
  rw [show (r.toList == w.Rule.toList) = (w.Rule.toList == r.toList) from Bool.beq_comm, show decide (k = w.A) = decide (w.A = k) from decide_eq_decide.2 eq_comm, show decide (j = w.B) = decide (w.B = j) from decide_eq_decide.2 eq_comm, show decide (j = w.A) = decide (w.A = j) from decide_eq_decide.2 eq_comm, show decide (k = w.B) = decide (w.B = k) from decide_eq_decide.2 eq_comm]
  cases decide (w.A = k) <;> cases decide (w.B = j) <;> cases decide (w.A = j) <;> cases decide (w.B = k) <;> cases (w.Rule.toList == r.toList) <;> rfl
theorem waived_alike (b : TBoard) (k j : Int) (r : ByteArray) : FjWaived b k j r = FrWaived b k j r := by
  have h : FrWaived b k j r = b.Waivers.any (qW k j r) := srchB_any b.Waivers (qW k j r) (FrWaived_l0 b k j r) (fun _ _ => rfl) _ 0 (by omega)
  rw [h]
  show (bif FconW b.Waivers ⟨k, j, r⟩ then true else FconW b.Waivers ⟨j, k, r⟩) = _
  rw [conW_any, conW_any, any_or]
  exact any_eq _ fun w => pq k j r w
theorem ans_fin {A B : Ans} {X : Bool} (h : A = B) : (bif bif bif !decide ((A.1 : Int) = B.1) then true else !((A.2.1).toList == (B.2.1).toList) then true else !decide ((A.2.2 : Int) = B.2.2) then (false) else X) = X := by
  subst h
  simp
theorem ans_fin2 {A B : Ans} {P Q X : Bool} (h : A = B) (h2 : P = Q) : (bif bif bif bif !decide ((A.1 : Int) = B.1) then true else !((A.2.1).toList == (B.2.1).toList) then true else !decide ((A.2.2 : Int) = B.2.2) then true else !(P == Q) then (false) else X) = X := by
  subst h
  subst h2
  simp
theorem most_fin {s : Bool} {a b : Int} {p q : Bool} (hs : s = true) (h : a = b) (h2 : p = q) : (bif bif s then decide ((a : Int) = b) else false then (p == q) else false) = true := by
  subst hs
  subst h
  subst h2
  simp
theorem holds_alike (n : Nat) (b : TBoard) (c : TCond) (it : TItem) (layer : Int) : FjHolds n b c it layer = Fhold n b c it layer := eval_hold b it layer n c
theorem judgeRaw_1 (l : List TRule) (ix iy : TItem) (layer : Int) (v : List TRule) (v11 : Int) (K0 : List TRule → Int → Bool) : ∀ f (k : Nat), v.length - k < f → FJudgeRaw_l1 l ix iy layer v v11 K0 f (k : Int) = true := by
  intro f
  induction f with
  | zero => intro k h; omega
  | succ f ih =>
    intro k h
    unfold FJudgeRaw_l1
    by_cases hk : k < v.length
    · rw [decide_eq_true (show (k : Int) < (v.length : Int) by omega)]
      exact (ans_fin2 (value_alike 3 _ _ _ layer) (holds_alike 3 _ _ _ layer)).trans (ih (k + 1) (by omega))
    · rw [decide_eq_false (show ¬ (k : Int) < (v.length : Int) by omega)]
      exact most_fin sanity_true (most_alike _) (waived_alike _ _ _ _)
theorem judgeRaw_0 (l : List TRule) (ix iy : TItem) (layer : Int) : ∀ f (k : Nat) (v : List TRule), 4 - k < f → FJudgeRaw_l0 l ix iy layer f v (k : Int) = true := by
  intro f
  induction f with
  | zero => intro k v h; omega
  | succ f ih =>
    intro k v h
    unfold FJudgeRaw_l0
    have hend := (ans_fin (clear_alike 3 (TBoard.mk 2 (TShape.mk 0 [] 0) [] [] [] [] [] [] [] (FBoard []).Classes v (FBoard []).Waivers []) (TItem.mk ix.Id ix.Pad ix.Kind ix.Net ix.From ix.To (TShape.mk ix.Shape.Kind (ix.Shape.Edges.take (min ((ix.Shape.Edges.length : Int)) 3 : Int).toNat) ix.Shape.R)) (TItem.mk iy.Id iy.Pad iy.Kind iy.Net iy.From iy.To (TShape.mk iy.Shape.Kind (iy.Shape.Edges.take (min ((iy.Shape.Edges.length : Int)) 3 : Int).toNat) iy.Shape.R)) layer)).trans (judgeRaw_1 l ix iy layer v k (FJudgeRaw_l0 l ix iy layer f) (((((v.length : Int))) - 0).toNat + 1) 0 (by omega))
    by_cases hk : (k : Int) < (l.length : Int)
    · rw [decide_eq_true hk]
      by_cases hk3 : k < 4
      · rw [decide_eq_true (show (k : Int) < 4 by omega)]
        exact ih (k + 1) _ (by omega)
      · rw [decide_eq_false (show ¬ (k : Int) < 4 by omega)]
        exact hend
    · rw [decide_eq_false hk]
      exact hend
theorem judgeRaw_true (l : List TRule) (ix iy : TItem) (layer : Int) : FJudgeRaw l ix iy layer = true := judgeRaw_0 l ix iy layer (((4 : Int) - 0).toNat + 1) 0 [] (by decide)
end Go.Proofs.Ytoojlpcimogehaa
