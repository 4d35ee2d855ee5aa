/-
  No statement is proved in this text. It holds what functions return.
-/
import Derived.Test.YtoojlpcimogehaaProg
import Derived.Test.YtoojlpcimogehaaK21l
namespace Go.Proofs.Ytoojlpcimogehaa
open Go.RowKit
set_option linter.unusedVariables false
set_option linter.unusedSimpArgs false
theorem bd_rs (l : List (List Int)) (h : ∀ i, ((l.getD i default).length : Int) ≤ 9223372036854775807) : RsOk 2 (FBoard l).Rules := rules_ok l h
def SEd (s : TShape) : Prop := (s.Edges.length : Int) ≤ 1000000
theorem bifS {c : Bool} {x y : TShape} (h1 : SEd x) (h2 : SEd y) : SEd (bif c then x else y) := by cases c <;> assumption
theorem bifS1 {c : Bool} {x y : TShape × TDraw} (h1 : SEd x.1) (h2 : SEd y.1) : SEd (bif c then x else y).1 := by cases c <;> assumption
theorem sed_mt : SEd default := by show ((([] : List TEdge).length : Int)) ≤ _; simp
theorem loop_ed (l : List TPoint) : ∀ (n : Nat) (s : List TEdge) (k : Int), (s.length : Int) + n ≤ 1000000 → SEd (FLoop_l0 l n s k) := by
  intro n
  induction n with
  | zero => intro s k _; exact sed_mt
  | succ n ih =>
      intro s k h
      unfold FLoop_l0
      refine bifS (ih _ _ ?_) ?_
      · simp only [List.length_append, List.length_cons, List.length_nil]; omega
      · show (s.length : Int) ≤ _; omega
theorem loopF_ed (l : List TPoint) (h : (l.length : Int) ≤ 1000) : SEd (FLoop l) := loop_ed l _ _ _ (by simp only [List.length_nil]; omega)
theorem path_ed (d : TDraw) (p : TPoint) : ∀ (n : Nat) (s : List TEdge) (v : TPoint) (e : TDraw) (k : Int), (s.length : Int) + n ≤ 1000000 → SEd (FpathOf_l0 d p n s v e k).1 := by
  intro n
  induction n with
  | zero => intro s v e k _; exact sed_mt
  | succ n ih =>
      intro s v e k h
      unfold FpathOf_l0
      refine bifS1 (ih _ _ _ _ ?_) ?_
      · simp only [List.length_append, List.length_cons, List.length_nil]; omega
      · show (s.length : Int) ≤ _; omega
theorem pathF_ed (d : TDraw) (p : TPoint) : SEd (FpathOf d p).1 := by
  refine path_ed d p _ _ _ _ _ ?_
  have := next_b d 3 (by decide) (by decide)
  simp only [W64_def, List.length_nil]
  omega
theorem fuel_le {α : Type} {d : TDraw} {a n B : Int} (h0 : 0 < n) (h1 : n ≤ 1000) (ha : 0 ≤ a) (hB : a ≤ 100 ∧ a + n + 1 ≤ B) : ((([] : List α).length : Int)) + (((W64 (a + (FNext d n).1) - 0).toNat + 1 : Nat) : Int) ≤ B := by
  have := next_b d n h0 (by omega)
  simp only [W64_def, List.length_nil]
  omega
theorem madeL_ed (l : List Int) : ∀ (n : Nat) (v : List TPoint) (d : TDraw) (k : Int), (v.length : Int) + n ≤ 1000 → SEd (FMade9_l0 l n v d k) := by
  intro n
  induction n with
  | zero => intro v d k _; exact sed_mt
  | succ n ih =>
      intro v d k h
      unfold FMade9_l0
      refine bifS (ih _ _ _ ?_) (loopF_ed _ (by omega))
      simp only [List.length_append, List.length_cons, List.length_nil]; omega
theorem made_ed (l : List Int) : SEd (FMade9 l) := by
  unfold FMade9
  refine bifS ?_ (bifS ?_ (bifS ?_ (bifS ?_ (bifS ?_ ?_))))
  · show ((1 : Nat) : Int) ≤ _; omega
  · exact loopF_ed _ (by show ((4 : Nat) : Int) ≤ _; omega)
  · exact pathF_ed _ _
  · exact madeL_ed l _ _ _ _ (fuel_le (by decide) (by decide) (by decide) (by decide))
  · show ((4 : Nat) : Int) ≤ _; omega
  · show ((8 : Nat) : Int) ≤ _; omega
theorem item_ed (l : List Int) : ((FItem l).Shape.Edges.length : Int) ≤ 1000000 := made_ed _
end Go.Proofs.Ytoojlpcimogehaa
