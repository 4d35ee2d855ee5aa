/-
  No statement is proved in this text. It holds the plain facts on what motions keep: dot products, and cross products and sides up to their sign.
-/
import Derived.Test.YtofnohnjmakjmaaPlainVec3
namespace Go.Proofs.Ytofnohnjmakjmaa
open Go.RowKit
set_option linter.unusedSimpArgs false
set_option linter.unusedVariables false
set_option linter.unusedSectionVars false
namespace V
theorem w_sub2 (a b : Int) : wrap64 (wrap64 a - wrap64 b) = wrap64 (a - b) := by unfold wrap64; omega
theorem w_add2 (a b : Int) : wrap64 (wrap64 a + wrap64 b) = wrap64 (a + b) := by unfold wrap64; omega
def pmir (m : Bool) (x : Int) : Int := if m then -x else x
def pX (k x y : Int) : Int := if k = 1 then -y else if k = 2 then -x else if k = 3 then y else x
def pY (k x y : Int) : Int := if k = 1 then x else if k = 2 then -y else if k = 3 then -x else y
def Sm (x : Int) : Prop := -10000000 < x ∧ x < 10000000
theorem sub_small (a b : Int) (ha : Sm a) (hb : Sm b) : sub a b = a - b := by unfold Sm at *; unfold sub wrap64; omega
theorem keepX (X t : Int) (m : Bool) (x1 y1 x0 y0 : Int) (hX : Sm X) (h1 : Sm x1) (h2 : Sm y1) (h3 : Sm x0) (h4 : Sm y0) : sub (applyX X t m x1 y1) (applyX X t m x0 y0) = pX (t % 4) (pmir m (x1 - x0)) (y1 - y0) := by
  unfold Sm at *
  rcases four t with ht | ht | ht | ht <;> cases m <;> simp [applyX, turnX, mir, add, neg, sub, pX, pmir, ht] <;> unfold wrap64 <;> omega
theorem keepY (Y t : Int) (m : Bool) (x1 y1 x0 y0 : Int) (hX : Sm Y) (h1 : Sm x1) (h2 : Sm y1) (h3 : Sm x0) (h4 : Sm y0) : sub (applyY Y t m x1 y1) (applyY Y t m x0 y0) = pY (t % 4) (pmir m (x1 - x0)) (y1 - y0) := by
  unfold Sm at *
  rcases four t with ht | ht | ht | ht <;> cases m <;> simp [applyY, turnY, mir, add, neg, sub, pY, pmir, ht] <;> unfold wrap64 <;> omega
theorem p_dot (t : Int) (m : Bool) (u v u' v' : Int) : dot (pX (t % 4) (pmir m u) v) (pY (t % 4) (pmir m u) v) (pX (t % 4) (pmir m u') v') (pY (t % 4) (pmir m u') v') = dot u v u' v' := by
  rcases four t with ht | ht | ht | ht <;> cases m <;> simp [dot, pX, pY, pmir, ht, w_add2] <;> exact w_eq (by grind)
theorem p_cross (t : Int) (m : Bool) (u v u' v' : Int) : cross (pX (t % 4) (pmir m u) v) (pY (t % 4) (pmir m u) v) (pX (t % 4) (pmir m u') v') (pY (t % 4) (pmir m u') v') = wrap64 (pmir m (u * v' - v * u')) := by
  rcases four t with ht | ht | ht | ht <;> cases m <;> simp [cross, pX, pY, pmir, ht, w_sub2] <;> exact w_eq (by grind)
theorem cross_small (u v u' v' : Int) (h1 : -20000000 < u ∧ u < 20000000) (h2 : -20000000 < v ∧ v < 20000000) (h3 : -20000000 < u' ∧ u' < 20000000) (h4 : -20000000 < v' ∧ v' < 20000000) :
    -1000000000000000 < u * v' - v * u' ∧ u * v' - v * u' < 1000000000000000 := by
  have e1 : 0 ≤ (20000000 - u) * (20000000 - v') := Int.mul_nonneg (by omega) (by omega)
  have e2 : 0 ≤ (20000000 + u) * (20000000 - v') := Int.mul_nonneg (by omega) (by omega)
  have e3 : 0 ≤ (20000000 - u) * (20000000 + v') := Int.mul_nonneg (by omega) (by omega)
  have e4 : 0 ≤ (20000000 + u) * (20000000 + v') := Int.mul_nonneg (by omega) (by omega)
  have f1 : 0 ≤ (20000000 - v) * (20000000 - u') := Int.mul_nonneg (by omega) (by omega)
  have f2 : 0 ≤ (20000000 + v) * (20000000 - u') := Int.mul_nonneg (by omega) (by omega)
  have f3 : 0 ≤ (20000000 - v) * (20000000 + u') := Int.mul_nonneg (by omega) (by omega)
  have f4 : 0 ≤ (20000000 + v) * (20000000 + u') := Int.mul_nonneg (by omega) (by omega)
  simp only [Int.sub_mul, Int.add_mul, Int.mul_sub, Int.mul_add] at e1 e2 e3 e4 f1 f2 f3 f4
  omega
section
variable (X Y t : Int) (m : Bool) (x0 y0 x1 y1 x2 y2 : Int) (hX : Sm X) (hY : Sm Y) (a0 : Sm x0) (b0 : Sm y0) (a1 : Sm x1) (b1 : Sm y1) (a2 : Sm x2) (b2 : Sm y2)
include hX hY a0 b0 a1 b1 a2 b2
theorem keep_dot : dot (sub (applyX X t m x1 y1) (applyX X t m x0 y0)) (sub (applyY Y t m x1 y1) (applyY Y t m x0 y0)) (sub (applyX X t m x2 y2) (applyX X t m x0 y0)) (sub (applyY Y t m x2 y2) (applyY Y t m x0 y0)) = dot (sub x1 x0) (sub y1 y0) (sub x2 x0) (sub y2 y0) := by
  rw [keepX X t m x1 y1 x0 y0 hX a1 b1 a0 b0, keepY Y t m x1 y1 x0 y0 hY a1 b1 a0 b0, keepX X t m x2 y2 x0 y0 hX a2 b2 a0 b0, keepY Y t m x2 y2 x0 y0 hY a2 b2 a0 b0, p_dot,
    sub_small x1 x0 a1 a0, sub_small y1 y0 b1 b0, sub_small x2 x0 a2 a0, sub_small y2 y0 b2 b0]
theorem plain_cross : cross (sub x1 x0) (sub y1 y0) (sub x2 x0) (sub y2 y0) = (x1 - x0) * (y2 - y0) - (y1 - y0) * (x2 - x0) := by
  rw [sub_small x1 x0 a1 a0, sub_small y1 y0 b1 b0, sub_small x2 x0 a2 a0, sub_small y2 y0 b2 b0]
  unfold Sm at *
  have := cross_small (x1 - x0) (y1 - y0) (x2 - x0) (y2 - y0) (by omega) (by omega) (by omega) (by omega)
  unfold cross
  rw [w_sub2, wrap_id _ (by omega)]
theorem keep_cross : cross (sub (applyX X t m x1 y1) (applyX X t m x0 y0)) (sub (applyY Y t m x1 y1) (applyY Y t m x0 y0)) (sub (applyX X t m x2 y2) (applyX X t m x0 y0)) (sub (applyY Y t m x2 y2) (applyY Y t m x0 y0)) = pmir m (cross (sub x1 x0) (sub y1 y0) (sub x2 x0) (sub y2 y0)) := by
  rw [plain_cross X Y x0 y0 x1 y1 x2 y2 hX hY a0 b0 a1 b1 a2 b2, keepX X t m x1 y1 x0 y0 hX a1 b1 a0 b0, keepY Y t m x1 y1 x0 y0 hY a1 b1 a0 b0, keepX X t m x2 y2 x0 y0 hX a2 b2 a0 b0, keepY Y t m x2 y2 x0 y0 hY a2 b2 a0 b0, p_cross]
  unfold Sm at *
  have := cross_small (x1 - x0) (y1 - y0) (x2 - x0) (y2 - y0) (by omega) (by omega) (by omega) (by omega)
  cases m <;> simp only [pmir, if_true, Bool.false_eq_true, if_false] <;> exact wrap_id _ (by omega)
theorem keep_side : side (applyX X t m x0 y0) (applyY Y t m x0 y0) (applyX X t m x1 y1) (applyY Y t m x1 y1) (applyX X t m x2 y2) (applyY Y t m x2 y2) = pmir m (side x0 y0 x1 y1 x2 y2) := by
  unfold side
  rw [keep_cross X Y t m x0 y0 x1 y1 x2 y2 hX hY a0 b0 a1 b1 a2 b2]
  generalize cross (sub x1 x0) (sub y1 y0) (sub x2 x0) (sub y2 y0) = c
  cases m <;> simp only [pmir, if_true, Bool.false_eq_true, if_false, sgn]
  split <;> split <;> (try split) <;> (try split) <;> omega
theorem cross_bd : -1000000000000000 < cross (sub x1 x0) (sub y1 y0) (sub x2 x0) (sub y2 y0) ∧ cross (sub x1 x0) (sub y1 y0) (sub x2 x0) (sub y2 y0) < 1000000000000000 := by
  rw [plain_cross X Y x0 y0 x1 y1 x2 y2 hX hY a0 b0 a1 b1 a2 b2]
  unfold Sm at *
  exact cross_small _ _ _ _ (by omega) (by omega) (by omega) (by omega)
end
theorem side_bd (a b c d e f : Int) : -1 ≤ side a b c d e f ∧ side a b c d e f ≤ 1 := by unfold side sgn; split <;> (try split) <;> omega
end V
end Go.Proofs.Ytofnohnjmakjmaa
