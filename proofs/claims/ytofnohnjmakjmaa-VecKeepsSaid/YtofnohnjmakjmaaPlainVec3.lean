/-
  No statement is proved in this text. It holds the plain facts on quarters: which vectors lie between a vector and the one turned to its left.
-/
import Derived.Test.YtofnohnjmakjmaaPlainVec2
namespace Go.Proofs.Ytofnohnjmakjmaa
open Go.RowKit
set_option linter.unusedSimpArgs false
set_option linter.unusedVariables false
namespace V
theorem mul_bound (a b : Int) (ha : -10000 ≤ a ∧ a ≤ 10000) (hb : -10000 ≤ b ∧ b ≤ 10000) : -100000000 ≤ a * b ∧ a * b ≤ 100000000 := by
  have h1 : 0 ≤ (10000 - a) * (10000 - b) := Int.mul_nonneg (by omega) (by omega)
  have h2 : 0 ≤ (10000 + a) * (10000 - b) := Int.mul_nonneg (by omega) (by omega)
  have h3 : 0 ≤ (10000 - a) * (10000 + b) := Int.mul_nonneg (by omega) (by omega)
  have h4 : 0 ≤ (10000 + a) * (10000 + b) := Int.mul_nonneg (by omega) (by omega)
  simp only [Int.sub_mul, Int.add_mul, Int.mul_sub, Int.mul_add] at h1 h2 h3 h4
  omega
theorem mul_big (a b : Int) (ha : -10000 ≤ a ∧ a ≤ 10000) (hb : -200000000 ≤ b ∧ b ≤ 200000000) : -2000000000000 ≤ a * b ∧ a * b ≤ 2000000000000 := by
  have h1 : 0 ≤ (10000 - a) * (200000000 - b) := Int.mul_nonneg (by omega) (by omega)
  have h2 : 0 ≤ (10000 + a) * (200000000 - b) := Int.mul_nonneg (by omega) (by omega)
  have h3 : 0 ≤ (10000 - a) * (200000000 + b) := Int.mul_nonneg (by omega) (by omega)
  have h4 : 0 ≤ (10000 + a) * (200000000 + b) := Int.mul_nonneg (by omega) (by omega)
  simp only [Int.sub_mul, Int.add_mul, Int.mul_sub, Int.mul_add] at h1 h2 h3 h4
  omega
theorem quarterX (x y : Int) (hx : -10000 ≤ x ∧ x ≤ 10000) (hy : -10000 ≤ y ∧ y ≤ 10000) : applyX 0 1 false x y = -y := by
  simp [applyX, turnX, mir, add, neg]; unfold wrap64; omega
theorem quarterY (x y : Int) (hx : -10000 ≤ x ∧ x ≤ 10000) (hy : -10000 ≤ y ∧ y ≤ 10000) : applyY 0 1 false x y = x := by
  simp [applyY, turnY, mir, add]; unfold wrap64; omega
theorem wrap_id (x : Int) (h : -9223372036854775808 ≤ x ∧ x ≤ 9223372036854775807) : wrap64 x = x := by unfold wrap64; omega
theorem quarter_dot (x y : Int) (hx : -10000 ≤ x ∧ x ≤ 10000) (hy : -10000 ≤ y ∧ y ≤ 10000) : dot x y (-y) x = 0 := by
  have h := mul_bound x y hx hy
  have e1 : x * -y = -(x * y) := Int.mul_neg ..
  have e2 : y * x = x * y := Int.mul_comm ..
  simp only [dot, e1, e2]
  rw [wrap_id (-(x * y)) (by omega), wrap_id (x * y) (by omega), wrap_id _ (by omega)]
  omega
theorem sq_nonneg (y : Int) : 0 ≤ y * y := by
  rcases Int.le_total 0 y with h' | h'
  · exact Int.mul_nonneg h' h'
  · exact Int.mul_nonneg_of_nonpos_of_nonpos h' h'
theorem sq_pos (y : Int) (h : y ≠ 0) : 0 < y * y := by
  rcases Int.lt_trichotomy y 0 with h' | h' | h'
  · exact Int.mul_pos_of_neg_of_neg h' h'
  · exact absurd h' h
  · exact Int.mul_pos h' h'
theorem sum_sq_pos (x y : Int) (h : ¬ (x = 0 ∧ y = 0)) : 0 < x * x + y * y := by
  have h1 := sq_nonneg x
  have h2 := sq_nonneg y
  by_cases hx : x = 0
  · have := sq_pos y (fun hy => h ⟨hx, hy⟩); omega
  · have := sq_pos x hx; omega
theorem quarter_within (x y p q : Int) (hx : -10000 ≤ x ∧ x ≤ 10000) (hy : -10000 ≤ y ∧ y ≤ 10000) (hp : -10000 ≤ p ∧ p ≤ 10000) (hq : -10000 ≤ q ∧ q ≤ 10000) (hz : ¬ (x = 0 ∧ y = 0)) :
    within (p * x + -(q * y)) (p * y + q * x) x y (-y) x = (decide (0 ≤ p) && decide (0 ≤ q)) := by
  have hxx := mul_bound x x hx hx
  have hyy := mul_bound y y hy hy
  have hpx := mul_bound p x hp hx
  have hpy := mul_bound p y hp hy
  have hqx := mul_bound q x hq hx
  have hqy := mul_bound q y hq hy
  have hn : 0 < x * x + y * y := sum_sq_pos x y hz
  have c1 : cross x y (p * x + -(q * y)) (p * y + q * x) = q * (x * x + y * y) := by
    have a1 : -2000000000000 ≤ x * (p * y + q * x) ∧ x * (p * y + q * x) ≤ 2000000000000 := by
      have := mul_big x (p * y + q * x) hx (by omega); omega
    have a2 : -2000000000000 ≤ y * (p * x + -(q * y)) ∧ y * (p * x + -(q * y)) ≤ 2000000000000 := by
      have := mul_big y (p * x + -(q * y)) hy (by omega); omega
    simp only [cross]
    rw [wrap_id (x * (p * y + q * x)) (by omega), wrap_id (y * (p * x + -(q * y))) (by omega), wrap_id _ (by omega)]
    grind
  have c2 : cross (p * x + -(q * y)) (p * y + q * x) (-y) x = p * (x * x + y * y) := by
    have a1 : -2000000000000 ≤ x * (p * x + -(q * y)) ∧ x * (p * x + -(q * y)) ≤ 2000000000000 := by
      have := mul_big x (p * x + -(q * y)) hx (by omega); omega
    have a2 : -2000000000000 ≤ (-y) * (p * y + q * x) ∧ (-y) * (p * y + q * x) ≤ 2000000000000 := by
      have := mul_big (-y) (p * y + q * x) (by omega) (by omega); omega
    simp only [cross]
    rw [Int.mul_comm (p * x + -(q * y)) x, Int.mul_comm (p * y + q * x) (-y)]
    rw [wrap_id (x * (p * x + -(q * y))) (by omega), wrap_id ((-y) * (p * y + q * x)) (by omega), wrap_id _ (by omega)]
    grind
  unfold within
  rw [c1, c2, Bool.and_comm]
  congr 1
  · exact decide_eq_decide.2 ⟨fun h => Int.not_lt.1 fun h' => by have := Int.mul_neg_of_neg_of_pos h' hn; omega, fun h => Int.mul_nonneg h (by omega)⟩
  · exact decide_eq_decide.2 ⟨fun h => Int.not_lt.1 fun h' => by have := Int.mul_neg_of_neg_of_pos h' hn; omega, fun h => Int.mul_nonneg h (by omega)⟩
theorem quarter_withinB (x y p q : Int) (hx : -10000 ≤ x ∧ x ≤ 10000) (hy : -10000 ≤ y ∧ y ≤ 10000) (hp : -10000 ≤ p ∧ p ≤ 10000) (hq : -10000 ≤ q ∧ q ≤ 10000) (hz : ¬ (x = 0 ∧ y = 0)) :
    within (p * x + q * -y) (p * y + q * x) x y (-y) x = (decide (0 ≤ p) && decide (0 ≤ q)) := by
  rw [Int.mul_neg]
  exact quarter_within x y p q hx hy hp hq hz
theorem rest_bound (x m : Int) (hm : 0 < m) : -m < x.tmod m ∧ x.tmod m < m := by
  rcases Int.lt_or_le x 0 with h | h
  · rw [tmod_neg x m h]
    have h1 := Int.emod_nonneg (-x) (by omega : m ≠ 0)
    have h2 := Int.emod_lt_of_pos (-x) hm
    omega
  · rw [tmod_nonneg x m h]
    have h1 := Int.emod_nonneg x (by omega : m ≠ 0)
    have h2 := Int.emod_lt_of_pos x hm
    omega
end V
end Go.Proofs.Ytofnohnjmakjmaa
