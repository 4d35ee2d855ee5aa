/-
  No statement is proved in this text. It holds that the law EdgeCircles answers true.
-/
import Derived.Test.YtmhhigaelofbmaaGeo5
import Derived.Test.YtmhhigaelofbmaaOpt
import Derived.Test.YtmhhigaelofbmaaEdgeCirclesW
namespace Go.Proofs.Ytmhhigaelofbmaa
open Go.RowKit
set_option linter.unusedVariables false
set_option linter.unusedSimpArgs false

theorem sq_facts (x r : Int) (hr : 0 ≤ r) : 0 ≤ x * x ∧ (r ≤ x → r * r ≤ x * x) ∧ (x ≤ -r → r * r ≤ x * x) ∧ (r < x → r * r < x * x) ∧ (x < -r → r * r < x * x) ∧ (x ≠ 0 → 0 < x * x) := by
  have le : ∀ a b : Int, 0 ≤ a → a ≤ b → a * a ≤ b * b := fun a b h1 h2 => Int.mul_le_mul h2 h2 h1 (by omega)
  have lt : ∀ a b : Int, 0 ≤ a → a < b → a * a < b * b := fun a b h1 h2 => by
    have e : b * b = a * a + (b - a) * (b + a) := by grind
    have := Int.mul_pos (show 0 < b - a by omega) (show 0 < b + a by omega)
    omega
  have ng : (-x) * (-x) = x * x := Int.neg_mul_neg x x
  refine ⟨sq_nn x, le r x hr, fun h => ?_, lt r x hr, fun h => ?_, fun h => ?_⟩
  · have := le r (-x) hr (by omega); omega
  · have := lt r (-x) hr (by omega); omega
  · rcases Int.lt_or_lt_of_ne h with h | h
    · have := Int.mul_pos (show 0 < -x by omega) (show 0 < -x by omega); omega
    · exact Int.mul_pos h h
theorem circles {c p : TPoint} {r : Int} (hr : 1 ≤ r) (o0 : OkE ⟨2, ⟨c.X + r, c.Y⟩, ⟨c.X, c.Y + r⟩, c⟩) (o1 : OkE ⟨2, ⟨c.X, c.Y + r⟩, ⟨c.X - r, c.Y⟩, c⟩) (o2 : OkE ⟨2, ⟨c.X - r, c.Y⟩, ⟨c.X, c.Y - r⟩, c⟩) (o3 : OkE ⟨2, ⟨c.X, c.Y - r⟩, ⟨c.X + r, c.Y⟩, c⟩) :
    (RayM ⟨2, ⟨c.X + r, c.Y⟩, ⟨c.X, c.Y + r⟩, c⟩ p + RayM ⟨2, ⟨c.X, c.Y + r⟩, ⟨c.X - r, c.Y⟩, c⟩ p + RayM ⟨2, ⟨c.X - r, c.Y⟩, ⟨c.X, c.Y - r⟩, c⟩ p + RayM ⟨2, ⟨c.X, c.Y - r⟩, ⟨c.X + r, c.Y⟩, c⟩ p =
      if d2 p c < r * r ∨ ((d2 p c = r * r ∧ p.X - c.X < 0) ∧ p.Y - c.Y < r) ∧ -r < p.Y - c.Y then 1 else 0) ∧
    (((OnE ⟨2, ⟨c.X + r, c.Y⟩, ⟨c.X, c.Y + r⟩, c⟩ p ∨ OnE ⟨2, ⟨c.X, c.Y + r⟩, ⟨c.X - r, c.Y⟩, c⟩ p) ∨ OnE ⟨2, ⟨c.X - r, c.Y⟩, ⟨c.X, c.Y - r⟩, c⟩ p) ∨ OnE ⟨2, ⟨c.X, c.Y - r⟩, ⟨c.X + r, c.Y⟩, c⟩ p ↔ d2 p c = r * r) := by
  have a0 : d2 ⟨c.X + r, c.Y⟩ c = r * r := by unfold d2; simp only; grind
  have a1 : d2 ⟨c.X, c.Y + r⟩ c = r * r := by unfold d2; simp only; grind
  have a2 : d2 ⟨c.X - r, c.Y⟩ c = r * r := by unfold d2; simp only; grind
  have a3 : d2 ⟨c.X, c.Y - r⟩ c = r * r := by unfold d2; simp only; grind
  have hx := sq_facts (p.X - c.X) r (by omega)
  have hy := sq_facts (p.Y - c.Y) r (by omega)
  have hd : d2 p c = (p.X - c.X) * (p.X - c.X) + (p.Y - c.Y) * (p.Y - c.Y) := rfl
  obtain ⟨x, ex⟩ : ∃ x, x = p.X - c.X := ⟨_, rfl⟩
  obtain ⟨y, ey⟩ : ∃ y, y = p.Y - c.Y := ⟨_, rfl⟩
  constructor
  · simp only [RayM, o0, o1, o2, o3, InR, Bey, RightHalf, a0, a1, a2, a3, true_and, up, Int.reduceEq, if_false]
    rw [← ex] at hx; rw [← ey] at hy
    rw [← ex, ← ey] at hd ⊢
    generalize x * x = X2 at *
    generalize y * y = Y2 at *
    generalize r * r = R2 at *
    generalize d2 p c = D at *
    have f0 : (c.X < c.X + r ∨ c.X < c.X) = True := eq_true (by omega)
    have f1 : (c.X < c.X ∨ c.X < c.X - r) = False := eq_false (by omega)
    have f2 : (c.X < c.X - r ∨ c.X < c.X) = False := eq_false (by omega)
    have f3 : (c.X < c.X ∨ c.X < c.X + r) = True := eq_true (by omega)
    have g0 : (c.Y < c.Y + r) = True := eq_true (by omega)
    have g1 : (c.Y + r < c.Y) = False := eq_false (by omega)
    have g2 : (c.Y < c.Y - r) = False := eq_false (by omega)
    have g3 : (c.Y - r < c.Y) = True := eq_true (by omega)
    simp only [f0, f1, f2, f3, g0, g1, g2, g3, if_true, if_false]
    have t0 : ((min c.Y (c.Y + r) ≤ p.Y ∧ p.Y < max c.Y (c.Y + r)) ∧ p.X < max (c.X + r) c.X) ∧ (p.X < min (c.X + r) c.X ∨ D < R2) ↔ ((0 ≤ y ∧ y < r) ∧ x < r) ∧ (x < 0 ∨ D < R2) := by omega
    have t1 : ((min (c.Y + r) c.Y ≤ p.Y ∧ p.Y < max (c.Y + r) c.Y) ∧ p.X < max c.X (c.X - r)) ∧ (p.X < min c.X (c.X - r) ∨ R2 < D) ↔ ((0 ≤ y ∧ y < r) ∧ x < 0) ∧ (x < -r ∨ R2 < D) := by omega
    have t2 : ((min c.Y (c.Y - r) ≤ p.Y ∧ p.Y < max c.Y (c.Y - r)) ∧ p.X < max (c.X - r) c.X) ∧ (p.X < min (c.X - r) c.X ∨ R2 < D) ↔ ((-r ≤ y ∧ y < 0) ∧ x < 0) ∧ (x < -r ∨ R2 < D) := by omega
    have t3 : ((min (c.Y - r) c.Y ≤ p.Y ∧ p.Y < max (c.Y - r) c.Y) ∧ p.X < max c.X (c.X + r)) ∧ (p.X < min c.X (c.X + r) ∨ D < R2) ↔ ((-r ≤ y ∧ y < 0) ∧ x < r) ∧ (x < 0 ∨ D < R2) := by omega
    simp only [t0, t1, t2, t3]
    clear t0 t1 t2 t3 f0 f1 f2 f3 g0 g1 g2 g3 ex ey a0 a1 a2 a3
    by_cases hy0 : 0 ≤ y
    · rw [if_neg (c := ((-r ≤ y ∧ y < 0) ∧ x < 0) ∧ (x < -r ∨ R2 < D)) (by omega), if_neg (c := ((-r ≤ y ∧ y < 0) ∧ x < r) ∧ (x < 0 ∨ D < R2)) (by omega)]
      by_cases hy1 : y < r
      · by_cases hx0 : x < 0
        · split <;> split <;> split <;> omega
        · split <;> split <;> split <;> omega
      · rw [if_neg (by omega), if_neg (by omega), if_neg (by omega)]; rfl
    · rw [if_neg (c := ((0 ≤ y ∧ y < r) ∧ x < 0) ∧ (x < -r ∨ R2 < D)) (by omega), if_neg (c := ((0 ≤ y ∧ y < r) ∧ x < r) ∧ (x < 0 ∨ D < R2)) (by omega)]
      by_cases hy1 : -r ≤ y
      · by_cases hx0 : x < 0
        · split <;> split <;> split <;> omega
        · split <;> split <;> split <;> omega
      · rw [if_neg (by omega), if_neg (by omega), if_neg (by omega)]; rfl
  · simp only [OnE, o0, o1, o2, o3, InB, OnC, a0, a1, a2, a3, true_and, Int.reduceEq, if_false]
    rw [← ex] at hx; rw [← ey] at hy
    rw [← ex, ← ey] at hd
    generalize x * x = X2 at *
    generalize y * y = Y2 at *
    generalize r * r = R2 at *
    generalize d2 p c = D at *
    omega
theorem edgeCircles_true (l : List Int) (radius : Int) (m : List Int) (hm : WF .u8 radius) : FEdgeCircles l radius m = true := by
  have b0 := bounds_u8 hm
  have hi : 1 ≤ W64 (1 + Int.tmod (W64 radius) 100) ∧ W64 (1 + Int.tmod (W64 radius) 100) ≤ 100 := by
    rw [W64_id (x := radius) (by omega) (by omega), Int.tmod_eq_emod_of_nonneg (by omega), W64_id (by omega) (by omega)]
    omega
  unfold FEdgeCircles
  have na := near_b ⟨l, 0⟩ 100 (by decide) (by decide)
  generalize (FNear ⟨l, 0⟩ 100).1 = c at *
  generalize W64 (1 + Int.tmod (W64 radius) 100) = r at *
  have hs : Small (Fref06Arc c r 0 2) := arc_small c r 0 2 na hi (by decide) (by decide)
  have hp := at_small hs m
  generalize FAt06 (Fref06Arc c r 0 2) m = p at *
  obtain ⟨q0, q1, q2, q3⟩ := arc_ab c r (by omega) (by omega)
  have o0 := arc_ok c r 0 2 (by omega) (by omega) (by decide) (by decide)
  have o1 := arc_ok c r 1 2 (by omega) (by omega) (by decide) (by decide)
  have o2 := arc_ok c r 2 2 (by omega) (by omega) (by decide) (by decide)
  have o3 := arc_ok c r 3 2 (by omega) (by omega) (by decide) (by decide)
  rw [q0] at o0; rw [q1] at o1; rw [q2] at o2; rw [q3] at o3
  obtain ⟨h1, h2⟩ := circles (p := p) hi.1 o0 o1 o2 o3
  unfold Near10 at hp
  have e1 : W64 (p.X - c.X) = p.X - c.X := W64_id (by omega) (by omega)
  have e2 : W64 (p.Y - c.Y) = p.Y - c.Y := W64_id (by omega) (by omega)
  have e3 : W64 (0 - r) = -r := by rw [W64_id (by omega) (by omega)]; omega
  have m1 := mul_b (p.X - c.X) (p.X - c.X) 50000 50000 (by omega) (by omega)
  have m2 := mul_b (p.Y - c.Y) (p.Y - c.Y) 50000 50000 (by omega) (by omega)
  have m3 := mul_b r r 100 100 (by omega) (by omega)
  have e4 : W64 ((p.X - c.X) * (p.X - c.X)) = (p.X - c.X) * (p.X - c.X) := W64_id (by omega) (by omega)
  have e5 : W64 ((p.Y - c.Y) * (p.Y - c.Y)) = (p.Y - c.Y) * (p.Y - c.Y) := W64_id (by omega) (by omega)
  have e6 : W64 ((p.X - c.X) * (p.X - c.X) + (p.Y - c.Y) * (p.Y - c.Y)) = d2 p c := W64_id (by omega) (by omega)
  have e7 : W64 (r * r) = r * r := W64_id (by omega) (by omega)
  have hw : ∀ e p, -1 ≤ RayM e p ∧ RayM e p ≤ 1 := fun e p => by
    unfold RayM up
    split
    · split
      · omega
      · split <;> omega
    · omega
  have hw0 := hw ⟨2, ⟨c.X + r, c.Y⟩, ⟨c.X, c.Y + r⟩, c⟩ p
  have hw1 := hw ⟨2, ⟨c.X, c.Y + r⟩, ⟨c.X - r, c.Y⟩, c⟩ p
  have hw2 := hw ⟨2, ⟨c.X - r, c.Y⟩, ⟨c.X, c.Y - r⟩, c⟩ p
  have hw3 := hw ⟨2, ⟨c.X, c.Y - r⟩, ⟨c.X + r, c.Y⟩, c⟩ p
  simp only [q0, q1, q2, q3, ray_eq, on_eq, e1, e2, e3, e4, e5, e6, e7, sane, cond_true]
  generalize RayM ⟨2, ⟨c.X + r, c.Y⟩, ⟨c.X, c.Y + r⟩, c⟩ p = r0 at *
  generalize RayM ⟨2, ⟨c.X, c.Y + r⟩, ⟨c.X - r, c.Y⟩, c⟩ p = r1 at *
  generalize RayM ⟨2, ⟨c.X - r, c.Y⟩, ⟨c.X, c.Y - r⟩, c⟩ p = r2 at *
  generalize RayM ⟨2, ⟨c.X, c.Y - r⟩, ⟨c.X + r, c.Y⟩, c⟩ p = r3 at *
  rw [W64_id (x := 0 + r0) (by omega) (by omega), W64_id (x := 0 + r0 + r1) (by omega) (by omega), W64_id (x := 0 + r0 + r1 + r2) (by omega) (by omega), W64_id (x := 0 + r0 + r1 + r2 + r3) (by omega) (by omega), Int.zero_add, h1]
  simp only [cnd_or, cnd_and]
  simp only [cnd_if, Bool.or_eq_true, Bool.and_eq_true, decide_eq_true_eq]
  refine ⟨trivial, ?_⟩
  rw [beq_iff_eq, Bool.eq_iff_iff]
  simp only [Bool.or_eq_true, decide_eq_true_eq]
  exact h2
end Go.Proofs.Ytmhhigaelofbmaa
