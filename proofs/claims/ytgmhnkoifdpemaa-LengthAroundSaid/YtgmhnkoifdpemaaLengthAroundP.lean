/-
  No statement is proved in this text. It shows in plain numbers that LengthAround returns true.
-/
import Derived.Test.YtgmhnkoifdpemaaSane25
import Derived.Test.YtgmhnkoifdpemaaGeo25
import Derived.Test.YtgmhnkoifdpemaaLengthAroundW
namespace Go.Proofs.Ytgmhnkoifdpemaa
open Go.RowKit
set_option linter.unusedVariables false
set_option linter.unusedSimpArgs false

def PT5 (p : TPoint) : Prop := (-100001 ≤ p.X ∧ p.X ≤ 100001) ∧ -100001 ≤ p.Y ∧ p.Y ≤ 100001
theorem pt5_rp {p : TPoint} (h : PT5 p) : RP p := by unfold PT5 at h; unfold RP C27; omega
theorem around_b (p : TPoint) : PT5 (Faround1 p) := by
  have h1 := tmod_rng p.X 100000 (by decide)
  have h2 := tmod_rng p.Y 100000 (by decide)
  unfold Faround1 PT5
  simp only
  omega
theorem len_line {a b : TPoint} (ha : PT5 a) (hb : PT5 b) : IsR (d2 b a) (FlenEdge (Flaw25line a b)) := by
  have hA := pt5_rp ha
  have hB := pt5_rp hb
  have hok : OkE ⟨1, a, b, ⟨0, 0⟩⟩ := ⟨⟨hA, hB, by unfold RP C27; simp only; omega⟩, .inl ⟨rfl, rfl, rfl⟩⟩
  have hc : FCheck ⟨1, a, b, ⟨0, 0⟩⟩ = 0 := by rw [check_eq]; unfold CheckM; rw [if_pos hok]
  have e : FlenEdge (Flaw25line a b) = FlenSqrt (d2 b a) := by
    unfold FlenEdge Flaw25line
    rw [hc]
    simp only [decide_true, Bool.not_true, cond_false]
    rw [sub_eq hB hA, dot_eq (sub_r hB hA) (sub_r hB hA)]
    rfl
  rw [e]
  have b1 := mul_b (b.X - a.X) (b.X - a.X) 300000 300000 (by unfold PT5 at *; omega) (by unfold PT5 at *; omega)
  have b2 := mul_b (b.Y - a.Y) (b.Y - a.Y) 300000 300000 (by unfold PT5 at *; omega) (by unfold PT5 at *; omega)
  have n1 := sq_nn (b.X - a.X)
  have n2 := sq_nn (b.Y - a.Y)
  exact ref_sqrt' (by unfold d2; omega) (by unfold d2; omega)
theorem tri {a b c : TPoint} {x y z : Int} (hx : IsR (d2 c a) x) (hy : IsR (d2 b a) y) (hz : IsR (d2 c b) z) : x ≤ y + z + 1 := by
  obtain ⟨⟨x1, _⟩, x2, x3⟩ := hx
  obtain ⟨⟨y1, _⟩, y2, y3⟩ := hy
  obtain ⟨⟨z1, _⟩, z2, z3⟩ := hz
  refine Int.not_lt.1 fun hl => ?_
  obtain ⟨D, hD⟩ : ∃ D, D = (b.X - a.X) * (c.X - b.X) + (b.Y - a.Y) * (c.Y - b.Y) := ⟨_, rfl⟩
  have eA : d2 c a = d2 b a + d2 c b + 2 * D := by rw [hD]; unfold d2; grind
  have eCS : d2 b a * d2 c b = D * D + ((b.X - a.X) * (c.Y - b.Y) - (b.Y - a.Y) * (c.X - b.X)) * ((b.X - a.X) * (c.Y - b.Y) - (b.Y - a.Y) * (c.X - b.X)) := by rw [hD]; unfold d2; grind
  have nn := sq_nn ((b.X - a.X) * (c.Y - b.Y) - (b.Y - a.Y) * (c.X - b.X))
  have s1 := sq_mono (a := y + z + 2) (c := x) (by omega) (by omega)
  have e1 : (y + z + 2) * (y + z + 2) = (y + 1) * (y + 1) + (z + 1) * (z + 1) + 2 * ((y + 1) * (z + 1)) := by grind
  have hDlt : (y + 1) * (z + 1) < D := by omega
  have p1 := Int.mul_pos (a := y + 1) (b := z + 1) (by omega) (by omega)
  have s2 : (y + 1) * (z + 1) * ((y + 1) * (z + 1)) < D * D := by
    have h1 := Int.mul_lt_mul_of_pos_right hDlt (show 0 < D by omega)
    have h2 := Int.mul_le_mul_of_nonneg_left (Int.le_of_lt hDlt) (show 0 ≤ (y + 1) * (z + 1) by omega)
    omega
  have hB0 : 0 ≤ d2 b a := by have := sq_nn y; omega
  have hC0 : 0 ≤ d2 c b := by have := sq_nn z; omega
  have s3 : d2 b a * d2 c b ≤ (y + 1) * (y + 1) * ((z + 1) * (z + 1)) := Int.mul_le_mul (Int.le_of_lt y3) (Int.le_of_lt z3) hC0 (by omega)
  have e2 : (y + 1) * (z + 1) * ((y + 1) * (z + 1)) = (y + 1) * (y + 1) * ((z + 1) * (z + 1)) := by grind
  omega
theorem lengthAround_true (a b c : TPoint) : FLengthAround a b c = true := by
  have hm := mod_b (Faround1 a).X 100000 (by decide) (by decide)
  unfold FLengthAround
  obtain ⟨r, hr⟩ : ∃ r, r = 2 + FMod (Faround1 a).X 100000 := ⟨_, rfl⟩
  have er : W64 (2 + FMod (Faround1 a).X 100000) = r := by rw [hr]; exact W64_id (by omega) (by omega)
  have en : W64 (0 - r) = -r := by rw [W64_id (by omega) (by omega)]; omega
  rw [er, en]
  have hok : OkE ⟨3, ⟨r, 0⟩, ⟨0, -r⟩, ⟨0, 0⟩⟩ := by
    refine ⟨⟨?_, ?_, ?_⟩, .inr (.inr ⟨rfl, ?_, ?_, ?_⟩)⟩
    · unfold RP C27; simp only; omega
    · unfold RP C27; simp only; omega
    · unfold RP C27; simp only; omega
    · unfold Odd; simp only; omega
    · rfl
    · simp only; omega
  have hc6 : Fref06Check ⟨3, ⟨r, 0⟩, ⟨0, -r⟩, ⟨0, 0⟩⟩ = 0 := by rw [check6_eq]; unfold CheckM; rw [if_pos hok]
  have hc : FCheck ⟨3, ⟨r, 0⟩, ⟨0, -r⟩, ⟨0, 0⟩⟩ = 0 := by rw [check_eq]; unfold CheckM; rw [if_pos hok]
  have hrad : FRadius ⟨3, ⟨r, 0⟩, ⟨0, -r⟩, ⟨0, 0⟩⟩ = r := by
    rw [rad_eq]
    unfold RadM
    rw [if_pos ⟨hok, show ¬ (3 : Int) = 1 by decide⟩]
    simp only
    omega
  have hl : FlenEdge ⟨3, ⟨r, 0⟩, ⟨0, -r⟩, ⟨0, 0⟩⟩ = 355 * r / 226 := by
    unfold FlenEdge
    rw [hc, hrad]
    simp only [decide_true, Bool.not_true, cond_false]
    rw [show decide ((3 : Int) = 1) = false from rfl]
    simp only [Bool.not_false, cond_true]
    rw [W64_id (x := 355 * r) (by omega) (by omega), Int.tdiv_eq_ediv_of_nonneg (by omega), W64_id (by omega) (by omega)]
  rw [hc6, hl, sane25]
  have hx := len_line (around_b a) (around_b c)
  have hy := len_line (around_b a) (around_b b)
  have hz := len_line (around_b b) (around_b c)
  have ht := tri hx hy hz
  have hw := len_line (a := ⟨r, 0⟩) (b := ⟨0, -r⟩) (by unfold PT5; simp only; omega) (by unfold PT5; simp only; omega)
  have hwB : d2 ⟨0, -r⟩ ⟨r, 0⟩ = 2 * (r * r) := by unfold d2; simp only; grind
  rw [hwB] at hw
  obtain ⟨⟨w1, _⟩, w2, _⟩ := hw
  obtain ⟨⟨y1, y2⟩, _⟩ := hy
  obtain ⟨⟨z1, z2⟩, _⟩ := hz
  generalize FlenEdge (Flaw25line (Faround1 a) (Faround1 c)) = x at *
  generalize FlenEdge (Flaw25line (Faround1 a) (Faround1 b)) = y at *
  generalize FlenEdge (Flaw25line (Faround1 b) (Faround1 c)) = z at *
  generalize FlenEdge (Flaw25line ⟨r, 0⟩ ⟨0, -r⟩) = w at *
  have hwr : 226 * w ≤ 355 * r := by
    refine Int.not_lt.1 fun hlt => ?_
    have h1 := Int.mul_lt_mul_of_pos_right hlt (show 0 < 226 * w by omega)
    have h2 := Int.mul_le_mul_of_nonneg_left (Int.le_of_lt hlt) (show 0 ≤ 355 * r by omega)
    have e1 : 226 * w * (226 * w) = 51076 * (w * w) := by grind
    have e2 : 355 * r * (355 * r) = 126025 * (r * r) := by grind
    have := sq_nn r
    omega
  rw [W64_id (x := y + z) (by omega) (by omega), W64_id (x := y + z + 1) (by omega) (by omega), W64_id (x := 2 * r) (by omega) (by omega), decide_eq_true (show x ≤ y + z + 1 from ht), decide_eq_true (show w ≤ 355 * r / 226 by omega), decide_eq_true (show 355 * r / 226 ≤ 2 * r by omega)]
  rfl
end Go.Proofs.Ytgmhnkoifdpemaa
