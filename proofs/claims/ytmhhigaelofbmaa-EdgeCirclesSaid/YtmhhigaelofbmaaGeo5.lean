/-
  No statement is proved in this text. It holds where made points lie, and what lines are crossed.
-/
import Derived.Test.YtmhhigaelofbmaaGeo4
namespace Go.Proofs.Ytmhhigaelofbmaa
open Go.RowKit
set_option linter.unusedVariables false
set_option linter.unusedSimpArgs false

theorem ray1_eq (a b c p : TPoint) : FRay1 a b c p = RayM ⟨1, a, b, c⟩ p := ray_eq ⟨1, a, b, c⟩ p
theorem on1_eq (a b c p : TPoint) : FOn1 a b c p = decide (OnE ⟨1, a, b, c⟩ p) := on_eq ⟨1, a, b, c⟩ p
theorem tdiv_b (a b B : Int) (h : -B ≤ a ∧ a ≤ B) : -B ≤ Int.tdiv a b ∧ Int.tdiv a b ≤ B := by
  have h1 : (a.tdiv b).natAbs ≤ a.natAbs := by
    rw [Int.natAbs_tdiv]
    exact Nat.div_le_self _ _
  omega
theorem rad_small {e : TEdge} (h : Small e) : 0 ≤ RadM e ∧ RadM e ≤ 1200 := by
  unfold RadM
  unfold Small at h
  split <;> omega
theorem mem_b {l : List Int} (B : Int) (h : ∀ x ∈ l, -B ≤ x ∧ x ≤ B) (hB : 0 ≤ B) (k : Nat) : -B ≤ l.getD k 0 ∧ l.getD k 0 ≤ B := by
  rw [List.getD_eq_getElem?_getD]
  by_cases hk : k < l.length
  · rw [List.getElem?_eq_getElem hk]; exact h _ (List.getElem_mem _)
  · rw [List.getElem?_eq_none (by omega)]; simp only [Option.getD_none]; omega
def Near10 (p : TPoint) : Prop := (-40000 ≤ p.X ∧ p.X ≤ 40000) ∧ -40000 ≤ p.Y ∧ p.Y ≤ 40000
theorem at_small {e : TEdge} (h : Small e) (l : List Int) : Near10 (FAt06 e l) := by
  have hr := rad_small h
  unfold FAt06
  simp only [rad6_eq]
  generalize RadM e = R at *
  have b0 := near_b ⟨l, 0⟩ 120 (by decide) (by decide)
  generalize FNear ⟨l, 0⟩ 120 = n0 at *
  generalize FNext n0.2 6 = n1 at *
  generalize FNext n1.2 2 = n2 at *
  have b3 := next_b n2.2 3 (by decide) (by decide)
  generalize FNext n2.2 3 = n3 at *
  have b5 := next_b n1.2 5 (by decide) (by decide)
  generalize FNext n1.2 5 = n5 at *
  have c3 := next_b (FNext n5.2 2).2 3 (by decide) (by decide)
  generalize hq3 : FNext (FNext n5.2 2).2 3 = q3 at *
  generalize FNext n5.2 5 = m5 at *
  generalize FNext m5.2 2 = s1 at *
  generalize FNext s1.2 2 = s2 at *
  have d3 := next_b (FNext s2.2 2).2 3 (by decide) (by decide)
  generalize hr3 : FNext (FNext s2.2 2).2 3 = r3 at *
  have g1 := fun k => mem_b (l := [1, -1]) 1 (by decide) (by decide) k
  have g2 := fun k => mem_b (l := [3, 4, 5, 7, 0]) 7 (by decide) (by decide) k
  have g3 := fun k => mem_b (l := [4, 3, 12, 24, 1]) 24 (by decide) (by decide) k
  have key : ∀ (s q b : Int), (-1 ≤ s ∧ s ≤ 1) → (-24 ≤ q ∧ q ≤ 24) → -28800 ≤ W64 (Int.tdiv (W64 (W64 (s * q) * R)) b) ∧ W64 (Int.tdiv (W64 (W64 (s * q) * R)) b) ≤ 28800 := fun s q b hs hq => by
    have h1 := mul_b s q 1 24 (by omega) hq
    have e1 : W64 (s * q) = s * q := W64_id (by omega) (by omega)
    have h2 := mul_b (s * q) R 24 1200 (by omega) (by omega)
    have e2 : W64 (s * q * R) = s * q * R := W64_id (by omega) (by omega)
    rw [e1, e2]
    have h3 := tdiv_b (s * q * R) b 28800 (by omega)
    rw [W64_id (by omega) (by omega)]
    exact h3
  have key2 : ∀ (x : Int), (-600 ≤ x ∧ x ≤ 600) → -2400 ≤ W64 (Int.tdiv (W64 (W64 x * n5.1)) 4) ∧ W64 (Int.tdiv (W64 (W64 x * n5.1)) 4) ≤ 2400 := fun x hx => by
    have e1 : W64 x = x := W64_id (by omega) (by omega)
    have h2 := mul_b x n5.1 600 4 hx (by omega)
    have e2 : W64 (x * n5.1) = x * n5.1 := W64_id (by omega) (by omega)
    rw [e1, e2]
    have h3 := tdiv_b (x * n5.1) 4 2400 (by omega)
    rw [W64_id (by omega) (by omega)]
    exact h3
  unfold Small at h
  have t1 := key (([1, -1] : List Int).getD s1.1.toNat 0) (([3, 4, 5, 7, 0] : List Int).getD n5.1.toNat 0) (([5, 5, 13, 25, 1] : List Int).getD m5.1.toNat 0) (g1 _) (by have := g2 n5.1.toNat; omega)
  have t2 := key (([1, -1] : List Int).getD s2.1.toNat 0) (([4, 3, 12, 24, 1] : List Int).getD n5.1.toNat 0) (([5, 5, 13, 25, 1] : List Int).getD m5.1.toNat 0) (g1 _) (g3 _)
  have t3 := key2 (e.B.X - e.A.X) (by omega)
  have t4 := key2 (e.B.Y - e.A.Y) (by omega)
  generalize W64 (Int.tdiv (W64 (W64 ((([1, -1] : List Int).getD s1.1.toNat 0) * (([3, 4, 5, 7, 0] : List Int).getD n5.1.toNat 0)) * R)) (([5, 5, 13, 25, 1] : List Int).getD m5.1.toNat 0)) = T1 at *
  generalize W64 (Int.tdiv (W64 (W64 ((([1, -1] : List Int).getD s2.1.toNat 0) * (([4, 3, 12, 24, 1] : List Int).getD n5.1.toNat 0)) * R)) (([5, 5, 13, 25, 1] : List Int).getD m5.1.toNat 0)) = T2 at *
  generalize W64 (Int.tdiv (W64 (W64 (e.B.X - e.A.X) * n5.1)) 4) = T3 at *
  generalize W64 (Int.tdiv (W64 (W64 (e.B.Y - e.A.Y) * n5.1)) 4) = T4 at *
  clear key key2 g1 g2 g3
  simp only [cnd_if]
  unfold Near10
  (repeat' split) <;> simp only [W64_def] <;> omega

/-! ### Lines -/
theorem sgn_mul (x c : Int) (hx : 0 ≤ x) : (0 < x * c ↔ 0 < x ∧ 0 < c) ∧ (x * c < 0 ↔ 0 < x ∧ c < 0) := by
  by_cases h0 : x = 0
  · subst h0; simp
  have hp : 0 < x := by omega
  rcases Int.lt_trichotomy c 0 with h | h | h
  · have := Int.mul_neg_of_pos_of_neg hp h
    omega
  · subst h; simp
  · have := Int.mul_pos hp h
    omega
theorem line_ray (a b c p : TPoint) (h : OkE ⟨1, a, b, c⟩) : RayM ⟨1, a, b, c⟩ p = if (a.Y ≤ p.Y ∧ p.Y < b.Y) ∧ 0 < cr a b p then 1 else if (b.Y ≤ p.Y ∧ p.Y < a.Y) ∧ cr a b p < 0 then -1 else 0 := by
  have e1 : cr a b p = (b.Y - p.Y) * (a.X - p.X) + (p.Y - a.Y) * (b.X - p.X) := by unfold cr; grind
  have e2 : cr a b p = -((p.Y - b.Y) * (a.X - p.X) + (a.Y - p.Y) * (b.X - p.X)) := by unfold cr; grind
  unfold RayM
  by_cases h1 : a.Y ≤ p.Y ∧ p.Y < b.Y
  · have hu : up ⟨1, a, b, c⟩ = 1 := by unfold up; rw [if_pos (by simp only; omega)]
    have hu2 : a.Y < b.Y := by omega
    have h2 : ¬ (b.Y ≤ p.Y ∧ p.Y < a.Y) := by omega
    rw [hu]
    simp only [h, h1, h2, InR, Bey, hu2, if_true, true_and, false_and, if_false, and_true]
    have m1 := sgn_mul (b.Y - p.Y) (a.X - p.X) (by omega)
    have m2 := sgn_mul (p.Y - a.Y) (b.X - p.X) (by omega)
    generalize (b.Y - p.Y) * (a.X - p.X) = u at *
    generalize (p.Y - a.Y) * (b.X - p.X) = v at *
    split <;> split <;> first | rfl | (exfalso; omega)
  · by_cases h2 : b.Y ≤ p.Y ∧ p.Y < a.Y
    · have hu : up ⟨1, a, b, c⟩ = -1 := by unfold up; rw [if_neg (by simp only; omega), if_pos (by simp only; omega)]
      have hu2 : ¬ a.Y < b.Y := by omega
      rw [hu]
      simp only [h, h1, h2, InR, Bey, hu2, if_true, true_and, false_and, if_false, and_true]
      have m1 := sgn_mul (p.Y - b.Y) (a.X - p.X) (by omega)
      have m2 := sgn_mul (a.Y - p.Y) (b.X - p.X) (by omega)
      generalize (p.Y - b.Y) * (a.X - p.X) = u at *
      generalize (a.Y - p.Y) * (b.X - p.X) = v at *
      split <;> split <;> first | rfl | (exfalso; omega)
    · rw [if_neg, if_neg (fun h => h1 h.1), if_neg (fun h => h2 h.1)]
      rintro ⟨_, ⟨h3, _⟩, _⟩
      simp only at h3
      omega
end Go.Proofs.Ytmhhigaelofbmaa
