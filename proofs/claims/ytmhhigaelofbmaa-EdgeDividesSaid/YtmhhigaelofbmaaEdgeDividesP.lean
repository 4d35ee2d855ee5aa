/-
  No statement is proved in this text. It holds that the law EdgeDivides answers true.
-/
import Derived.Test.YtmhhigaelofbmaaGeo5
import Derived.Test.YtmhhigaelofbmaaOpt
import Derived.Test.YtmhhigaelofbmaaEdgeDividesW
namespace Go.Proofs.Ytmhhigaelofbmaa
open Go.RowKit
set_option linter.unusedVariables false
set_option linter.unusedSimpArgs false

theorem divides {a s : TPoint} {i k : Int} (hi : 0 ≤ i) (hk : 0 ≤ k) (p : TPoint) (h1 : OkE ⟨1, a, ⟨a.X + i * s.X, a.Y + i * s.Y⟩, ⟨0, 0⟩⟩) (h2 : OkE ⟨1, ⟨a.X + i * s.X, a.Y + i * s.Y⟩, ⟨a.X + i * s.X + k * s.X, a.Y + i * s.Y + k * s.Y⟩, ⟨0, 0⟩⟩) (h3 : OkE ⟨1, a, ⟨a.X + i * s.X + k * s.X, a.Y + i * s.Y + k * s.Y⟩, ⟨0, 0⟩⟩) :
    RayM ⟨1, a, ⟨a.X + i * s.X, a.Y + i * s.Y⟩, ⟨0, 0⟩⟩ p + RayM ⟨1, ⟨a.X + i * s.X, a.Y + i * s.Y⟩, ⟨a.X + i * s.X + k * s.X, a.Y + i * s.Y + k * s.Y⟩, ⟨0, 0⟩⟩ p = RayM ⟨1, a, ⟨a.X + i * s.X + k * s.X, a.Y + i * s.Y + k * s.Y⟩, ⟨0, 0⟩⟩ p ∧
    OnE ⟨1, a, ⟨a.X + i * s.X + k * s.X, a.Y + i * s.Y + k * s.Y⟩, ⟨0, 0⟩⟩ ⟨a.X + i * s.X, a.Y + i * s.Y⟩ := by
  constructor
  · rw [line_ray _ _ _ _ h1, line_ray _ _ _ _ h2, line_ray _ _ _ _ h3]
    obtain ⟨c, hc⟩ : ∃ c, c = s.X * (p.Y - a.Y) - s.Y * (p.X - a.X) := ⟨_, rfl⟩
    have e1 : cr a ⟨a.X + i * s.X, a.Y + i * s.Y⟩ p = i * c := by unfold cr; simp only; subst hc; grind
    have e2 : cr ⟨a.X + i * s.X, a.Y + i * s.Y⟩ ⟨a.X + i * s.X + k * s.X, a.Y + i * s.Y + k * s.Y⟩ p = k * c := by unfold cr; simp only; subst hc; grind
    have e3 : cr a ⟨a.X + i * s.X + k * s.X, a.Y + i * s.Y + k * s.Y⟩ p = (i + k) * c := by unfold cr; simp only; subst hc; grind
    rw [e1, e2, e3]
    have m1 := sgn_mul i c hi
    have m2 := sgn_mul k c hk
    have m3 := sgn_mul (i + k) c (by omega)
    have m4 := sgn_mul i s.Y hi
    have m5 := sgn_mul k s.Y hk
    simp only [m1, m2, m3]
    clear e1 e2 e3 m1 m2 m3 h1 h2 h3 hc
    generalize i * s.Y = u at *
    generalize k * s.Y = v at *
    by_cases hs : 0 < s.Y
    · have hu : 0 ≤ u := by omega
      have hv : 0 ≤ v := by omega
      rw [if_neg (c := (a.Y + u ≤ p.Y ∧ p.Y < a.Y) ∧ 0 < i ∧ c < 0) (by omega), if_neg (c := (a.Y + u + v ≤ p.Y ∧ p.Y < a.Y + u) ∧ 0 < k ∧ c < 0) (by omega), if_neg (c := (a.Y + u + v ≤ p.Y ∧ p.Y < a.Y) ∧ 0 < i + k ∧ c < 0) (by omega)]
      by_cases hcc : 0 < c
      · split <;> split <;> split <;> omega
      · rw [if_neg (by omega), if_neg (by omega), if_neg (by omega)]; rfl
    · have hu : u ≤ 0 := by omega
      have hv : v ≤ 0 := by omega
      rw [if_neg (c := (a.Y ≤ p.Y ∧ p.Y < a.Y + u) ∧ 0 < i ∧ 0 < c) (by omega), if_neg (c := (a.Y + u ≤ p.Y ∧ p.Y < a.Y + u + v) ∧ 0 < k ∧ 0 < c) (by omega), if_neg (c := (a.Y ≤ p.Y ∧ p.Y < a.Y + u + v) ∧ 0 < i + k ∧ 0 < c) (by omega)]
      by_cases hcc : c < 0
      · split <;> split <;> split <;> omega
      · rw [if_neg (by omega), if_neg (by omega), if_neg (by omega)]; rfl
  · refine ⟨h3, ?_, ?_⟩
    · unfold InB
      simp only
      have m4 := sgn_mul i s.Y hi
      have m5 := sgn_mul k s.Y hk
      have m6 := sgn_mul i s.X hi
      have m7 := sgn_mul k s.X hk
      generalize i * s.Y = u at *
      generalize k * s.Y = v at *
      generalize i * s.X = u' at *
      generalize k * s.X = v' at *
      have hs : s.Y < 0 ∨ s.Y = 0 ∨ 0 < s.Y := by omega
      have hs' : s.X < 0 ∨ s.X = 0 ∨ 0 < s.X := by omega
      rcases hs with hs | hs | hs <;> rcases hs' with hs' | hs' | hs' <;> omega
    · unfold OnC cr
      simp only [if_true]
      grind
theorem edgeDivides_true (l : List Int) (many : TA46) (m : List Int) (hm : TA46.ok many) : FEdgeDivides l many m = true := by
  obtain ⟨k0, k1, _⟩ := hm
  have u8 : ∀ n, WF .u8 n → 0 ≤ n ∧ n ≤ 255 := fun n h => by
    unfold WF at h
    simp only [Lit.wf, IntKind.has, IntKind.min, IntKind.max, decide_eq_true_eq] at h
    simpa [IntKind.signed, IntKind.bits] using h
  have b0 := u8 _ k0
  have b1 := u8 _ k1
  have hi : ∀ n : Int, 0 ≤ n ∧ n ≤ 255 → 0 ≤ Int.tmod (W64 n) 20 ∧ Int.tmod (W64 n) 20 ≤ 19 := fun n h => by
    rw [W64_id (by omega) (by omega), Int.tmod_eq_emod_of_nonneg (by omega)]
    omega
  have i0 := hi _ b0
  have i1 := hi _ b1
  unfold FEdgeDivides
  have na := near_b ⟨l, 0⟩ 100 (by decide) (by decide)
  generalize FNear ⟨l, 0⟩ 100 = n0 at *
  have ns := near_b n0.2 9 (by decide) (by decide)
  generalize (FNear n0.2 9).1 = s at *
  generalize n0.1 = a at *
  generalize Int.tmod (W64 many.e0) 20 = i at *
  generalize Int.tmod (W64 many.e1) 20 = k at *
  have p1 := mul_b i s.X 19 9 (by omega) (by omega)
  have p2 := mul_b i s.Y 19 9 (by omega) (by omega)
  have p3 := mul_b k s.X 19 9 (by omega) (by omega)
  have p4 := mul_b k s.Y 19 9 (by omega) (by omega)
  have w : ∀ x : Int, -100000 ≤ x → x ≤ 100000 → W64 x = x := fun x h1 h2 => W64_id (by omega) (by omega)
  have e1 := w (i * s.X) (by omega) (by omega)
  have e2 := w (i * s.Y) (by omega) (by omega)
  have e3 := w (k * s.X) (by omega) (by omega)
  have e4 := w (k * s.Y) (by omega) (by omega)
  have e5 := w (a.X + i * s.X) (by omega) (by omega)
  have e6 := w (a.Y + i * s.Y) (by omega) (by omega)
  have e7 := w (a.X + i * s.X + k * s.X) (by omega) (by omega)
  have e8 := w (a.Y + i * s.Y + k * s.Y) (by omega) (by omega)
  simp only [e1, e2, e3, e4, e5, e6, e7, e8, ray1_eq, on1_eq]
  generalize FAt06 _ m = p
  have o1 : OkE ⟨1, a, ⟨a.X + i * s.X, a.Y + i * s.Y⟩, ⟨0, 0⟩⟩ := ⟨by simp only [Rights, RP, C27]; omega, .inl ⟨rfl, rfl, rfl⟩⟩
  have o2 : OkE ⟨1, ⟨a.X + i * s.X, a.Y + i * s.Y⟩, ⟨a.X + i * s.X + k * s.X, a.Y + i * s.Y + k * s.Y⟩, ⟨0, 0⟩⟩ := ⟨by simp only [Rights, RP, C27]; omega, .inl ⟨rfl, rfl, rfl⟩⟩
  have o3 : OkE ⟨1, a, ⟨a.X + i * s.X + k * s.X, a.Y + i * s.Y + k * s.Y⟩, ⟨0, 0⟩⟩ := ⟨by simp only [Rights, RP, C27]; omega, .inl ⟨rfl, rfl, rfl⟩⟩
  obtain ⟨q1, q2⟩ := divides (by omega) (by omega) p o1 o2 o3
  rw [q1]
  have hw : ∀ e p, W64 (RayM e p) = RayM e p := fun e p => by
    have : -1 ≤ RayM e p ∧ RayM e p ≤ 1 := by
      unfold RayM up
      split
      · split
        · omega
        · split <;> omega
      · omega
    exact W64_id (by omega) (by omega)
  simp only [hw, q2, decide_true, cond_true, sane]
end Go.Proofs.Ytmhhigaelofbmaa
