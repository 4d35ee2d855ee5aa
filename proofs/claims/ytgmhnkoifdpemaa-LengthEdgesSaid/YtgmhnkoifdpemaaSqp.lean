/-
  No statement is proved in this text. It shows that both square roots are the root, rounded down.
-/
import Derived.Test.YtgmhnkoifdpemaaL25
namespace Go.Proofs.Ytgmhnkoifdpemaa
open Go.RowKit
set_option linter.unusedVariables false

/-- The square root, rounded down. -/
def IsR (n s : Int) : Prop := (0 ≤ s ∧ s ≤ 3037000499) ∧ s * s ≤ n ∧ n < (s + 1) * (s + 1)
theorem sq_mono {a c : Int} (h0 : 0 ≤ a) (h : a ≤ c) : a * a ≤ c * c := Int.mul_le_mul h h h0 (by omega)
theorem isR_uniq {n s t : Int} (hs : IsR n s) (ht : IsR n t) : s = t := by
  obtain ⟨⟨a1, a2⟩, a3, a4⟩ := hs
  obtain ⟨⟨b1, b2⟩, b3, b4⟩ := ht
  rcases Int.lt_trichotomy s t with h | h | h
  · have := sq_mono (a := s + 1) (c := t) (by omega) (by omega); omega
  · exact h
  · have := sq_mono (a := t + 1) (c := s) (by omega) (by omega); omega
theorem top_sq {n s : Int} (hn : n ≤ 9223372036854775807) (hs : 3037000499 ≤ s) : n < (s + 1) * (s + 1) := by
  have := sq_mono (a := 3037000500) (c := s + 1) (by decide) (by omega)
  omega
theorem sq_w {s : Int} (h0 : 0 ≤ s) (h1 : s ≤ 3037000499) : W64 (s * s) = s * s := by
  have := sq_mono h0 h1
  have h2 := sq_mono (a := 0) (c := s) (by omega) h0
  exact W64_id (by omega) (by omega)
theorem len_l1 (n s0 : Int) (K0 : Int → Int) (hn : n ≤ 9223372036854775807) : ∀ (f : Nat) (s : Int), 0 ≤ s → s ≤ 3037000499 → (3037000499 - s).toNat < f → s * s ≤ n → IsR n (FlenSqrt_l1 n s0 K0 f s)
  | 0, s, _, _, hf, _ => by omega
  | f + 1, s, h0, h1, hf, hs => by
    unfold FlenSqrt_l1
    by_cases hlt : s < 3037000499
    · rw [decide_eq_true hlt]
      simp only [cond_true]
      rw [sq_w (s := s + 1) (by omega) (by omega)]
      by_cases hc : (s + 1) * (s + 1) ≤ n
      · rw [decide_eq_true hc]
        exact len_l1 n s0 K0 hn f (s + 1) (by omega) (by omega) (by omega) hc
      · rw [decide_eq_false hc]
        exact ⟨⟨h0, h1⟩, hs, by show n < (s + 1) * (s + 1); omega⟩
    · rw [decide_eq_false hlt]
      simp only [cond_false]
      exact ⟨⟨h0, h1⟩, hs, top_sq hn (by omega)⟩
theorem len_l0 (n : Int) (hn : n ≤ 9223372036854775807) (h1 : 1 ≤ n) : ∀ (f : Nat) (s : Int), 0 ≤ s → s ≤ 3037000499 → s.toNat < f → IsR n (FlenSqrt_l0 n f s)
  | 0, s, _, _, hf => by omega
  | f + 1, s, h0, h2, hf => by
    unfold FlenSqrt_l0
    rw [sq_w h0 h2]
    by_cases hc : n < s * s
    · rw [decide_eq_true hc]
      have hne : s ≠ 0 := fun e => by rw [e] at hc; simp at hc; omega
      exact len_l0 n hn h1 f (s - 1) (by omega) (by omega) (by omega)
    · rw [decide_eq_false hc]
      exact len_l1 n s _ hn _ s h0 h2 (by omega) (by omega)
theorem len_sqrt {n : Int} (hn : n ≤ 9223372036854775807) (h1 : 1 ≤ n) : IsR n (FlenSqrt n) := by
  unfold FlenSqrt
  rw [decide_eq_false (show ¬ n ≤ 0 by omega)]
  have h := sq_f2i h1 hn
  exact len_l0 n hn h1 _ _ (by unfold FmathSqrt; omega) (by omega) (by omega)
theorem len_sqrt0 {n : Int} (h : n ≤ 0) : FlenSqrt n = 0 := by
  unfold FlenSqrt
  rw [decide_eq_true h]
  rfl
theorem ref_l0 (n : Int) (hn : n ≤ 9223372036854775807) (hn0 : 0 ≤ n) : ∀ (f k : Nat) (out : Int), k ≤ 32 → k < f → 0 ≤ out → out ≤ 3037000499 → out * out ≤ n → n < (out + (2 : Int) ^ k) * (out + (2 : Int) ^ k) → IsR n (FrefSqrt_l0 n f out ((k : Int) - 1))
  | 0, k, out, _, hf, _, _, _, _ => by omega
  | f + 1, 0, out, hk, hf, h0, h1, h2, h3 => by
    unfold FrefSqrt_l0
    rw [decide_eq_false (show ¬ (0 : Int) ≤ ((0 : Nat) : Int) - 1 by omega)]
    exact ⟨⟨h0, h1⟩, h2, h3⟩
  | f + 1, k + 1, out, hk, hf, h0, h1, h2, h3 => by
    unfold FrefSqrt_l0
    rw [decide_eq_true (show (0 : Int) ≤ ((k + 1 : Nat) : Int) - 1 by omega)]
    simp only [cond_true]
    have ek : ((((k + 1 : Nat) : Int) - 1).toNat) = k := by omega
    have em : min k 64 = k := by omega
    have hpow : (2 : Int) ^ (k + 1) = 2 ^ k + 2 ^ k := by rw [Int.pow_succ]; omega
    have hp1 : (1 : Int) ≤ 2 ^ k ∧ (2 : Int) ^ k ≤ 2147483648 := by
      have h5 : 1 ≤ 2 ^ k := Nat.one_le_two_pow
      have h6 : 2 ^ k ≤ 2 ^ 31 := Nat.pow_le_pow_right (by decide) (by omega)
      have h7 : ((2 ^ k : Nat) : Int) = (2 : Int) ^ k := by simp
      omega
    rw [ek, em, Int.one_mul, W64_id (x := (2 : Int) ^ k) (by omega) (by omega), W64_id (x := out + 2 ^ k) (by omega) (by omega)]
    have e1 : ((k + 1 : Nat) : Int) - 1 - 1 = (k : Int) - 1 := by omega
    rw [e1]
    rw [hpow, ← Int.add_assoc] at h3
    by_cases hc : out + (2 : Int) ^ k ≤ 3037000499
    · rw [decide_eq_true hc]
      simp only [cond_true]
      rw [sq_w (s := out + 2 ^ k) (by omega) hc]
      by_cases hd : (out + (2 : Int) ^ k) * (out + 2 ^ k) ≤ n
      · rw [decide_eq_true hd]
        simp only [cond_true]
        exact ref_l0 n hn hn0 f k _ (by omega) (by omega) (by omega) hc hd h3
      · rw [decide_eq_false hd]
        simp only [cond_false]
        exact ref_l0 n hn hn0 f k _ (by omega) (by omega) h0 h1 h2 (by omega)
    · rw [decide_eq_false hc]
      simp only [cond_false]
      refine ref_l0 n hn hn0 f k _ (by omega) (by omega) h0 h1 h2 ?_
      have := top_sq (n := n) (s := out + 2 ^ k - 1) hn (by omega)
      rwa [Int.sub_add_cancel] at this
theorem ref_sqrt {n : Int} (hn : n ≤ 9223372036854775807) (h0 : 0 ≤ n) : IsR n (FrefSqrt n) := by
  unfold FrefSqrt
  exact ref_l0 n hn h0 _ 32 0 (by omega) (by decide) (by omega) (by omega) (by omega) (by
    have : ((0 : Int) + 2 ^ 32) * (0 + 2 ^ 32) = 18446744073709551616 := by decide
    omega)
theorem ref_neg (n : Int) (hn : n < 0) : ∀ (f k : Nat), k ≤ 32 → k < f → FrefSqrt_l0 n f 0 ((k : Int) - 1) = 0
  | 0, k, _, hf => by omega
  | f + 1, 0, hk, hf => by
    unfold FrefSqrt_l0
    rw [decide_eq_false (show ¬ (0 : Int) ≤ ((0 : Nat) : Int) - 1 by omega)]
    rfl
  | f + 1, k + 1, hk, hf => by
    unfold FrefSqrt_l0
    rw [decide_eq_true (show (0 : Int) ≤ ((k + 1 : Nat) : Int) - 1 by omega)]
    simp only [cond_true]
    have ek : ((((k + 1 : Nat) : Int) - 1).toNat) = k := by omega
    have em : min k 64 = k := by omega
    have hp1 : (1 : Int) ≤ 2 ^ k ∧ (2 : Int) ^ k ≤ 2147483648 := by
      have h5 : 1 ≤ 2 ^ k := Nat.one_le_two_pow
      have h6 : 2 ^ k ≤ 2 ^ 31 := Nat.pow_le_pow_right (by decide) (by omega)
      have h7 : ((2 ^ k : Nat) : Int) = (2 : Int) ^ k := by simp
      omega
    rw [ek, em, Int.one_mul, W64_id (x := (2 : Int) ^ k) (by omega) (by omega), W64_id (x := 0 + 2 ^ k) (by omega) (by omega)]
    have e1 : ((k + 1 : Nat) : Int) - 1 - 1 = (k : Int) - 1 := by omega
    rw [e1]
    have hd : ¬ W64 ((0 + (2 : Int) ^ k) * (0 + 2 ^ k)) ≤ n := by
      rw [sq_w (s := 0 + 2 ^ k) (by omega) (by omega)]
      have := sq_mono (a := 0) (c := 0 + (2 : Int) ^ k) (by omega) (by omega)
      omega
    rw [decide_eq_false hd]
    rw [show (bif decide ((0 : Int) + 2 ^ k ≤ 3037000499) then false else false) = false by cases decide ((0 : Int) + 2 ^ k ≤ 3037000499) <;> rfl]
    simp only [cond_false]
    exact ref_neg n hn f k (by omega) (by omega)
theorem sqrt_eq {n : Int} (hn : n ≤ 9223372036854775807) : FlenSqrt n = FrefSqrt n := by
  rcases Int.lt_trichotomy n 0 with h | h | h
  · rw [len_sqrt0 (by omega)]
    exact (ref_neg n h 33 32 (by omega) (by omega)).symm
  · subst h
    rw [len_sqrt0 (by omega)]
    exact (isR_uniq (ref_sqrt (by decide) (by decide)) ⟨by decide, by decide, by decide⟩).symm
  · exact isR_uniq (len_sqrt hn (by omega)) (ref_sqrt hn (by omega))
theorem ref_sqrt' {n : Int} (hn : n ≤ 9223372036854775807) (h0 : 0 ≤ n) : IsR n (FlenSqrt n) := by rw [sqrt_eq hn]; exact ref_sqrt hn h0
end Go.Proofs.Ytgmhnkoifdpemaa
