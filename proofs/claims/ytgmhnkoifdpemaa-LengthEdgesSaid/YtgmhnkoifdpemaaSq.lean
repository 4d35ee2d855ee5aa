/-
  No statement is proved in this text. It shows that the square root of an int, as a float, is a whole number within bounds when it is cut.
-/
import Derived.Test.YtgmhnkoifdpemaaS28
namespace Go.Proofs.Ytgmhnkoifdpemaa
open Go.RowKit
set_option linter.unusedVariables false

/-- The bits of the square root. -/
def fSqrt (x : Nat) : Nat := (FloatKind.f64.format.sqrt x).getD 0
theorem cut_le (way : Ieee.Toward) (neg : Bool) (n drop : Nat) : way.cut neg n drop ≤ n / 2 ^ (min drop (n.log2 + 2)) + 1 := by
  unfold Ieee.Toward.cut
  simp only [Nat.one_shiftLeft]
  have : ∀ b : Bool, b.toNat ≤ 1 := fun b => by cases b <;> decide
  exact Nat.add_le_add_left (this _) _
theorem cut_zero (neg : Bool) (n drop : Nat) : Ieee.Toward.zero.cut neg n drop ≤ n := by
  unfold Ieee.Toward.cut
  simp only [Bool.toNat_false, Nat.add_zero]
  exact Nat.div_le_self _ _
theorem lt_log (n : Nat) : n < 2 ^ (n.log2 + 1) := Nat.lt_log2_self
/-- What is kept of a number has at most 53 digits and one more. -/
theorem kept_le (mag : Nat) (place last : Int) (hm : mag ≠ 0) (h : place + mag.log2 - 52 ≤ last) : Ieee.Toward.even.cut false (mag <<< (place - last).toNat) (last - place).toNat ≤ 2 ^ 53 := by
  refine Nat.le_trans (cut_le _ _ _ _) ?_
  have hlt := lt_log mag
  by_cases hp : place ≤ last
  · have e0 : (place - last).toNat = 0 := by omega
    rw [e0, Nat.shiftLeft_zero]
    have : mag / 2 ^ (min (last - place).toNat (mag.log2 + 2)) < 2 ^ 53 := by
      refine Nat.div_lt_of_lt_mul ?_
      rw [← Nat.pow_add]
      refine Nat.lt_of_lt_of_le hlt (Nat.pow_le_pow_right (by decide) ?_)
      omega
    omega
  · have e0 : (last - place).toNat = 0 := by omega
    rw [e0, Nat.zero_min, Nat.pow_zero, Nat.div_one, Nat.shiftLeft_eq]
    have h1 : mag * 2 ^ (place - last).toNat < 2 ^ (mag.log2 + 1) * 2 ^ (place - last).toNat := Nat.mul_lt_mul_of_pos_right hlt (Nat.two_pow_pos _)
    rw [← Nat.pow_add] at h1
    have h2 : 2 ^ (mag.log2 + 1 + (place - last).toNat) ≤ 2 ^ 53 := Nat.pow_le_pow_right (by decide) (by omega)
    omega
theorem nearest_le (mag : Nat) (place : Int) (hm : mag ≠ 0) (hlow : -1074 ≤ place + mag.log2 - 52) : Ieee.double.nearest false mag place ≤ (place + mag.log2 - 52 + 1074).toNat * 2 ^ 52 + 2 ^ 53 := by
  have hleast : Ieee.double.leastPlace = -1074 := by decide
  have hbin : Ieee.double.binade = 2 ^ 52 := rfl
  have hfr : (Ieee.double.fractionBits : Int) = 52 := rfl
  unfold Ieee.Format.nearest
  rw [if_neg hm]
  simp only [hleast, hbin, hfr]
  have hmax : max (place + (mag.log2 : Int) - 52) (-1074) = place + mag.log2 - 52 := Int.max_eq_left hlow
  rw [hmax]
  have hk := kept_le mag place (place + mag.log2 - 52) hm (Int.le_refl _)
  unfold Ieee.Format.word
  simp only [Bool.false_eq_true, if_false]
  refine Nat.le_trans (Nat.min_le_left _ _) ?_
  have : (place + (mag.log2 : Int) - 52 - -1074).toNat = (place + mag.log2 - 52 + 1074).toNat := by omega
  rw [this]
  omega
theorem read_fin (r : Nat) (h : r ≤ 1086 * 2 ^ 52) : ∃ m i, Ieee.double.read r = .number false m i ∧ m < 2 ^ 53 ∧ -1074 ≤ i ∧ i ≤ max (-1074) (((r / 2 ^ 52 : Nat) : Int) - 1075) := by
  have hleast : Ieee.double.leastPlace = -1074 := by decide
  have hbin : Ieee.double.binade = 2 ^ 52 := rfl
  have hsign : Ieee.double.signWeight = 2 ^ 63 := rfl
  have hinf : Ieee.double.infRung = 2047 * 2 ^ 52 := rfl
  have h1 : r / 2 ^ 63 = 0 := Nat.div_eq_of_lt (by omega)
  have h2 : r % 2 ^ 63 = r := Nat.mod_eq_of_lt (by omega)
  unfold Ieee.Format.read
  simp only [hsign, hbin, hinf, hleast, h1, h2]
  by_cases hb : r < 2 ^ 52
  · rw [if_pos hb]
    exact ⟨r, -1074, rfl, by omega, by omega, by omega⟩
  · rw [if_neg hb, if_pos (by omega)]
    refine ⟨_, _, rfl, ?_, by omega, ?_⟩
    · have := Nat.mod_lt r (show 0 < 2 ^ 52 by decide)
      omega
    · have : 1 ≤ r / 2 ^ 52 := by
        rw [Nat.le_div_iff_mul_le (by decide)]; omega
      omega
theorem rootFrom_lt (n : Nat) : ∀ todo root, Ieee.Datum.rootFrom n todo root < root + 2 ^ todo
  | 0, root => by simp [Ieee.Datum.rootFrom]
  | t + 1, root => by
    unfold Ieee.Datum.rootFrom
    simp only [Nat.one_shiftLeft]
    have e : 2 ^ (t + 1) = 2 ^ t + 2 ^ t := by rw [Nat.pow_succ]; omega
    have hp := Nat.two_pow_pos t
    split
    · have := rootFrom_lt n t (root + 2 ^ t); omega
    · have := rootFrom_lt n t root; omega
theorem log2_lt {m k : Nat} (hm : m ≠ 0) (h : m < 2 ^ k) : m.log2 < k := (Nat.log2_lt hm).2 h
theorem root_fin (m : Nat) (i : Int) (hm : m < 2 ^ 53) (h1 : -1074 ≤ i) (h2 : i ≤ 11) : ∃ m' i', Ieee.Datum.root 54 (.number false m i) = some (.number false m' i') ∧ (m' = 0 ∨ (m' < 2 ^ 56 ∧ -700 ≤ i' ∧ i' ≤ -24)) := by
  by_cases h0 : m = 0
  · refine ⟨m, i, ?_, .inl h0⟩
    simp only [Ieee.Datum.root, h0, if_true]
  · simp only [Ieee.Datum.root, h0, Bool.false_eq_true, if_false]
    have hl : m.log2 < 53 := log2_lt h0 hm
    obtain ⟨p, hp⟩ : ∃ p, p = ((i - ((2 * 54 - m.log2 : Nat) : Int)) % 2).toNat := ⟨_, rfl⟩
    rw [← hp]
    have hp1 : p ≤ 1 := by omega
    have hn : m <<< (2 * 54 - m.log2 + p) < 2 ^ 110 := by
      rw [Nat.shiftLeft_eq]
      have a1 : m * 2 ^ (2 * 54 - m.log2 + p) < 2 ^ (m.log2 + 1) * 2 ^ (2 * 54 - m.log2 + p) := Nat.mul_lt_mul_of_pos_right (lt_log m) (Nat.two_pow_pos _)
      rw [← Nat.pow_add] at a1
      exact Nat.lt_of_lt_of_le a1 (Nat.pow_le_pow_right (by decide) (by omega))
    have hn0 : m <<< (2 * 54 - m.log2 + p) ≠ 0 := by
      rw [Nat.shiftLeft_eq]
      exact Nat.mul_ne_zero h0 (Nat.ne_of_gt (Nat.two_pow_pos _))
    generalize m <<< (2 * 54 - m.log2 + p) = n at *
    have hl2 := log2_lt hn0 hn
    have hr := rootFrom_lt n (n.log2 / 2 + 1) 0
    have hr2 : 2 ^ (n.log2 / 2 + 1) ≤ 2 ^ 55 := Nat.pow_le_pow_right (by decide) (by omega)
    generalize Ieee.Datum.rootFrom n (n.log2 / 2 + 1) 0 = q at *
    refine ⟨_, _, rfl, .inr ⟨?_, ?_, ?_⟩⟩
    · have : ∀ b : Bool, b.toNat ≤ 1 := fun b => by cases b <;> decide
      have := this (q * q != n)
      omega
    · omega
    · omega
/-- The root of an int as a float: a float that is cut to an int within bounds. -/
theorem sq_fin {n : Int} (h1 : 1 ≤ n) (h2 : n ≤ 9223372036854775807) : FloatKind.f64.format.sqrt (FloatKind.f64.nearest n) = some (fSqrt (FloatKind.f64.nearest n)) ∧ ∃ m, (FloatKind.f64.decode (fSqrt (FloatKind.f64.nearest n))).toInt .zero = some m ∧ 0 ≤ m ∧ m ≤ 9007199254740992 := by
  have hfmt : FloatKind.f64.format = Ieee.double := rfl
  have hneg : decide (n < 0) = false := decide_eq_false (by omega)
  have hnear : FloatKind.f64.nearest n = Ieee.double.nearest false n.natAbs 0 := by
    unfold FloatKind.nearest FloatKind.encode Ieee.Format.write
    rw [hfmt, hneg]
  rw [hnear, hfmt]
  have hn0 : n.natAbs ≠ 0 := by omega
  have hl := log2_lt hn0 (show n.natAbs < 2 ^ 63 by omega)
  have b1 := nearest_le n.natAbs 0 hn0 (by omega)
  generalize hr1 : Ieee.double.nearest false n.natAbs 0 = r1 at *
  have b1' : r1 ≤ 1086 * 2 ^ 52 := by
    have : (0 + (n.natAbs.log2 : Int) - 52 + 1074).toNat ≤ 1084 := by omega
    have := Nat.mul_le_mul_right (2 ^ 52) this
    omega
  obtain ⟨m, i, e1, e2, e3, e4⟩ := read_fin r1 b1'
  have hdiv : r1 / 2 ^ 52 ≤ 1086 := Nat.div_le_of_le_mul (by omega)
  obtain ⟨m', i', e5, e6⟩ := root_fin m i e2 e3 (by omega)
  have hs : Ieee.double.sqrt r1 = some (Ieee.double.nearest false m' i') := by
    unfold Ieee.Format.sqrt
    rw [e1]
    show ((Ieee.Datum.root 54 (.number false m i)).map Ieee.double.write) = _
    rw [e5]
    rfl
  have hf : fSqrt r1 = Ieee.double.nearest false m' i' := by unfold fSqrt; rw [hfmt, hs]; rfl
  refine ⟨by rw [hf]; exact hs, ?_⟩
  rw [hf]
  have b2 : Ieee.double.nearest false m' i' ≤ 1055 * 2 ^ 52 := by
    rcases e6 with rfl | ⟨e7, e8, e9⟩
    · unfold Ieee.Format.nearest; rw [if_pos rfl]; decide
    · by_cases hz : m' = 0
      · subst hz; unfold Ieee.Format.nearest; rw [if_pos rfl]; decide
      have hl3 := log2_lt hz e7
      have b3 := nearest_le m' i' hz (by omega)
      have : (i' + (m'.log2 : Int) - 52 + 1074).toNat ≤ 1053 := by omega
      have := Nat.mul_le_mul_right (2 ^ 52) this
      omega
  generalize Ieee.double.nearest false m' i' = r2 at *
  obtain ⟨m3, i3, e7, e8, e9, e10⟩ := read_fin r2 (by omega)
  have hdiv2 : r2 / 2 ^ 52 ≤ 1055 := Nat.div_le_of_le_mul (by omega)
  have hi3 : i3 ≤ -20 := by omega
  unfold FloatKind.decode
  rw [hfmt, e7]
  have hi0 : i3.toNat = 0 := by omega
  simp only [Ieee.Datum.toInt, Ieee.Datum.integral, hi0, Nat.shiftLeft_zero]
  have hc := cut_zero false m3 (-i3).toNat
  refine ⟨_, rfl, ?_, ?_⟩
  · unfold Ieee.signed; simp
  · unfold Ieee.signed
    simp only [Bool.false_eq_true, if_false, Nat.shiftLeft_zero]
    omega
theorem sq_f2i {n : Int} (h1 : 1 ≤ n) (h2 : n ≤ 9223372036854775807) : F2iOk .f64 (fSqrt (FloatKind.f64.nearest n)) .i64 ∧ 0 ≤ f2i .f64 (fSqrt (FloatKind.f64.nearest n)) ∧ f2i .f64 (fSqrt (FloatKind.f64.nearest n)) ≤ 9007199254740992 := by
  obtain ⟨_, m, e1, e2, e3⟩ := sq_fin h1 h2
  have e4 : f2i .f64 (fSqrt (FloatKind.f64.nearest n)) = m := by unfold f2i; rw [e1]; rfl
  rw [e4]
  exact ⟨⟨m, e1, by have : IntKind.i64.min = -9223372036854775808 := by decide
                    omega, by have : IntKind.i64.max = 9223372036854775807 := by decide
                              omega⟩, e2, e3⟩
end Go.Proofs.Ytgmhnkoifdpemaa
