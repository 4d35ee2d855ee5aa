/-
  No statement is proved in this text. It shows in plain numbers that LengthSqrt returns true.
-/
import Derived.Test.YtgmhnkoifdpemaaSane25
import Derived.Test.YtgmhnkoifdpemaaLengthSqrtW
namespace Go.Proofs.Ytgmhnkoifdpemaa
open Go.RowKit
set_option linter.unusedVariables false

theorem part_ok (x : Int) (h : x ≤ 9223372036854775807) (R : Bool) : (bif !decide ((FlenSqrt x : Int) = FrefSqrt x) then false else (bif bif bif decide ((0 : Int) ≤ x) then decide ((x : Int) < 2305843009213693952) else false then bif bif bif decide (((FlenSqrt x) : Int) < 0) then true else decide ((2147483648 : Int) < FlenSqrt x) then true else decide ((x : Int) < W64 (FlenSqrt x * FlenSqrt x)) then true else decide ((W64 (W64 (FlenSqrt x + 1) * W64 (FlenSqrt x + 1)) : Int) ≤ x) else false then false else R)) = R := by
  rw [decide_eq_true (sqrt_eq h)]
  simp only [Bool.not_true, cond_false]
  by_cases h0 : 0 ≤ x
  · by_cases h1 : x < 2305843009213693952
    · obtain ⟨⟨a1, a2⟩, a3, a4⟩ := ref_sqrt' h h0
      generalize FlenSqrt x = s at *
      have b1 : s ≤ 2147483648 := by
        refine Int.not_lt.1 fun hl => ?_
        have := sq_mono (a := 2147483648) (c := s) (by decide) (by omega)
        omega
      rw [decide_eq_true h0, decide_eq_true h1, decide_eq_false (show ¬ s < 0 by omega), decide_eq_false (show ¬ 2147483648 < s by omega), sq_w a1 a2, decide_eq_false (show ¬ x < s * s by omega), W64_id (x := s + 1) (by omega) (by omega), sq_w (s := s + 1) (by omega) (by omega), decide_eq_false (show ¬ (s + 1) * (s + 1) ≤ x by omega)]
      rfl
    · rw [decide_eq_false h1]
      cases decide (0 ≤ x) <;> rfl
  · rw [decide_eq_false h0]
    rfl
theorem lengthSqrt_true (n : Int) (hn : -9223372036854775808 ≤ n ∧ n ≤ 9223372036854775807) : FLengthSqrt n = true := by
  unfold FLengthSqrt
  have ht := tmod_rng n 1000000 (by decide)
  have hw := fun x => (w64_rng x).2
  rw [part_ok n hn.2, part_ok (Int.tmod n 1000000) (by omega), part_ok _ (hw _), part_ok _ (hw _), part_ok _ (hw _)]
  exact sane25
end Go.Proofs.Ytgmhnkoifdpemaa
