/-
  No statement is proved in this text. It bounds how many edges a made shape has.
-/
import Derived.Test.YtgmhnkoifdpemaaL25m
namespace Go.Proofs.Ytgmhnkoifdpemaa
open Go.RowKit
set_option linter.unusedVariables false
set_option linter.unusedSimpArgs false

theorem loop_len (l : List TPoint) : ∀ (n : Nat) (s : List TEdge) (k : Int), (FLoop_l0 l n s k).Edges.length ≤ s.length + ((l.length : Int) - k).toNat
  | 0, s, k => Nat.zero_le _
  | n + 1, s, k => by
    unfold FLoop_l0
    by_cases h : k < (l.length : Int)
    · rw [decide_eq_true h]
      simp only [cond_true]
      have := loop_len l n (s ++ [TEdge.mk 1 (l.getD k.toNat default) (wLoop_1 l k) (TPoint.mk 0 0)]) (k + 1)
      rw [List.length_append] at this
      simp only [List.length_cons, List.length_nil] at this
      omega
    · rw [decide_eq_false h]
      simp only [cond_false]
      omega
theorem path10_len (l : List Int) : ∀ (n : Nat) (s : List TEdge) (p : TPoint) (d : TDraw) (k : Int), (FMade10_l0 l n s p d k).Edges.length ≤ s.length + (W64 (1 + ((FNext ((FNext ((FNext (wMade10_2 l) 6).2) 6).2) 3).1)) - k).toNat
  | 0, s, p, d, k => Nat.zero_le _
  | n + 1, s, p, d, k => by
    unfold FMade10_l0
    by_cases h : k < W64 (1 + ((FNext ((FNext ((FNext (wMade10_2 l) 6).2) 6).2) 3).1))
    · rw [decide_eq_true h]
      simp only [cond_true]
      refine Nat.le_trans (path10_len l n _ _ _ (k + 1)) ?_
      rw [List.length_append]
      simp only [List.length_cons, List.length_nil]
      omega
    · rw [decide_eq_false h]
      simp only [cond_false]
      omega
theorem made10_len (l : List Int) : ((FMade10 l).Edges.length : Int) ≤ 1000000 := by
  have hb := (next_b ((FNext ((FNext (wMade10_2 l) 6).2) 6).2) 3 (by decide) (by decide))
  have hw : W64 (1 + ((FNext ((FNext ((FNext (wMade10_2 l) 6).2) 6).2) 3).1)) ≤ 3 := by rw [W64_id (by omega) (by omega)]; omega
  unfold FMade10
  cases decide ((((FNext (wMade10_2 l) 6).1) : Int) = 0) with
  | true =>
    simp only [cond_true]
    unfold wMade10_7 FRectR wRectR_0 FLoop
    refine Int.le_trans (Int.ofNat_le.2 (loop_len _ _ _ _)) ?_
    simp
  | false =>
    simp only [cond_false]
    cases decide ((((FNext (wMade10_2 l) 6).1) : Int) = 1) with
    | true => exact (by decide : ((8 : Nat) : Int) ≤ 1000000)
    | false =>
      simp only [cond_false]
      cases decide ((((FNext (wMade10_2 l) 6).1) : Int) = 2) with
      | true => exact (by decide : ((3 : Nat) : Int) ≤ 1000000)
      | false =>
        simp only [cond_false]
        cases decide ((((FNext (wMade10_2 l) 6).1) : Int) = 3) with
        | true => exact (by decide : ((1 : Nat) : Int) ≤ 1000000)
        | false =>
          simp only [cond_false]
          refine Int.le_trans (Int.ofNat_le.2 (path10_len _ _ _ _ _ _)) ?_
          simp only [List.length_nil]
          omega
end Go.Proofs.Ytgmhnkoifdpemaa
