/-
  No statement is proved in this text. It shows in plain numbers that ShapeTurns returns true.
-/
import Derived.Test.YtpnlegfdkkcnlaaShe
import Derived.Test.YtpnlegfdkkcnlaaSane9
import Derived.Test.YtpnlegfdkkcnlaaShapeTurnsW
namespace Go.Proofs.Ytpnlegfdkkcnlaa
open Go.RowKit
set_option linter.unusedVariables false
set_option linter.unusedSimpArgs false

theorem ins_bool {s t : TShape} {p : TPoint} (h : InsM s p ↔ InsM t p) : FInsideS s p = FInsideS t p := by
  rw [Bool.eq_iff_iff, inside_eqS, inside_eqS]; exact h
theorem turns_l0 (l m : List Int) (first : Int) (hf : 0 ≤ first ∧ first ≤ 255) : ∀ (n k : Nat), k ≤ (FMade9 l).Edges.length → k < n → FShapeTurns_l0 l m first n (backE ((FMade9 l).Edges.drop k)) ((k : Int) - 1) = true
  | 0, k, hk, hn => by omega
  | n + 1, k, hk, hn => by
    have hS := made9_ok l
    obtain ⟨hok, hsm, h40, h8⟩ := hS
    have h1 := hok.1.2.1.1
    unfold FShapeTurns_l0
    cases k with
    | succ j =>
      rw [decide_eq_true (show (0 : Int) ≤ ((j + 1 : Nat) : Int) - 1 by omega)]
      simp only [cond_true]
      have ih := turns_l0 l m first hf n j (by omega) (by omega)
      have e1 : ((j + 1 : Nat) : Int) - 1 - 1 = (j : Int) - 1 := by omega
      have e2 : FReverse (wShapeTurns_2 l (((j + 1 : Nat) : Int) - 1)) = RevM ((FMade9 l).Edges.getD j default) := by
        unfold wShapeTurns_2
        rw [rev_eq, show ((((j + 1 : Nat) : Int) - 1).toNat) = j by omega]
      rw [e1, e2, ← backE_cons, ← drop_cons' (by omega)]
      exact ih
    | zero =>
      rw [decide_eq_false (show ¬ (0 : Int) ≤ ((0 : Nat) : Int) - 1 by omega), List.drop_zero]
      simp only [cond_false]
      have hb1 : FCheckS ⟨(FMade9 l).Kind, backE (FMade9 l).Edges, (FMade9 l).R⟩ = 0 := by rw [checkS_eq, checkMS_zero]; exact back_ok hok
      have hb2 : ∀ p, FInsideS ⟨(FMade9 l).Kind, backE (FMade9 l).Edges, (FMade9 l).R⟩ p = FInsideS (FMade9 l) p := fun p => ins_bool (back_ins hok p)
      have hb3 : FCheckS (FMade9 l) = 0 := by rw [checkS_eq, checkMS_zero]; exact hok
      rw [hb1, hb2, hb3, sane9]
      by_cases hk : (FMade9 l).Kind = 2
      · rw [decide_eq_true hk]
        simp only [cond_true, decide_true, beq_self_eq_true]
        generalize hg : (Int.tmod (W64 first) ((FMade9 l).Edges.length : Int)).toNat = g
        have hR : (FMade9 l).R = 0 := hok.2.2.2.2 hk
        have hsp : (FMade9 l) = ⟨(FMade9 l).Kind, (FMade9 l).Edges.take g ++ (FMade9 l).Edges.drop g, 0⟩ := by
          rw [List.take_append_drop, ← hR]
        have hok2 : OkS ⟨(FMade9 l).Kind, (FMade9 l).Edges.take g ++ (FMade9 l).Edges.drop g, 0⟩ := by rw [← hsp]; exact hok
        have ht1 : FCheckS ⟨(FMade9 l).Kind, (FMade9 l).Edges.drop g ++ (FMade9 l).Edges.take g, 0⟩ = 0 := by rw [checkS_eq, checkMS_zero]; exact turn_ok hok2 hk
        have ht2 : ∀ p, FInsideS ⟨(FMade9 l).Kind, (FMade9 l).Edges.drop g ++ (FMade9 l).Edges.take g, 0⟩ p = FInsideS (FMade9 l) p := fun p => by
          have := ins_bool (turn_ins hok2 hk p)
          rwa [← hsp] at this
        rw [hR, ht1, ht2]
        simp only [beq_self_eq_true, decide_true, cond_true]
      · rw [decide_eq_false hk]
        simp only [cond_true, cond_false, decide_true, beq_self_eq_true]
theorem shapeTurns_true (l m : List Int) (first : Int) (hf : 0 ≤ first ∧ first ≤ 255) : FShapeTurns l m first = true := by
  have h8 := made9_len l
  unfold FShapeTurns
  have := turns_l0 l m first hf ((W64 (((FMade9 l).Edges.length : Int) - 1) + 1).toNat + 1) (FMade9 l).Edges.length (Nat.le_refl _) (by rw [W64_id (by omega) (by omega)]; omega)
  rw [List.drop_of_length_le (Nat.le_refl _)] at this
  rw [show W64 (((FMade9 l).Edges.length : Int) - 1) = ((FMade9 l).Edges.length : Int) - 1 from W64_id (by omega) (by omega)] at *
  exact this
end Go.Proofs.Ytpnlegfdkkcnlaa
