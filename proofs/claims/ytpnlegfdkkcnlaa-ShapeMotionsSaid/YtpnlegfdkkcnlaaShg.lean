/-
  No statement is proved in this text. It holds what moving a shape gives.
-/
import Derived.Test.YtpnlegfdkkcnlaaK9v
namespace Go.Proofs.Ytpnlegfdkkcnlaa
open Go.RowKit
set_option linter.unusedVariables false

theorem moveS_l0 (s : TShape) (m : TMotion) : ∀ (n k : Nat) (l : List TEdge), k ≤ s.Edges.length → s.Edges.length - k < n → l = (s.Edges.take k).map (fun e => FMove e m) ++ s.Edges.drop k → FMoveS_l0 s m n l (k : Int) = ⟨s.Kind, s.Edges.map (fun e => FMove e m), s.R⟩
  | 0, k, l, hk, hn, _ => by omega
  | n + 1, k, l, hk, hn, hl => by
    unfold FMoveS_l0
    by_cases hlt : k < s.Edges.length
    · rw [decide_eq_true (show (k : Int) < ((s.Edges.length : Nat) : Int) by omega)]
      simp only [cond_true, Int.toNat_natCast]
      rw [show ((k : Int) + 1) = ((k + 1 : Nat) : Int) by omega]
      refine moveS_l0 s m n (k + 1) _ (by omega) (by omega) ?_
      subst hl
      have hlen : ((s.Edges.take k).map (fun e => FMove e m)).length = k := by simp; omega
      have hd : s.Edges.drop k = s.Edges[k] :: s.Edges.drop (k + 1) := List.drop_eq_getElem_cons hlt
      rw [hd]
      have h1 : ((s.Edges.take k).map (fun e => FMove e m) ++ s.Edges[k] :: s.Edges.drop (k + 1)).getD k default = s.Edges[k] := by
        rw [List.getD_eq_getElem?_getD, List.getElem?_append_right (by omega), hlen, Nat.sub_self]; rfl
      rw [h1, List.set_append_right _ _ (by omega), hlen, Nat.sub_self, List.set_cons_zero, List.take_succ_eq_append_getElem hlt, List.map_append, List.append_assoc]
      rfl
    · rw [decide_eq_false (show ¬ (k : Int) < ((s.Edges.length : Nat) : Int) by omega)]
      subst hl
      rw [List.drop_of_length_le (by omega), List.take_of_length_le (by omega), List.append_nil]
      rfl
theorem moveS_eq (s : TShape) (m : TMotion) : FMoveS s m = ⟨s.Kind, s.Edges.map (fun e => FMove e m), s.R⟩ := by
  unfold FMoveS
  have := moveS_l0 s m ((((((s.Edges.length : Nat) : Int))) - 0).toNat + 1) 0 s.Edges (by omega) (by omega) (by simp)
  exact this
theorem moveS_len (s : TShape) (m : TMotion) : (FMoveS s m).Edges.length = s.Edges.length := by rw [moveS_eq]; simp
end Go.Proofs.Ytpnlegfdkkcnlaa
