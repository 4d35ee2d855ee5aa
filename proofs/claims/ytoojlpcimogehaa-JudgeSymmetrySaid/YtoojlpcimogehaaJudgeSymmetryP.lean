/-
  No statement is proved in this text. What JudgeSymmetry computes is true.
-/
import Derived.Test.YtoojlpcimogehaaProg
import Derived.Test.YtoojlpcimogehaaJudgeSymmetryW
import Derived.Test.YtoojlpcimogehaaPr21
namespace Go.Proofs.Ytoojlpcimogehaa
open Go.RowKit
set_option linter.unusedVariables false
theorem cl34_swap (m : Nat) (r : TRule) (p q : TAsked) : Fcl34 m r p q = Fcl34 m r q p := by
  show (bif decide ((r.What : Int) = 1) then bif bif Feval m p r.A then Feval m q r.B else false then true else bif Feval m q r.A then Feval m p r.B else false else false) = (bif decide ((r.What : Int) = 1) then bif bif Feval m q r.A then Feval m p r.B else false then true else bif Feval m p r.A then Feval m q r.B else false else false)
  cases decide (r.What = 1) <;> cases Feval m p r.A <;> cases Feval m q r.A <;> cases Feval m p r.B <;> cases Feval m q r.B <;> rfl
theorem net_swap (x y : TItem) : wjClear_0 x y = wjClear_0 y x := by
  show (bif (x.Net.toList == y.Net.toList) then !(x.Net.toList == (({ data := #[] } : ByteArray)).toList) else false) = (bif (y.Net.toList == x.Net.toList) then !(y.Net.toList == (({ data := #[] } : ByteArray)).toList) else false)
  by_cases h : x.Net.toList = y.Net.toList
  · rw [h]
  · rw [show (x.Net.toList == y.Net.toList) = false from beq_eq_false_iff_ne.2 h, show (y.Net.toList == x.Net.toList) = false from beq_eq_false_iff_ne.2 fun e => h e.symm]
    rfl
theorem clear_swap (m : Nat) (b : TBoard) (x y : TItem) (layer : Int) : FjClear m b x y layer = FjClear m b y x layer := by
  rw [jClear_eq, jClear_eq, net_swap]
  congr 2
  exact filter_eq b.Rules fun r => cl34_swap m r _ _
theorem most_ge (b : TBoard) : ∀ f (k : Nat) (a : Int), b.Rules.length - k < f → a ≤ FjMost_l0 b f a (k : Int) ∧ ∀ r ∈ b.Rules.drop k, r.What = 1 → r.Value ≤ FjMost_l0 b f a (k : Int) := by
  intro f
  induction f with
  | zero => intro k a h; omega
  | succ f ih =>
    intro k a h
    unfold FjMost_l0
    by_cases hk : k < b.Rules.length
    · rw [decide_eq_true (show (k : Int) < (b.Rules.length : Int) by omega), drop_cons b.Rules k hk]
      simp only [cond_true, Int.toNat_natCast]
      have e : ((k : Nat) : Int) + 1 = ((k + 1 : Nat) : Int) := by omega
      rw [e]
      have i := ih (k + 1) (bif decide ((((b.Rules.getD k default).What) : Int) = 1) then (max a ((b.Rules.getD k default).Value)) else a) (by omega)
      refine ⟨Int.le_trans ?_ i.1, fun r hr hw => ?_⟩
      · cases decide ((((b.Rules.getD k default).What) : Int) = 1)
        · exact Int.le_refl _
        · exact Int.le_max_left ..
      · rcases List.mem_cons.1 hr with hr | hr
        · refine Int.le_trans ?_ i.1
          rw [hr] at hw ⊢
          rw [decide_eq_true hw]
          exact Int.le_max_right ..
        · exact i.2 r hr hw
    · rw [decide_eq_false (show ¬ (k : Int) < (b.Rules.length : Int) by omega), List.drop_eq_nil_of_le (by omega)]
      exact ⟨Int.le_refl _, fun r hr => by cases hr⟩
theorem most_all (b : TBoard) : 0 ≤ FjMost b ∧ ∀ r ∈ b.Rules, r.What = 1 → r.Value ≤ FjMost b := by
  have h := most_ge b (((((b.Rules.length : Int))) - 0).toNat + 1) 0 0 (by omega)
  exact h
theorem conf_b {M : Int} (hM : 0 ≤ M) (r0 : TRule) (h0 : 0 ≤ r0.Value ∧ r0.Value ≤ M) : ∀ l, 0 ≤ (confR r0 l).1 ∧ (confR r0 l).1 ≤ M
  | [] => h0
  | r :: l => by
    unfold confR
    by_cases h : r.Value = r0.Value
    · rw [if_pos h]; exact conf_b hM r0 h0 l
    · rw [if_neg h]; exact ⟨Int.le_refl 0, hM⟩
theorem sres_b {M : Int} (hM : 0 ≤ M) (rs : List TRule) (h : ∀ r ∈ rs, 0 ≤ r.Value ∧ r.Value ≤ M) : 0 ≤ (Sres rs).1 ∧ (Sres rs).1 ≤ M := by
  unfold Sres
  have hm : ∀ r ∈ rs.foldl stepJ [], 0 ≤ r.Value ∧ r.Value ≤ M := by
    intro r hr
    rcases mem_fold rs [] r hr with hr | hr
    · cases hr
    · exact h r hr
  generalize rs.foldl stepJ [] = t at hm
  cases t with
  | nil => exact ⟨Int.le_refl 0, hM⟩
  | cons a t => exact conf_b hM a (hm a (List.mem_cons_self ..)) t
theorem clear_b (m : Nat) (l : List (List Int)) (x y : TItem) (layer : Int) : 0 ≤ (FjClear m (FBoard l) x y layer).1 ∧ (FjClear m (FBoard l) x y layer).1 ≤ FjMost (FBoard l) := by
  have hm := most_all (FBoard l)
  rw [jClear_eq]
  cases wjClear_0 x y
  · refine sres_b hm.1 _ fun r hr => ?_
    have hr := List.mem_filter.1 hr
    refine ⟨(board_in l r hr.1).1, hm.2 r hr.1 ?_⟩
    have h := hr.2
    change (bif decide ((r.What : Int) = 1) then bif bif Feval m _ r.A then Feval m _ r.B else false then true else bif Feval m _ r.A then Feval m _ r.B else false else false) = true at h
    by_cases hw : r.What = 1
    · exact hw
    · rw [decide_eq_false hw] at h
      cases h
  · exact ⟨Int.le_refl 0, hm.1⟩
theorem clear_net (m : Nat) (b : TBoard) (x y : TItem) (layer : Int) (h : (bif !(x.Net.toList == y.Net.toList) then true else (x.Net.toList == (({ data := #[] } : ByteArray)).toList)) = false) : FjClear m b x y layer = (0, ({ data := #[] } : ByteArray), 0) := by
  rw [jClear_eq, show wjClear_0 x y = (bif (x.Net.toList == y.Net.toList) then !(x.Net.toList == (({ data := #[] } : ByteArray)).toList) else false) from rfl]
  cases h1 : (x.Net.toList == y.Net.toList)
  · rw [h1] at h; cases h
  · rw [h1] at h
    cases h2 : (x.Net.toList == (({ data := #[] } : ByteArray)).toList)
    · rfl
    · rw [h2] at h; cases h
theorem judgeSymmetry_true (l : List (List Int)) (m : TA24) (layer : Int) : FJudgeSymmetry l m layer = true := by
  unfold FJudgeSymmetry
  have h := clear_b 2 l (FItem m.e0) (FItem m.e1) layer
  rw [clear_swap 2 (FBoard l) (FItem m.e1) (FItem m.e0) layer, sanity_true, decide_eq_false (show ¬ (FjClear 2 (FBoard l) (FItem m.e0) (FItem m.e1) layer).1 < 0 by omega), decide_eq_false (show ¬ FjMost (FBoard l) < (FjClear 2 (FBoard l) (FItem m.e0) (FItem m.e1) layer).1 by omega)]
  simp only [decide_true, Bool.not_true, beq_self_eq_true, cond_true, cond_false]
  cases hn : (bif !((FItem m.e0).Net.toList == (FItem m.e1).Net.toList) then true else ((FItem m.e0).Net.toList == (({ data := #[] } : ByteArray)).toList))
  · rw [clear_net 2 (FBoard l) (FItem m.e0) (FItem m.e1) layer hn]
    simp
  · rfl
end Go.Proofs.Ytoojlpcimogehaa
