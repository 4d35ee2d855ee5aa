/-
  No statement is proved in this text. It holds what functions return.
-/
import Derived.Test.YtoojlpcimogehaaProg
import Derived.Test.YtoojlpcimogehaaK21f
import Derived.Test.YtoojlpcimogehaaK21d
namespace Go.Proofs.Ytoojlpcimogehaa
open Go.RowKit
set_option linter.unusedVariables false
set_option linter.unusedSimpArgs false
def NmOk (r : TRule) : Prop := r.Name.size ≤ 140737488355328
theorem nmOk_zero (A B : TCond) : NmOk ⟨⟨#[]⟩, 0, 0, A, B, 0⟩ := by show (⟨#[]⟩ : ByteArray).size ≤ _; exact Nat.zero_le _
def FrResult_l1 (l : (List TRule)) (v5 : Int) (v6 : Int) (K0 : Int → Int → (Int × ByteArray × Int)) : Nat → TRule → Bool → Int → (Int × ByteArray × Int)
  | 0, _, _, _ => default
  | n1 + 1, v7, v8, v9 => bif decide ((v9 : Int) < ((l.length : Int))) then (bif !decide ((((l.getD v9.toNat default).Priority) : Int) = v5) then ((FrResult_l1 l v5 v6 K0 n1) v7 v8 (v9 + 1)) else (bif !v8 then ((FrResult_l1 l v5 v6 K0 n1) (l.getD v9.toNat default) true (v9 + 1)) else (bif !decide ((((l.getD v9.toNat default).Value) : Int) = v7.Value) then ((0, (v7.Name ++ (({ data := #[47] } : ByteArray))) ++ ((l.getD v9.toNat default).Name), 41)) else ((FrResult_l1 l v5 v6 K0 n1) v7 v8 (v9 + 1))))) else ((v7.Value, v7.Name, 0))
def FrResult_l0 (l : (List TRule)) : Nat → Int → Int → (Int × ByteArray × Int)
  | 0, _, _ => default
  | n0 + 1, v5, v6 => bif decide ((v6 : Int) < ((l.length : Int))) then ((FrResult_l0 l n0) (max v5 ((l.getD v6.toNat default).Priority)) (v6 + 1)) else (FrResult_l1 l v5 v6 (FrResult_l0 l n0) (((((l.length : Int))) - 0).toNat + 1) (TRule.mk (⟨#[]⟩) 0 0 (TCond.mk 0 (⟨#[]⟩) 0 (TRect.mk 0 0 0 0) []) (TCond.mk 0 (⟨#[]⟩) 0 (TRect.mk 0 0 0 0) []) 0) false 0)
def FrResult (l : (List TRule)) : (Int × ByteArray × Int) := bif decide ((((l.length : Int)) : Int) = 0) then ((0, ({ data := #[] } : ByteArray), 0)) else (FrResult_l0 l (((((l.length : Int))) - 1).toNat + 1) ((l.getD 0 default).Priority) 1)
set_option maxRecDepth 100000 in
theorem prResult (n : Nat) (l : (List TRule)) (hl : (l.length : Int) ≤ 1000000) (hsz : SzOk l) : Pure Try.prog 36 [.one (lst 20 (ruleC (LL (n))) l)] (.tup [.one (.i ((FrResult l).1)), .one (.s ((FrResult l).2.1)), .one (.i ((FrResult l).2.2))]) := by
  refine pure_of_awF Try.func36 rfl (by kernel_rfl) (by kernel_rfl) fun W0 M0 => ?_
  refine aw_seq ?_
  refine aw_region eqok [] [] [] [0] [] [] ⟨[(0, .av (.one (lst 20 (ruleC (LL (n))) l)))], []⟩ .nil (by kernel_rfl) .nil ?_
  refine ath_n ?_
  refine aw_seq ?_
  refine aw_seq ?_
  refine aw_region eqok [] [] [] [0, 12] [] [] ⟨[(0, .av (.one (lst 20 (ruleC (LL (n))) l))), (12, tB (decide ((((l.length : Int)) : Int) = 0)))], []⟩ .nil (by kernel_rfl) .nil ?_
  refine ath_n ?_
  refine aw_cond (decide ((((l.length : Int)) : Int) = 0)) (by kernel_rfl) (fun h1 => ?_) (fun h1 => ?_)
  · have g1 := of_decide_eq_true h1
    refine aw_seq ?_
    refine aw_region eqok [] [] [] [2, 3, 4] [] [] ⟨[(2, tI 0), (3, .av (.one (.s (({ data := #[] } : ByteArray))))), (4, tI 0)], []⟩ .nil (by kernel_rfl) .nil ?_
    refine ath_n ?_
    refine aw_ret ?_
    refine ath_r ?_
    exact ⟨_, Cv.refl _, .inl rfl, .tup [.one (.i 0), .one (.s (({ data := #[] } : ByteArray))), .one (.i 0)], by kernel_rfl, tve_eq (by first | (simp only [FrResult, h1, cond_true, cond_false]; done) | (simp only [FrResult, h1, cond_true, cond_false]; rfl))⟩
  · have g1 := of_decide_eq_false h1
    refine aw_skip ?_
    refine ath_n ?_
    refine aw_seq ?_
    refine aw_region eqok [] [] [] [0, 5] [] [0 ≤ (0 : Int) ∧ (0 : Int) < ((l.length : Nat) : Int)] ⟨[(0, .av (.one (lst 20 (ruleC (LL (n))) l))), (5, tI ((l.getD 0 default).Priority))], []⟩ .nil (by kernel_rfl) (.cons (by first | decide | omega | exact idx_tmod (by first | omega | (simp only [W64_def]; omega)) (by omega) | (simp only [W64_def]; omega) | (constructor <;> omega) | (simp only [List.length_append, List.length_cons, List.length_nil]; omega) | (simp only [List.length_append, List.length_cons, List.length_nil, List.length_drop, List.length_take] at *; omega)) .nil) ?_
    refine ath_n ?_
    refine aw_seq ?_
    refine aw_seq ?_
    refine aw_region eqok [] [] [] [0, 5, 6] [] [] ⟨[(0, .av (.one (lst 20 (ruleC (LL (n))) l))), (5, tI ((l.getD 0 default).Priority)), (6, tI 1)], []⟩ .nil (by kernel_rfl) .nil ?_
    refine ath_n ?_
    refine aw_block ?_
    refine aw_loopC (ι := Nat × Int × Int) (fun x => ⟨[(0, .av (.one (lst 20 (ruleC (LL (n))) l))), (5, tI x.2.1), (6, tI x.2.2)], []⟩) (fun x => ((((l.length : Int))) - x.2.2).toNat < x.1 ∧ (1 ≤ x.2.2 ∧ (x.2.2 ≤ ((l.length : Int)) ∨ x.2.2 = 1)) ∧ FrResult_l0 l x.1 x.2.1 x.2.2 = FrResult l) (fun x => x.1) ?_ (((((l.length : Int))) - 1).toNat + 1, (l.getD 0 default).Priority, 1) ⟨Nat.lt_succ_self _, ⟨(by show 1 ≤ 1; first | trivial | omega | (simp only [List.length_append, List.length_cons, List.length_nil]; omega) | (simp only [List.length_set, List.length_append, List.length_cons, List.length_nil]; omega) | (simp only [W64_def]; omega) | (simp; omega) | simp), (by show (1 ≤ ((l.length : Int)) ∨ 1 = 1); first | trivial | omega | (simp only [List.length_append, List.length_cons, List.length_nil]; omega) | (simp only [List.length_set, List.length_append, List.length_cons, List.length_nil]; omega) | (simp only [W64_def]; omega) | (simp; omega) | simp)⟩, (by simp only [FrResult, h1, cond_true, cond_false])⟩
    rintro ⟨n0, v5, v6⟩ ⟨hn, hinv, hF⟩
    have hm0 : ((((l.length : Int))) - v6).toNat < n0 := hn; have hinv0 : 1 ≤ v6 ∧ (v6 ≤ ((l.length : Int)) ∨ v6 = 1) := hinv; have hF0 : FrResult_l0 l n0 v5 v6 = FrResult l := hF; clear hn hinv hF
    cases n0 with
    | zero => exact absurd hm0 (Nat.not_lt_zero _)
    | succ n0 =>
      refine aw_seq ?_
      refine aw_seq ?_
      refine aw_region eqok [] [] [] [0, 5, 6, 20] [] [] ⟨[(0, .av (.one (lst 20 (ruleC (LL (n))) l))), (5, tI v5), (6, tI v6), (20, tB (decide ((v6 : Int) < ((l.length : Int)))))], []⟩ .nil (by kernel_rfl) .nil ?_
      refine ath_n ?_
      refine aw_cond (decide ((v6 : Int) < ((l.length : Int)))) (by kernel_rfl) (fun h2 => ?_) (fun h2 => ?_)
      · have g2 := of_decide_eq_true h2
        refine aw_skip ?_
        refine ath_n ?_
        refine aw_seq ?_
        refine aw_block ?_
        refine aw_region eqok [] [] [] [0, 5, 6] [] [0 ≤ (v6 : Int) ∧ (v6 : Int) < ((l.length : Nat) : Int)] ⟨[(0, .av (.one (lst 20 (ruleC (LL (n))) l))), (5, tI (max v5 ((l.getD v6.toNat default).Priority))), (6, tI v6)], []⟩ .nil (by kernel_rfl) (.cons (by first | decide | omega | exact idx_tmod (by first | omega | (simp only [W64_def]; omega)) (by omega) | (simp only [W64_def]; omega) | (constructor <;> omega) | (simp only [List.length_append, List.length_cons, List.length_nil]; omega) | (simp only [List.length_append, List.length_cons, List.length_nil, List.length_drop, List.length_take] at *; omega)) .nil) ?_
        refine abl_n ?_
        refine ath_n ?_
        refine aw_region eqok [] [] [] [0, 5, 6] [] [] ⟨[(0, .av (.one (lst 20 (ruleC (LL (n))) l))), (5, tI (max v5 ((l.getD v6.toNat default).Priority))), (6, tI (W64 (v6 + 1)))], []⟩ .nil (by kernel_rfl) .nil ?_
        (try rw [(show W64 (v6 + 1) = v6 + 1 from W64_id (by omega) (by first | omega | (simp only [List.length_drop, List.length_take] at *; omega)))])
        refine ath_n ?_
        refine ⟨(n0, max v5 ((l.getD v6.toNat default).Priority), v6 + 1), ⟨?_, ?_, (by rw [← hF0]; simp only [FrResult_l0, h2, cond_true, cond_false])⟩, Nat.lt_succ_self _, cv_eq (by kernel_rfl)⟩
        · show ((((l.length : Int))) - (v6 + 1)).toNat < n0; omega
        · exact ⟨(by show 1 ≤ (v6 + 1); first | trivial | omega | (simp only [List.length_append, List.length_cons, List.length_nil]; omega) | (simp only [List.length_set, List.length_append, List.length_cons, List.length_nil]; omega) | (simp only [W64_def]; omega) | (simp; omega) | simp), (by show ((v6 + 1) ≤ ((l.length : Int)) ∨ (v6 + 1) = 1); first | trivial | omega | (simp only [List.length_append, List.length_cons, List.length_nil]; omega) | (simp only [List.length_set, List.length_append, List.length_cons, List.length_nil]; omega) | (simp only [W64_def]; omega) | (simp; omega) | simp)⟩
      · have g2 := of_decide_eq_false h2
        refine aw_exit ?_
        refine ath_e ?_
        refine ath_e ?_
        refine abl_hit ?_
        refine ath_n ?_
        refine aw_seq ?_
        refine aw_region eqok [] [] [] [0, 5, 7] [7] [] ⟨[(0, .av (.one (lst 20 (ruleC (LL (n))) l))), (5, tI v5), (7, tP 7 0)], [(7, .cells [.s (⟨#[]⟩), .i 0, .i 0, .i 0, .s (⟨#[]⟩), .i 0, .i 0, .i 0, .i 0, .i 0, .val (.slice none 0 0), .i 0, .s (⟨#[]⟩), .i 0, .i 0, .i 0, .i 0, .i 0, .val (.slice none 0 0), .i 0] 61)]⟩ .nil (by kernel_rfl) .nil ?_
        refine ath_n ?_
        refine aw_seq ?_
        refine aw_region eqok [] [] [] [0, 5, 7, 8] [7] [] ⟨[(0, .av (.one (lst 20 (ruleC (LL (n))) l))), (5, tI v5), (7, tP 7 0), (8, tB false)], [(7, .cells [.s (⟨#[]⟩), .i 0, .i 0, .i 0, .s (⟨#[]⟩), .i 0, .i 0, .i 0, .i 0, .i 0, .val (.slice none 0 0), .i 0, .s (⟨#[]⟩), .i 0, .i 0, .i 0, .i 0, .i 0, .val (.slice none 0 0), .i 0] 61)]⟩ .nil (by kernel_rfl) .nil ?_
        refine ath_n ?_
        refine aw_seq ?_
        refine aw_seq ?_
        refine aw_region eqok [] [] [] [0, 5, 7, 8, 9] [7] [] ⟨[(0, .av (.one (lst 20 (ruleC (LL (n))) l))), (5, tI v5), (7, tP 7 0), (8, tB false), (9, tI 0)], [(7, .cells [.s (⟨#[]⟩), .i 0, .i 0, .i 0, .s (⟨#[]⟩), .i 0, .i 0, .i 0, .i 0, .i 0, .val (.slice none 0 0), .i 0, .s (⟨#[]⟩), .i 0, .i 0, .i 0, .i 0, .i 0, .val (.slice none 0 0), .i 0] 61)]⟩ .nil (by kernel_rfl) .nil ?_
        refine ath_n ?_
        refine aw_block ?_
        refine aw_cv (Cv.trans (cv_ce (⟨[(0, .av (.one (lst 20 (ruleC (LL (n))) l))), (5, tI v5), (7, tP 7 0), (8, tB false), (9, tI 0)], [(7, .cells ((ruleC (LL (n))) (TRule.mk (⟨#[]⟩) 0 0 (TCond.mk 0 (⟨#[]⟩) 0 (TRect.mk 0 0 0 0) []) (TCond.mk 0 (⟨#[]⟩) 0 (TRect.mk 0 0 0 0) []) 0)) 61)]⟩) (.cons ⟨rfl, .refl _⟩ (.cons ⟨rfl, .refl _⟩ (.cons ⟨rfl, .refl _⟩ (.cons ⟨rfl, .refl _⟩ (.cons ⟨rfl, .refl _⟩ .nil))))) (.cons ⟨rfl, .cells _ (.cons (.refl _) (.cons (.refl _) (.cons (.refl _) (.cons (.refl _) (.cons (.refl _) (.cons (.refl _) (.cons (.refl _) (.cons (.refl _) (.cons (.refl _) (.cons (.refl _) (.cons (cle_LL (n)) (.cons (.refl _) (.cons (.refl _) (.cons (.refl _) (.cons (.refl _) (.cons (.refl _) (.cons (.refl _) (.cons (.refl _) (.cons (cle_LL (n)) (.cons (.refl _) .nil))))))))))))))))))))⟩ .nil)) (Cv.refl _)) ?_
        refine aw_loopC (ι := Nat × TRule × Bool × Int) (fun x => ⟨[(0, .av (.one (lst 20 (ruleC (LL (n))) l))), (5, tI v5), (7, tP 7 0), (8, tB x.2.2.1), (9, tI x.2.2.2)], [(7, .cells ((ruleC (LL (n))) x.2.1) 61)]⟩) (fun x => ((((l.length : Int))) - x.2.2.2).toNat < x.1 ∧ (NmOk x.2.1 ∧ 0 ≤ x.2.2.2 ∧ (x.2.2.2 ≤ ((l.length : Int)) ∨ x.2.2.2 = 0)) ∧ FrResult_l1 l v5 v6 (FrResult_l0 l n0) x.1 x.2.1 x.2.2.1 x.2.2.2 = FrResult l) (fun x => x.1) ?_ (((((l.length : Int))) - 0).toNat + 1, TRule.mk (⟨#[]⟩) 0 0 (TCond.mk 0 (⟨#[]⟩) 0 (TRect.mk 0 0 0 0) []) (TCond.mk 0 (⟨#[]⟩) 0 (TRect.mk 0 0 0 0) []) 0, false, 0) ⟨Nat.lt_succ_self _, ⟨(by show NmOk (TRule.mk (⟨#[]⟩) 0 0 (TCond.mk 0 (⟨#[]⟩) 0 (TRect.mk 0 0 0 0) []) (TCond.mk 0 (⟨#[]⟩) 0 (TRect.mk 0 0 0 0) []) 0); first | assumption | exact hsz _ | exact nmOk_zero _ _), (by show 0 ≤ 0; first | trivial | omega | (simp only [List.length_append, List.length_cons, List.length_nil]; omega) | (simp only [List.length_set, List.length_append, List.length_cons, List.length_nil]; omega) | (simp only [W64_def]; omega) | (simp; omega) | simp), (by show (0 ≤ ((l.length : Int)) ∨ 0 = 0); first | trivial | omega | (simp only [List.length_append, List.length_cons, List.length_nil]; omega) | (simp only [List.length_set, List.length_append, List.length_cons, List.length_nil]; omega) | (simp only [W64_def]; omega) | (simp; omega) | simp)⟩, (by rw [← hF0]; simp only [FrResult_l0, h2, cond_true, cond_false])⟩
        rintro ⟨n1, v7, v8, v9⟩ ⟨hn, hinv, hF⟩
        have hm1 : ((((l.length : Int))) - v9).toNat < n1 := hn; have hinv1 : NmOk v7 ∧ 0 ≤ v9 ∧ (v9 ≤ ((l.length : Int)) ∨ v9 = 0) := hinv; have hF1 : FrResult_l1 l v5 v6 (FrResult_l0 l n0) n1 v7 v8 v9 = FrResult l := hF; clear hn hinv hF
        cases n1 with
        | zero => exact absurd hm1 (Nat.not_lt_zero _)
        | succ n1 =>
          have hi1_0 := hinv1.1
          refine aw_seq ?_
          refine aw_seq ?_
          refine aw_region eqok [] [] [] [0, 5, 7, 8, 9, 33] [7] [] ⟨[(0, .av (.one (lst 20 (ruleC (LL (n))) l))), (5, tI v5), (7, tP 7 0), (8, tB v8), (9, tI v9), (33, tB (decide ((v9 : Int) < ((l.length : Int)))))], [(7, .cells ((ruleC (LL (n))) v7) 61)]⟩ .nil (by kernel_rfl) .nil ?_
          refine ath_n ?_
          refine aw_cond (decide ((v9 : Int) < ((l.length : Int)))) (by kernel_rfl) (fun h3 => ?_) (fun h3 => ?_)
          · have g3 := of_decide_eq_true h3
            refine aw_skip ?_
            refine ath_n ?_
            refine aw_seq ?_
            refine aw_block ?_
            refine aw_seq ?_
            refine aw_seq ?_
            refine aw_region eqok [] [] [] [0, 5, 7, 8, 9, 42] [7] [0 ≤ (v9 : Int) ∧ (v9 : Int) < ((l.length : Nat) : Int)] ⟨[(0, .av (.one (lst 20 (ruleC (LL (n))) l))), (5, tI v5), (7, tP 7 0), (8, tB v8), (9, tI v9), (42, tB (!decide ((((l.getD v9.toNat default).Priority) : Int) = v5)))], [(7, .cells ((ruleC (LL (n))) v7) 61)]⟩ .nil (by kernel_rfl) (.cons (by first | decide | omega | exact idx_tmod (by first | omega | (simp only [W64_def]; omega)) (by omega) | (simp only [W64_def]; omega) | (constructor <;> omega) | (simp only [List.length_append, List.length_cons, List.length_nil]; omega) | (simp only [List.length_append, List.length_cons, List.length_nil, List.length_drop, List.length_take] at *; omega)) .nil) ?_
            refine ath_n ?_
            refine aw_cond (!decide ((((l.getD v9.toNat default).Priority) : Int) = v5)) (by kernel_rfl) (fun h4 => ?_) (fun h4 => ?_)
            · have g4 := of_not_decide_true h4
              refine aw_exit ?_
              refine ath_e ?_
              refine abl_hit ?_
              refine ath_n ?_
              refine aw_region eqok [] [] [] [0, 5, 7, 8, 9] [7] [] ⟨[(0, .av (.one (lst 20 (ruleC (LL (n))) l))), (5, tI v5), (7, tP 7 0), (8, tB v8), (9, tI (W64 (v9 + 1)))], [(7, .cells ((ruleC (LL (n))) v7) 61)]⟩ .nil (by kernel_rfl) .nil ?_
              (try rw [(show W64 (v9 + 1) = v9 + 1 from W64_id (by omega) (by first | omega | (simp only [List.length_drop, List.length_take] at *; omega)))])
              refine ath_n ?_
              refine ⟨(n1, v7, v8, v9 + 1), ⟨?_, ?_, (by rw [← hF1]; simp only [FrResult_l1, h3, h4, cond_true, cond_false])⟩, Nat.lt_succ_self _, cv_eq (by kernel_rfl)⟩
              · show ((((l.length : Int))) - (v9 + 1)).toNat < n1; omega
              · exact ⟨(by show NmOk v7; first | assumption | exact hsz _ | exact nmOk_zero _ _), (by show 0 ≤ (v9 + 1); first | trivial | omega | (simp only [List.length_append, List.length_cons, List.length_nil]; omega) | (simp only [List.length_set, List.length_append, List.length_cons, List.length_nil]; omega) | (simp only [W64_def]; omega) | (simp; omega) | simp), (by show ((v9 + 1) ≤ ((l.length : Int)) ∨ (v9 + 1) = 0); first | trivial | omega | (simp only [List.length_append, List.length_cons, List.length_nil]; omega) | (simp only [List.length_set, List.length_append, List.length_cons, List.length_nil]; omega) | (simp only [W64_def]; omega) | (simp; omega) | simp)⟩
            · have g4 := of_not_decide_false h4
              refine aw_skip ?_
              refine ath_n ?_
              refine aw_seq ?_
              refine aw_seq ?_
              refine aw_region eqok [] [] [] [0, 5, 7, 8, 9, 44] [7] [] ⟨[(0, .av (.one (lst 20 (ruleC (LL (n))) l))), (5, tI v5), (7, tP 7 0), (8, tB v8), (9, tI v9), (44, tB (!v8))], [(7, .cells ((ruleC (LL (n))) v7) 61)]⟩ .nil (by kernel_rfl) .nil ?_
              refine ath_n ?_
              refine aw_cond (!v8) (by kernel_rfl) (fun h5 => ?_) (fun h5 => ?_)
              · refine aw_seq ?_
                refine aw_region eqok [] [] [] [0, 5, 7, 9] [7] [0 ≤ (v9 : Int) ∧ (v9 : Int) < ((l.length : Nat) : Int)] ⟨[(0, .av (.one (lst 20 (ruleC (LL (n))) l))), (5, tI v5), (7, tP 7 0), (9, tI v9)], [(7, .cells ((ruleC (LL (n))) (l.getD v9.toNat default)) 61)]⟩ .nil (by kernel_rfl) (.cons (by first | decide | omega | exact idx_tmod (by first | omega | (simp only [W64_def]; omega)) (by omega) | (simp only [W64_def]; omega) | (constructor <;> omega) | (simp only [List.length_append, List.length_cons, List.length_nil]; omega) | (simp only [List.length_append, List.length_cons, List.length_nil, List.length_drop, List.length_take] at *; omega)) .nil) ?_
                refine ath_n ?_
                refine aw_region eqok [] [] [] [0, 5, 7, 8, 9] [7] [] ⟨[(0, .av (.one (lst 20 (ruleC (LL (n))) l))), (5, tI v5), (7, tP 7 0), (8, tB true), (9, tI v9)], [(7, .cells ((ruleC (LL (n))) (l.getD v9.toNat default)) 61)]⟩ .nil (by kernel_rfl) .nil ?_
                refine ath_n ?_
                refine aw_seq ?_
                refine aw_draw mixed eqok [] [] [] [0, 5, 7, 8, 9, 56] [7] [0 ≤ (v9 : Int) ∧ (v9 : Int) < ((l.length : Nat) : Int)] ⟨[(0, .av (.one (lst 20 (ruleC (LL (n))) l))), (5, tI v5), (7, tP 7 0), (8, tB true), (9, tI v9), (56, tB (!decide ((((l.getD v9.toNat default).Value) : Int) = ((l.getD v9.toNat default).Value))))], [(7, .cells ((ruleC (LL (n))) (l.getD v9.toNat default)) 61)]⟩ .nil (by kernel_rfl) (by kernel_rfl) (.cons (by first | decide | omega | exact idx_tmod (by first | omega | (simp only [W64_def]; omega)) (by omega) | (simp only [W64_def]; omega) | (constructor <;> omega) | (simp only [List.length_append, List.length_cons, List.length_nil]; omega) | (simp only [List.length_append, List.length_cons, List.length_nil, List.length_drop, List.length_take] at *; omega)) .nil) ?_
                refine ath_n ?_
                have h6 : (!decide ((((l.getD v9.toNat default).Value) : Int) = ((l.getD v9.toNat default).Value))) = false := (by simp)
                have g6 := of_not_decide_false h6
                refine aw_cond (!decide ((((l.getD v9.toNat default).Value) : Int) = ((l.getD v9.toNat default).Value))) (by kernel_rfl) (fun h => absurd (h6.symm.trans h) (by decide)) (fun _ => ?_)
                refine aw_skip ?_
                refine abl_n ?_
                refine ath_n ?_
                refine aw_region eqok [] [] [] [0, 5, 7, 8, 9] [7] [] ⟨[(0, .av (.one (lst 20 (ruleC (LL (n))) l))), (5, tI v5), (7, tP 7 0), (8, tB true), (9, tI (W64 (v9 + 1)))], [(7, .cells ((ruleC (LL (n))) (l.getD v9.toNat default)) 61)]⟩ .nil (by kernel_rfl) .nil ?_
                (try rw [(show W64 (v9 + 1) = v9 + 1 from W64_id (by omega) (by first | omega | (simp only [List.length_drop, List.length_take] at *; omega)))])
                refine ath_n ?_
                refine ⟨(n1, l.getD v9.toNat default, true, v9 + 1), ⟨?_, ?_, (by rw [← hF1]; simp only [FrResult_l1, h3, h4, h5, h6, cond_true, cond_false])⟩, Nat.lt_succ_self _, cv_eq (by kernel_rfl)⟩
                · show ((((l.length : Int))) - (v9 + 1)).toNat < n1; omega
                · exact ⟨(by show NmOk (l.getD v9.toNat default); first | assumption | exact hsz _ | exact nmOk_zero _ _), (by show 0 ≤ (v9 + 1); first | trivial | omega | (simp only [List.length_append, List.length_cons, List.length_nil]; omega) | (simp only [List.length_set, List.length_append, List.length_cons, List.length_nil]; omega) | (simp only [W64_def]; omega) | (simp; omega) | simp), (by show ((v9 + 1) ≤ ((l.length : Int)) ∨ (v9 + 1) = 0); first | trivial | omega | (simp only [List.length_append, List.length_cons, List.length_nil]; omega) | (simp only [List.length_set, List.length_append, List.length_cons, List.length_nil]; omega) | (simp only [W64_def]; omega) | (simp; omega) | simp)⟩
              · refine aw_skip ?_
                refine ath_n ?_
                refine aw_seq ?_
                refine aw_draw mixed eqok [] [] [] [0, 5, 7, 8, 9, 56] [7] [0 ≤ (v9 : Int) ∧ (v9 : Int) < ((l.length : Nat) : Int)] ⟨[(0, .av (.one (lst 20 (ruleC (LL (n))) l))), (5, tI v5), (7, tP 7 0), (8, tB v8), (9, tI v9), (56, tB (!decide ((((l.getD v9.toNat default).Value) : Int) = v7.Value)))], [(7, .cells ((ruleC (LL (n))) v7) 61)]⟩ .nil (by kernel_rfl) (by kernel_rfl) (.cons (by first | decide | omega | exact idx_tmod (by first | omega | (simp only [W64_def]; omega)) (by omega) | (simp only [W64_def]; omega) | (constructor <;> omega) | (simp only [List.length_append, List.length_cons, List.length_nil]; omega) | (simp only [List.length_append, List.length_cons, List.length_nil, List.length_drop, List.length_take] at *; omega)) .nil) ?_
                refine ath_n ?_
                refine aw_cond (!decide ((((l.getD v9.toNat default).Value) : Int) = v7.Value)) (by kernel_rfl) (fun h6 => ?_) (fun h6 => ?_)
                · have g6 := of_not_decide_true h6
                  refine aw_seq ?_
                  refine aw_draw mixed eqok [] [] [] [2, 3, 4] [] [(((v7.Name : ByteArray).size + (({ data := #[47] } : ByteArray) : ByteArray).size : Nat) : Int) ≤ 9223372036854775807, 0 ≤ (v9 : Int) ∧ (v9 : Int) < ((l.length : Nat) : Int), (((v7.Name ++ (({ data := #[47] } : ByteArray)) : ByteArray).size + ((l.getD v9.toNat default).Name : ByteArray).size : Nat) : Int) ≤ 9223372036854775807] ⟨[(2, tI 0), (3, .av (.one (.s ((v7.Name ++ (({ data := #[47] } : ByteArray))) ++ ((l.getD v9.toNat default).Name))))), (4, tI 41)], []⟩ .nil (by kernel_rfl) (by kernel_rfl) (.cons (str_ok (by first | exact hsz _ | exact hi1_0) (hsz 0)).1 (.cons (by first | decide | omega | exact idx_tmod (by first | omega | (simp only [W64_def]; omega)) (by omega) | (simp only [W64_def]; omega) | (constructor <;> omega) | (simp only [List.length_append, List.length_cons, List.length_nil]; omega) | (simp only [List.length_append, List.length_cons, List.length_nil, List.length_drop, List.length_take] at *; omega)) (.cons (str_ok (by first | exact hsz _ | exact hi1_0) (hsz _)).2 .nil))) ?_
                  refine ath_n ?_
                  refine aw_ret ?_
                  refine abl_r ?_
                  refine ath_r ?_
                  refine ath_r ?_
                  refine abl_r ?_
                  refine ath_r ?_
                  exact ⟨_, Cv.refl _, .inl rfl, .tup [.one (.i 0), .one (.s ((v7.Name ++ (({ data := #[47] } : ByteArray))) ++ ((l.getD v9.toNat default).Name))), .one (.i 41)], by kernel_rfl, tve_eq (by rw [← hF1]; first | (simp only [FrResult_l1, h3, h4, h5, h6, cond_true, cond_false]; done) | (simp only [FrResult_l1, h3, h4, h5, h6, cond_true, cond_false]; rfl))⟩
                · have g6 := of_not_decide_false h6
                  refine aw_skip ?_
                  refine abl_n ?_
                  refine ath_n ?_
                  refine aw_region eqok [] [] [] [0, 5, 7, 8, 9] [7] [] ⟨[(0, .av (.one (lst 20 (ruleC (LL (n))) l))), (5, tI v5), (7, tP 7 0), (8, tB v8), (9, tI (W64 (v9 + 1)))], [(7, .cells ((ruleC (LL (n))) v7) 61)]⟩ .nil (by kernel_rfl) .nil ?_
                  (try rw [(show W64 (v9 + 1) = v9 + 1 from W64_id (by omega) (by first | omega | (simp only [List.length_drop, List.length_take] at *; omega)))])
                  refine ath_n ?_
                  refine ⟨(n1, v7, v8, v9 + 1), ⟨?_, ?_, (by rw [← hF1]; simp only [FrResult_l1, h3, h4, h5, h6, cond_true, cond_false])⟩, Nat.lt_succ_self _, cv_eq (by kernel_rfl)⟩
                  · show ((((l.length : Int))) - (v9 + 1)).toNat < n1; omega
                  · exact ⟨(by show NmOk v7; first | assumption | exact hsz _ | exact nmOk_zero _ _), (by show 0 ≤ (v9 + 1); first | trivial | omega | (simp only [List.length_append, List.length_cons, List.length_nil]; omega) | (simp only [List.length_set, List.length_append, List.length_cons, List.length_nil]; omega) | (simp only [W64_def]; omega) | (simp; omega) | simp), (by show ((v9 + 1) ≤ ((l.length : Int)) ∨ (v9 + 1) = 0); first | trivial | omega | (simp only [List.length_append, List.length_cons, List.length_nil]; omega) | (simp only [List.length_set, List.length_append, List.length_cons, List.length_nil]; omega) | (simp only [W64_def]; omega) | (simp; omega) | simp)⟩
          · have g3 := of_decide_eq_false h3
            refine aw_exit ?_
            refine ath_e ?_
            refine ath_e ?_
            refine abl_hit ?_
            refine ath_n ?_
            refine aw_seq ?_
            refine aw_draw mixed eqok [] [] [] [2, 3, 4] [] [] ⟨[(2, tI v7.Value), (3, .av (.one (.s v7.Name))), (4, tI 0)], []⟩ .nil (by kernel_rfl) (by kernel_rfl) .nil ?_
            refine ath_n ?_
            refine aw_ret ?_
            exact ⟨_, Cv.refl _, .inl rfl, .tup [.one (.i v7.Value), .one (.s v7.Name), .one (.i 0)], by kernel_rfl, tve_eq (by rw [← hF1]; first | (simp only [FrResult_l1, h3, cond_true, cond_false]; done) | (simp only [FrResult_l1, h3, cond_true, cond_false]; rfl))⟩
def wrClear_0 (ix : TItem) (iy : TItem) : Bool := bif (ix.Net.toList == iy.Net.toList) then !(ix.Net.toList == (({ data := #[] } : ByteArray)).toList) else false
def wrClear_11 (m : Nat) (b : TBoard) (v12 : Int) (ix : TItem) (layer : Int) : FuncId × List Av × Ef := (23, [.agg ((boardC (LL (m))) b), .agg ((condC (LL (m))) ((b.Rules.getD v12.toNat default).A)), .agg (TItem.c ix), .one (.i layer)], .val [] (tB (Fhold m b ((b.Rules.getD v12.toNat default).A) ix layer)))
def wrClear_12 (m : Nat) (b : TBoard) (v12 : Int) (ix : TItem) (layer : Int) : Bool := Fhold m b ((b.Rules.getD v12.toNat default).A) ix layer
def wrClear_13 (m : Nat) (b : TBoard) (v12 : Int) (iy : TItem) (layer : Int) : FuncId × List Av × Ef := (23, [.agg ((boardC (LL (m))) b), .agg ((condC (LL (m))) ((b.Rules.getD v12.toNat default).B)), .agg (TItem.c iy), .one (.i layer)], .val [] (tB (Fhold m b ((b.Rules.getD v12.toNat default).B) iy layer)))
def wrClear_14 (m : Nat) (b : TBoard) (v12 : Int) (ix : TItem) (layer : Int) (iy : TItem) : Bool := bif wrClear_12 m b v12 ix layer then Fhold m b ((b.Rules.getD v12.toNat default).B) iy layer else false
def wrClear_15 (m : Nat) (b : TBoard) (v12 : Int) (iy : TItem) (layer : Int) : FuncId × List Av × Ef := (23, [.agg ((boardC (LL (m))) b), .agg ((condC (LL (m))) ((b.Rules.getD v12.toNat default).A)), .agg (TItem.c iy), .one (.i layer)], .val [] (tB (Fhold m b ((b.Rules.getD v12.toNat default).A) iy layer)))
def wrClear_16 (m : Nat) (b : TBoard) (v12 : Int) (iy : TItem) (layer : Int) : Bool := Fhold m b ((b.Rules.getD v12.toNat default).A) iy layer
def wrClear_17 (m : Nat) (b : TBoard) (v12 : Int) (ix : TItem) (layer : Int) : FuncId × List Av × Ef := (23, [.agg ((boardC (LL (m))) b), .agg ((condC (LL (m))) ((b.Rules.getD v12.toNat default).B)), .agg (TItem.c ix), .one (.i layer)], .val [] (tB (Fhold m b ((b.Rules.getD v12.toNat default).B) ix layer)))
def wrClear_18 (m : Nat) (b : TBoard) (v12 : Int) (iy : TItem) (layer : Int) (ix : TItem) : Bool := bif wrClear_16 m b v12 iy layer then Fhold m b ((b.Rules.getD v12.toNat default).B) ix layer else false
def wrClear_19 (m : Nat) (b : TBoard) (v12 : Int) (ix : TItem) (layer : Int) (iy : TItem) : Bool := bif wrClear_14 m b v12 ix layer iy then true else wrClear_18 m b v12 iy layer ix
def wrClear_20 (m : Nat) (v11 : List TRule) : FuncId × List Av × Ef := (36, [.one (lst 20 (ruleC (LL (m))) v11)], .val [] (.tup [.one (.i ((FrResult v11).1)), .one (.s ((FrResult v11).2.1)), .one (.i ((FrResult v11).2.2))]))
def FrClear_l0 (m : Nat) (b : TBoard) (ix : TItem) (iy : TItem) (layer : Int) : Nat → List TRule → Int → (Int × ByteArray × Int)
  | 0, _, _ => default
  | n0 + 1, v11, v12 => bif decide ((v12 : Int) < ((b.Rules.length : Int))) then (bif !decide ((((b.Rules.getD v12.toNat default).What) : Int) = 1) then ((FrClear_l0 m b ix iy layer n0) v11 (v12 + 1)) else (bif wrClear_19 m b v12 ix layer iy then ((FrClear_l0 m b ix iy layer n0) (v11 ++ [b.Rules.getD v12.toNat default]) (v12 + 1)) else ((FrClear_l0 m b ix iy layer n0) v11 (v12 + 1)))) else (((FrResult v11).1, (FrResult v11).2.1, (FrResult v11).2.2))
def FrClear (m : Nat) (b : TBoard) (ix : TItem) (iy : TItem) (layer : Int) : (Int × ByteArray × Int) := bif wrClear_0 ix iy then ((0, ({ data := #[] } : ByteArray), 0)) else (FrClear_l0 m b ix iy layer (((((b.Rules.length : Int))) - 0).toNat + 1) (([] : List TRule)) 0)
set_option maxRecDepth 100000 in
theorem prClear  (m : Nat) (b : TBoard) (ix : TItem) (iy : TItem) (layer : Int) (hr : RsOk m b.Rules) (hx : BoxOk b ix) (hy : BoxOk b iy) : Pure Try.prog 14 [.agg ((boardC (LL (m))) b), .agg (TItem.c ix), .agg (TItem.c iy), .one (.i layer)] (.tup [.one (.i ((FrClear m b ix iy layer).1)), .one (.s ((FrClear m b ix iy layer).2.1)), .one (.i ((FrClear m b ix iy layer).2.2))]) := by
  refine pure_of_awF Try.func14 rfl (by kernel_rfl) (by kernel_rfl) fun W0 M0 => ?_
  have hl1 := hr.1
  have hsz := hr.2.1
  refine aw_seq ?_
  refine aw_region eqok [] [] [] [3, 4, 5, 6] [4, 5, 6] [] ⟨[(3, tI layer), (4, tP 4 0), (5, tP 5 0), (6, tP 6 0)], [(4, .cells ((boardC (LL (m))) b) 41), (5, .cells (TItem.c ix) 44), (6, .cells (TItem.c iy) 44)]⟩ .nil (by kernel_rfl) .nil ?_
  refine ath_n ?_
  refine aw_seq ?_
  refine aw_seq ?_
  refine aw_region eqok [] [] [] [3, 4, 5, 6, 25] [4, 5, 6] [(((ix.Net.toList == iy.Net.toList)) = true) → (((ix.Net.toList == iy.Net.toList)) = true), (((ix.Net.toList == iy.Net.toList)) = true) → (((ix.Net.toList == iy.Net.toList)) = true), ((ix.Net.toList == iy.Net.toList)) = true → (((ix.Net.toList == iy.Net.toList)) = true)] ⟨[(3, tI layer), (4, tP 4 0), (5, tP 5 0), (6, tP 6 0), (25, tB (wrClear_0 ix iy))], [(4, .cells ((boardC (LL (m))) b) 41), (5, .cells (TItem.c ix) 44), (6, .cells (TItem.c iy) 44)]⟩ .nil (by kernel_rfl) (.cons id (.cons id (.cons id .nil))) ?_
  refine ath_n ?_
  refine aw_cond (wrClear_0 ix iy) (by kernel_rfl) (fun h1 => ?_) (fun h1 => ?_)
  · refine aw_seq ?_
    refine aw_region eqok [] [] [] [8, 9, 10] [] [] ⟨[(8, tI 0), (9, .av (.one (.s (({ data := #[] } : ByteArray))))), (10, tI 0)], []⟩ .nil (by kernel_rfl) .nil ?_
    refine ath_n ?_
    refine aw_ret ?_
    refine ath_r ?_
    exact ⟨_, Cv.refl _, .inl rfl, .tup [.one (.i 0), .one (.s (({ data := #[] } : ByteArray))), .one (.i 0)], by kernel_rfl, tve_eq (by first | (simp only [FrClear, h1, cond_true, cond_false]; done) | (simp only [FrClear, h1, cond_true, cond_false]; rfl))⟩
  · refine aw_skip ?_
    refine ath_n ?_
    refine aw_seq ?_
    refine aw_region eqok [] [] [] [3, 4, 5, 6, 11] [4, 5, 6] [] ⟨[(3, tI layer), (4, tP 4 0), (5, tP 5 0), (6, tP 6 0), (11, .av (.one (.val (.slice none 0 0))))], [(4, .cells ((boardC (LL (m))) b) 41), (5, .cells (TItem.c ix) 44), (6, .cells (TItem.c iy) 44)]⟩ .nil (by kernel_rfl) .nil ?_
    refine ath_n ?_
    refine aw_seq ?_
    refine aw_seq ?_
    refine aw_region eqok [] [] [] [3, 4, 5, 6, 11, 12] [4, 5, 6] [] ⟨[(3, tI layer), (4, tP 4 0), (5, tP 5 0), (6, tP 6 0), (11, .av (.one (.val (.slice none 0 0)))), (12, tI 0)], [(4, .cells ((boardC (LL (m))) b) 41), (5, .cells (TItem.c ix) 44), (6, .cells (TItem.c iy) 44)]⟩ .nil (by kernel_rfl) .nil ?_
    refine ath_n ?_
    refine aw_block ?_
    refine aw_cv (Cv.trans (cv_ghost (⟨[(3, tI layer), (4, tP 4 0), (5, tP 5 0), (6, tP 6 0), (11, .av (.one (.own 100000 20 0))), (12, tI 0)], [(100000, .row 20 0 (fun _ _ => default) 61), (4, .cells ((boardC (LL (m))) b) 41), (5, .cells (TItem.c ix) 44), (6, .cells (TItem.c iy) 44)]⟩) 100000 20 (fun _ _ => default) 61 [(11, [0])] [] (K := none) (fun k x h => by cases h) rfl (by kernel_rfl) (by kernel_rfl)) (Cv.trans (cv_ce (⟨[(3, tI layer), (4, tP 4 0), (5, tP 5 0), (6, tP 6 0), (11, .av (.one (.own 100000 20 ((([] : List TRule)).length)))), (12, tI 0)], [(100000, .row 20 ((([] : List TRule)).length) (rowF (ruleC (LL (m))) (([] : List TRule))) 61), (4, .cells ((boardC (LL (m))) b) 41), (5, .cells (TItem.c ix) 44), (6, .cells (TItem.c iy) 44)]⟩) (.cons ⟨rfl, .refl _⟩ (.cons ⟨rfl, .refl _⟩ (.cons ⟨rfl, .refl _⟩ (.cons ⟨rfl, .refl _⟩ (.cons ⟨rfl, .av (.one (.own _ _ (by first | (simp; done) | (simp; omega))))⟩ (.cons ⟨rfl, .refl _⟩ .nil)))))) (.cons ⟨rfl, bke_told 61 (told_nil 20 (fun _ _ => default) (ruleC (LL (m))))⟩ (.cons ⟨rfl, .refl _⟩ (.cons ⟨rfl, .refl _⟩ (.cons ⟨rfl, .refl _⟩ .nil))))) (Cv.trans (cv_keep [3, 4, 5, 6, 11, 12] [4, 5, 6, 100000] (⟨[(3, tI layer), (4, tP 4 0), (5, tP 5 0), (6, tP 6 0), (11, .av (.one (.own 100000 20 ((([] : List TRule)).length)))), (12, tI 0)], [(4, .cells ((boardC (LL (m))) b) 41), (5, .cells (TItem.c ix) 44), (6, .cells (TItem.c iy) 44), (100000, .row 20 ((([] : List TRule)).length) (rowF (ruleC (LL (m))) (([] : List TRule))) 61)]⟩) (by kernel_rfl)) (Cv.refl _)))) ?_
    refine aw_loopC (ι := Nat × List TRule × Int) (fun x => ⟨[(3, tI layer), (4, tP 4 0), (5, tP 5 0), (6, tP 6 0), (11, .av (.one (.own 100000 20 x.2.1.length))), (12, tI x.2.2)], [(4, .cells ((boardC (LL (m))) b) 41), (5, .cells (TItem.c ix) 44), (6, .cells (TItem.c iy) 44), (100000, .row 20 x.2.1.length (rowF (ruleC (LL (m))) x.2.1) 61)]⟩) (fun x => ((((b.Rules.length : Int))) - x.2.2).toNat < x.1 ∧ (SzOk x.2.1 ∧ 0 ≤ x.2.2 ∧ (x.2.2 ≤ ((b.Rules.length : Int)) ∨ x.2.2 = 0) ∧ (x.2.1.length : Int) ≤ 0 + 1 * (x.2.2 - 0)) ∧ FrClear_l0 m b ix iy layer x.1 x.2.1 x.2.2 = FrClear m b ix iy layer) (fun x => x.1) ?_ (((((b.Rules.length : Int))) - 0).toNat + 1, ([] : List TRule), 0) ⟨Nat.lt_succ_self _, ⟨(by show SzOk (([] : List TRule)); first | assumption | exact szOk_nil | exact szOk_one (hsz _) | exact szOk_app hi0_0 (hsz _)), (by show 0 ≤ 0; first | trivial | omega | (simp only [List.length_append, List.length_cons, List.length_nil]; omega) | (simp only [List.length_set, List.length_append, List.length_cons, List.length_nil]; omega) | (simp only [W64_def]; omega) | (simp; omega) | simp), (by show (0 ≤ ((b.Rules.length : Int)) ∨ 0 = 0); first | trivial | omega | (simp only [List.length_append, List.length_cons, List.length_nil]; omega) | (simp only [List.length_set, List.length_append, List.length_cons, List.length_nil]; omega) | (simp only [W64_def]; omega) | (simp; omega) | simp), (by show ((([] : List TRule)).length : Int) ≤ 0 + 1 * (0 - 0); first | trivial | omega | (simp only [List.length_append, List.length_cons, List.length_nil]; omega) | (simp only [List.length_set, List.length_append, List.length_cons, List.length_nil]; omega) | (simp only [W64_def]; omega) | (simp; omega) | simp)⟩, (by simp only [FrClear, h1, cond_true, cond_false])⟩
    rintro ⟨n0, v11, v12⟩ ⟨hn, hinv, hF⟩
    have hm0 : ((((b.Rules.length : Int))) - v12).toNat < n0 := hn; have hinv0 : SzOk v11 ∧ 0 ≤ v12 ∧ (v12 ≤ ((b.Rules.length : Int)) ∨ v12 = 0) ∧ (v11.length : Int) ≤ 0 + 1 * (v12 - 0) := hinv; have hF0 : FrClear_l0 m b ix iy layer n0 v11 v12 = FrClear m b ix iy layer := hF; clear hn hinv hF
    cases n0 with
    | zero => exact absurd hm0 (Nat.not_lt_zero _)
    | succ n0 =>
      have hi0_0 := hinv0.1
      refine aw_seq ?_
      refine aw_seq ?_
      refine aw_region eqok [] [] [] [3, 4, 5, 6, 11, 12, 30] [4, 5, 6, 100000] [] ⟨[(3, tI layer), (4, tP 4 0), (5, tP 5 0), (6, tP 6 0), (11, .av (.one (.own 100000 20 v11.length))), (12, tI v12), (30, tB (decide ((v12 : Int) < ((b.Rules.length : Int)))))], [(4, .cells ((boardC (LL (m))) b) 41), (5, .cells (TItem.c ix) 44), (6, .cells (TItem.c iy) 44), (100000, .row 20 v11.length (rowF (ruleC (LL (m))) v11) 61)]⟩ .nil (by kernel_rfl) .nil ?_
      refine ath_n ?_
      refine aw_cond (decide ((v12 : Int) < ((b.Rules.length : Int)))) (by kernel_rfl) (fun h2 => ?_) (fun h2 => ?_)
      · have g2 := of_decide_eq_true h2
        refine aw_skip ?_
        refine ath_n ?_
        refine aw_seq ?_
        refine aw_block ?_
        refine aw_seq ?_
        refine aw_region eqok [] [] [] [3, 4, 5, 6, 11, 12, 13] [4, 5, 6, 13, 100000] [0 ≤ (v12 : Int) ∧ (v12 : Int) < ((b.Rules.length : Nat) : Int)] ⟨[(3, tI layer), (4, tP 4 0), (5, tP 5 0), (6, tP 6 0), (11, .av (.one (.own 100000 20 v11.length))), (12, tI v12), (13, tP 13 0)], [(4, .cells ((boardC (LL (m))) b) 41), (5, .cells (TItem.c ix) 44), (6, .cells (TItem.c iy) 44), (13, .cells ((ruleC (LL (m))) (b.Rules.getD v12.toNat default)) 61), (100000, .row 20 v11.length (rowF (ruleC (LL (m))) v11) 61)]⟩ .nil (by kernel_rfl) (.cons (by first | decide | omega | exact idx_tmod (by first | omega | (simp only [W64_def]; omega)) (by omega) | (simp only [W64_def]; omega) | (constructor <;> omega) | (simp only [List.length_append, List.length_cons, List.length_nil]; omega) | (simp only [List.length_append, List.length_cons, List.length_nil, List.length_drop, List.length_take] at *; omega)) .nil) ?_
        refine ath_n ?_
        refine aw_seq ?_
        refine aw_seq ?_
        refine aw_region eqok [] [] [] [3, 4, 5, 6, 11, 12, 13, 40] [4, 5, 6, 13, 100000] [] ⟨[(3, tI layer), (4, tP 4 0), (5, tP 5 0), (6, tP 6 0), (11, .av (.one (.own 100000 20 v11.length))), (12, tI v12), (13, tP 13 0), (40, tB (!decide ((((b.Rules.getD v12.toNat default).What) : Int) = 1)))], [(4, .cells ((boardC (LL (m))) b) 41), (5, .cells (TItem.c ix) 44), (6, .cells (TItem.c iy) 44), (13, .cells ((ruleC (LL (m))) (b.Rules.getD v12.toNat default)) 61), (100000, .row 20 v11.length (rowF (ruleC (LL (m))) v11) 61)]⟩ .nil (by kernel_rfl) .nil ?_
        refine ath_n ?_
        refine aw_cond (!decide ((((b.Rules.getD v12.toNat default).What) : Int) = 1)) (by kernel_rfl) (fun h3 => ?_) (fun h3 => ?_)
        · have g3 := of_not_decide_true h3
          refine aw_exit ?_
          refine ath_e ?_
          refine abl_hit ?_
          refine ath_n ?_
          refine aw_region eqok [] [] [] [3, 4, 5, 6, 11, 12] [4, 5, 6, 100000] [] ⟨[(3, tI layer), (4, tP 4 0), (5, tP 5 0), (6, tP 6 0), (11, .av (.one (.own 100000 20 v11.length))), (12, tI (W64 (v12 + 1)))], [(4, .cells ((boardC (LL (m))) b) 41), (5, .cells (TItem.c ix) 44), (6, .cells (TItem.c iy) 44), (100000, .row 20 v11.length (rowF (ruleC (LL (m))) v11) 61)]⟩ .nil (by kernel_rfl) .nil ?_
          (try rw [(show W64 (v12 + 1) = v12 + 1 from W64_id (by omega) (by first | omega | (simp only [List.length_drop, List.length_take] at *; omega)))])
          refine ath_n ?_
          refine ⟨(n0, v11, v12 + 1), ⟨?_, ?_, (by rw [← hF0]; simp only [FrClear_l0, h2, h3, cond_true, cond_false])⟩, Nat.lt_succ_self _, cv_eq (by kernel_rfl)⟩
          · show ((((b.Rules.length : Int))) - (v12 + 1)).toNat < n0; omega
          · exact ⟨(by show SzOk v11; first | assumption | exact szOk_nil | exact szOk_one (hsz _) | exact szOk_app hi0_0 (hsz _)), (by show 0 ≤ (v12 + 1); first | trivial | omega | (simp only [List.length_append, List.length_cons, List.length_nil]; omega) | (simp only [List.length_set, List.length_append, List.length_cons, List.length_nil]; omega) | (simp only [W64_def]; omega) | (simp; omega) | simp), (by show ((v12 + 1) ≤ ((b.Rules.length : Int)) ∨ (v12 + 1) = 0); first | trivial | omega | (simp only [List.length_append, List.length_cons, List.length_nil]; omega) | (simp only [List.length_set, List.length_append, List.length_cons, List.length_nil]; omega) | (simp only [W64_def]; omega) | (simp; omega) | simp), (by show (v11.length : Int) ≤ 0 + 1 * ((v12 + 1) - 0); first | trivial | omega | (simp only [List.length_append, List.length_cons, List.length_nil]; omega) | (simp only [List.length_set, List.length_append, List.length_cons, List.length_nil]; omega) | (simp only [W64_def]; omega) | (simp; omega) | simp)⟩
        · have g3 := of_not_decide_false h3
          refine aw_skip ?_
          refine ath_n ?_
          refine aw_seq ?_
          refine aw_region eqok [] [] [(46, (wrClear_11 m b v12 ix layer)), (53, (wrClear_13 m b v12 iy layer))] [3, 4, 5, 6, 11, 12, 13, 14] [4, 5, 6, 13, 100000] [Same (wrClear_11 m b v12 ix layer).2.1, ((wrClear_12 m b v12 ix layer) = true) → ((wrClear_12 m b v12 ix layer) = true), ((wrClear_12 m b v12 ix layer) = true) → ((wrClear_12 m b v12 ix layer) = true), ((wrClear_12 m b v12 ix layer) = true) → ((wrClear_12 m b v12 ix layer) = true), ((wrClear_12 m b v12 ix layer) = true) → ((wrClear_12 m b v12 ix layer) = true), ((wrClear_12 m b v12 ix layer) = true) → ((wrClear_12 m b v12 ix layer) = true), ((wrClear_12 m b v12 ix layer) = true) → (Same (wrClear_13 m b v12 iy layer).2.1), (wrClear_12 m b v12 ix layer) = true → ((wrClear_12 m b v12 ix layer) = true)] ⟨[(3, tI layer), (4, tP 4 0), (5, tP 5 0), (6, tP 6 0), (11, .av (.one (.own 100000 20 v11.length))), (12, tI v12), (13, tP 13 0), (14, tB (wrClear_14 m b v12 ix layer iy))], [(4, .cells ((boardC (LL (m))) b) 41), (5, .cells (TItem.c ix) 44), (6, .cells (TItem.c iy) 44), (13, .cells ((ruleC (LL (m))) (b.Rules.getD v12.toNat default)) 61), (100000, .row 20 v11.length (rowF (ruleC (LL (m))) v11) 61)]⟩ (.cons (callOk_pure (fun _ _ => by kernel_rfl) fun _ => pHold m m b ((b.Rules.getD v12.toNat default).A) ix layer (by assumption) (by first | assumption | exact condOk_default _ | exact (hr.2.2 _).1 | exact (hr.2.2 _).2)) (.cons (callOk_pure (fun _ _ => by kernel_rfl) fun _ => pHold m m b ((b.Rules.getD v12.toNat default).B) iy layer (by assumption) (by first | assumption | exact condOk_default _ | exact (hr.2.2 _).1 | exact (hr.2.2 _).2)) .nil)) (by kernel_rfl) (.cons rfl (.cons id (.cons id (.cons id (.cons id (.cons id (.cons (fun _ => rfl) (.cons id .nil)))))))) ?_
          refine ath_n ?_
          refine aw_seq ?_
          refine aw_region eqok [] [] [(60, (wrClear_15 m b v12 iy layer)), (67, (wrClear_17 m b v12 ix layer))] [3, 4, 5, 6, 11, 12, 13, 14, 15] [4, 5, 6, 13, 100000] [Same (wrClear_15 m b v12 iy layer).2.1, ((wrClear_16 m b v12 iy layer) = true) → ((wrClear_16 m b v12 iy layer) = true), ((wrClear_16 m b v12 iy layer) = true) → ((wrClear_16 m b v12 iy layer) = true), ((wrClear_16 m b v12 iy layer) = true) → ((wrClear_16 m b v12 iy layer) = true), ((wrClear_16 m b v12 iy layer) = true) → ((wrClear_16 m b v12 iy layer) = true), ((wrClear_16 m b v12 iy layer) = true) → ((wrClear_16 m b v12 iy layer) = true), ((wrClear_16 m b v12 iy layer) = true) → (Same (wrClear_17 m b v12 ix layer).2.1), (wrClear_16 m b v12 iy layer) = true → ((wrClear_16 m b v12 iy layer) = true)] ⟨[(3, tI layer), (4, tP 4 0), (5, tP 5 0), (6, tP 6 0), (11, .av (.one (.own 100000 20 v11.length))), (12, tI v12), (13, tP 13 0), (14, tB (wrClear_14 m b v12 ix layer iy)), (15, tB (wrClear_18 m b v12 iy layer ix))], [(4, .cells ((boardC (LL (m))) b) 41), (5, .cells (TItem.c ix) 44), (6, .cells (TItem.c iy) 44), (13, .cells ((ruleC (LL (m))) (b.Rules.getD v12.toNat default)) 61), (100000, .row 20 v11.length (rowF (ruleC (LL (m))) v11) 61)]⟩ (.cons (callOk_pure (fun _ _ => by kernel_rfl) fun _ => pHold m m b ((b.Rules.getD v12.toNat default).A) iy layer (by assumption) (by first | assumption | exact condOk_default _ | exact (hr.2.2 _).1 | exact (hr.2.2 _).2)) (.cons (callOk_pure (fun _ _ => by kernel_rfl) fun _ => pHold m m b ((b.Rules.getD v12.toNat default).B) ix layer (by assumption) (by first | assumption | exact condOk_default _ | exact (hr.2.2 _).1 | exact (hr.2.2 _).2)) .nil)) (by kernel_rfl) (.cons rfl (.cons id (.cons id (.cons id (.cons id (.cons id (.cons (fun _ => rfl) (.cons id .nil)))))))) ?_
          refine ath_n ?_
          refine aw_seq ?_
          refine aw_region eqok [] [] [] [3, 4, 5, 6, 11, 12, 13, 72] [4, 5, 6, 13, 100000] [(wrClear_14 m b v12 ix layer iy) = false → ((wrClear_14 m b v12 ix layer iy) = false)] ⟨[(3, tI layer), (4, tP 4 0), (5, tP 5 0), (6, tP 6 0), (11, .av (.one (.own 100000 20 v11.length))), (12, tI v12), (13, tP 13 0), (72, tB (wrClear_19 m b v12 ix layer iy))], [(4, .cells ((boardC (LL (m))) b) 41), (5, .cells (TItem.c ix) 44), (6, .cells (TItem.c iy) 44), (13, .cells ((ruleC (LL (m))) (b.Rules.getD v12.toNat default)) 61), (100000, .row 20 v11.length (rowF (ruleC (LL (m))) v11) 61)]⟩ .nil (by kernel_rfl) (.cons id .nil) ?_
          refine ath_n ?_
          refine aw_cond (wrClear_19 m b v12 ix layer iy) (by kernel_rfl) (fun h4 => ?_) (fun h4 => ?_)
          · refine aw_region eqok [] [] [] [3, 4, 5, 6, 11, 12] [4, 5, 6, 76] [v11.length = v11.length, v11.length + 1 ≤ maxLen, (v11.length + 1) * 216 ≤ 140737488355328] ⟨[(3, tI layer), (4, tP 4 0), (5, tP 5 0), (6, tP 6 0), (11, .av (.one (.own 76 20 (v11.length + 1)))), (12, tI v12)], [(4, .cells ((boardC (LL (m))) b) 41), (5, .cells (TItem.c ix) 44), (6, .cells (TItem.c iy) 44), (76, .row 20 (v11.length + 1) (fun i j => if i < v11.length then (rowF (ruleC (LL (m))) v11) i j else (colsC 20 1 [.s ((b.Rules.getD v12.toNat default).Name), .i ((b.Rules.getD v12.toNat default).Priority), .i ((b.Rules.getD v12.toNat default).What), .i (((b.Rules.getD v12.toNat default).A).Op), .s (((b.Rules.getD v12.toNat default).A).Text), .i (((b.Rules.getD v12.toNat default).A).N), .i ((((b.Rules.getD v12.toNat default).A).Box).X0), .i ((((b.Rules.getD v12.toNat default).A).Box).Y0), .i ((((b.Rules.getD v12.toNat default).A).Box).X1), .i ((((b.Rules.getD v12.toNat default).A).Box).Y1), LL (m) (((b.Rules.getD v12.toNat default).A).L), .i (((b.Rules.getD v12.toNat default).B).Op), .s (((b.Rules.getD v12.toNat default).B).Text), .i (((b.Rules.getD v12.toNat default).B).N), .i ((((b.Rules.getD v12.toNat default).B).Box).X0), .i ((((b.Rules.getD v12.toNat default).B).Box).Y0), .i ((((b.Rules.getD v12.toNat default).B).Box).X1), .i ((((b.Rules.getD v12.toNat default).B).Box).Y1), LL (m) (((b.Rules.getD v12.toNat default).B).L), .i ((b.Rules.getD v12.toNat default).Value)]) (i - v11.length) j) 61)]⟩ .nil (by kernel_rfl) (.cons rfl (.cons (by first | (unfold maxLen; omega) | (unfold maxLen; simp only [List.length_append, List.length_cons, List.length_nil]; omega) | first | omega | (simp only [List.length_append, List.length_cons, List.length_nil]; omega)) (.cons (by first | (unfold maxLen; omega) | (unfold maxLen; simp only [List.length_append, List.length_cons, List.length_nil]; omega) | first | omega | (simp only [List.length_append, List.length_cons, List.length_nil]; omega)) .nil))) ?_
            refine abl_n ?_
            refine ath_n ?_
            refine aw_cv (Cv.trans (cv_ce (⟨[(3, tI layer), (4, tP 4 0), (5, tP 5 0), (6, tP 6 0), (11, .av (.one (.own 76 20 ((v11 ++ [b.Rules.getD v12.toNat default]).length)))), (12, tI v12)], [(4, .cells ((boardC (LL (m))) b) 41), (5, .cells (TItem.c ix) 44), (6, .cells (TItem.c iy) 44), (76, .row 20 ((v11 ++ [b.Rules.getD v12.toNat default]).length) (rowF (ruleC (LL (m))) (v11 ++ [b.Rules.getD v12.toNat default])) 61)]⟩) (.cons ⟨rfl, .refl _⟩ (.cons ⟨rfl, .refl _⟩ (.cons ⟨rfl, .refl _⟩ (.cons ⟨rfl, .refl _⟩ (.cons ⟨rfl, .av (.one (.own _ _ (by first | (simp; done) | (simp; omega))))⟩ (.cons ⟨rfl, .refl _⟩ .nil)))))) (.cons ⟨rfl, .refl _⟩ (.cons ⟨rfl, .refl _⟩ (.cons ⟨rfl, .refl _⟩ (.cons ⟨rfl, bke_told 61 (told_app (told_rfl 20 (ruleC (LL (m))) v11) (told_lit (c := (ruleC (LL (m)))) (xs := ([b.Rules.getD v12.toNat default] : List TRule)) rfl (by kernel_rfl)))⟩ .nil))))) (Cv.refl _)) ?_
            refine aw_region eqok [] [] [] [3, 4, 5, 6, 11, 12] [4, 5, 6, 76] [] ⟨[(3, tI layer), (4, tP 4 0), (5, tP 5 0), (6, tP 6 0), (11, .av (.one (.own 76 20 ((v11 ++ [b.Rules.getD v12.toNat default]).length)))), (12, tI (W64 (v12 + 1)))], [(4, .cells ((boardC (LL (m))) b) 41), (5, .cells (TItem.c ix) 44), (6, .cells (TItem.c iy) 44), (76, .row 20 ((v11 ++ [b.Rules.getD v12.toNat default]).length) (rowF (ruleC (LL (m))) (v11 ++ [b.Rules.getD v12.toNat default])) 61)]⟩ .nil (by kernel_rfl) .nil ?_
            (try rw [(show W64 (v12 + 1) = v12 + 1 from W64_id (by omega) (by first | omega | (simp only [List.length_drop, List.length_take] at *; omega)))])
            refine ath_n ?_
            refine ⟨(n0, v11 ++ [b.Rules.getD v12.toNat default], v12 + 1), ⟨?_, ?_, (by rw [← hF0]; simp only [FrClear_l0, h2, h3, h4, cond_true, cond_false])⟩, Nat.lt_succ_self _, Cv.trans (cv_ren (⟨[(3, tI layer), (4, tP 4 0), (5, tP 5 0), (6, tP 6 0), (11, .av (.one (.own 100000 20 ((v11 ++ [b.Rules.getD v12.toNat default]).length)))), (12, tI (v12 + 1))], [(4, .cells ((boardC (LL (m))) b) 41), (5, .cells (TItem.c ix) 44), (6, .cells (TItem.c iy) 44), (100000, .row 20 ((v11 ++ [b.Rules.getD v12.toNat default]).length) (rowF (ruleC (LL (m))) (v11 ++ [b.Rules.getD v12.toNat default])) 61)]⟩) 76 100000 (K := none) (fun k x h => by cases h) rfl rfl (by kernel_rfl) (by kernel_rfl)) (cv_eq (by kernel_rfl))⟩
            · show ((((b.Rules.length : Int))) - (v12 + 1)).toNat < n0; omega
            · exact ⟨(by show SzOk (v11 ++ [b.Rules.getD v12.toNat default]); first | assumption | exact szOk_nil | exact szOk_one (hsz _) | exact szOk_app hi0_0 (hsz _)), (by show 0 ≤ (v12 + 1); first | trivial | omega | (simp only [List.length_append, List.length_cons, List.length_nil]; omega) | (simp only [List.length_set, List.length_append, List.length_cons, List.length_nil]; omega) | (simp only [W64_def]; omega) | (simp; omega) | simp), (by show ((v12 + 1) ≤ ((b.Rules.length : Int)) ∨ (v12 + 1) = 0); first | trivial | omega | (simp only [List.length_append, List.length_cons, List.length_nil]; omega) | (simp only [List.length_set, List.length_append, List.length_cons, List.length_nil]; omega) | (simp only [W64_def]; omega) | (simp; omega) | simp), (by show ((v11 ++ [b.Rules.getD v12.toNat default]).length : Int) ≤ 0 + 1 * ((v12 + 1) - 0); first | trivial | omega | (simp only [List.length_append, List.length_cons, List.length_nil]; omega) | (simp only [List.length_set, List.length_append, List.length_cons, List.length_nil]; omega) | (simp only [W64_def]; omega) | (simp; omega) | simp)⟩
          · refine aw_skip ?_
            refine abl_n ?_
            refine ath_n ?_
            refine aw_region eqok [] [] [] [3, 4, 5, 6, 11, 12] [4, 5, 6, 100000] [] ⟨[(3, tI layer), (4, tP 4 0), (5, tP 5 0), (6, tP 6 0), (11, .av (.one (.own 100000 20 v11.length))), (12, tI (W64 (v12 + 1)))], [(4, .cells ((boardC (LL (m))) b) 41), (5, .cells (TItem.c ix) 44), (6, .cells (TItem.c iy) 44), (100000, .row 20 v11.length (rowF (ruleC (LL (m))) v11) 61)]⟩ .nil (by kernel_rfl) .nil ?_
            (try rw [(show W64 (v12 + 1) = v12 + 1 from W64_id (by omega) (by first | omega | (simp only [List.length_drop, List.length_take] at *; omega)))])
            refine ath_n ?_
            refine ⟨(n0, v11, v12 + 1), ⟨?_, ?_, (by rw [← hF0]; simp only [FrClear_l0, h2, h3, h4, cond_true, cond_false])⟩, Nat.lt_succ_self _, cv_eq (by kernel_rfl)⟩
            · show ((((b.Rules.length : Int))) - (v12 + 1)).toNat < n0; omega
            · exact ⟨(by show SzOk v11; first | assumption | exact szOk_nil | exact szOk_one (hsz _) | exact szOk_app hi0_0 (hsz _)), (by show 0 ≤ (v12 + 1); first | trivial | omega | (simp only [List.length_append, List.length_cons, List.length_nil]; omega) | (simp only [List.length_set, List.length_append, List.length_cons, List.length_nil]; omega) | (simp only [W64_def]; omega) | (simp; omega) | simp), (by show ((v12 + 1) ≤ ((b.Rules.length : Int)) ∨ (v12 + 1) = 0); first | trivial | omega | (simp only [List.length_append, List.length_cons, List.length_nil]; omega) | (simp only [List.length_set, List.length_append, List.length_cons, List.length_nil]; omega) | (simp only [W64_def]; omega) | (simp; omega) | simp), (by show (v11.length : Int) ≤ 0 + 1 * ((v12 + 1) - 0); first | trivial | omega | (simp only [List.length_append, List.length_cons, List.length_nil]; omega) | (simp only [List.length_set, List.length_append, List.length_cons, List.length_nil]; omega) | (simp only [W64_def]; omega) | (simp; omega) | simp)⟩
      · have g2 := of_decide_eq_false h2
        refine aw_exit ?_
        refine ath_e ?_
        refine ath_e ?_
        refine abl_hit ?_
        refine ath_n ?_
        refine aw_seq ?_
        refine aw_cv (Cv.trans (cv_fz (⟨[(3, tI layer), (4, tP 4 0), (5, tP 5 0), (6, tP 6 0), (11, .av (.one (lst 20 (ruleC (LL (m))) v11))), (12, tI v12), (30, tB (decide ((v12 : Int) < ((b.Rules.length : Int)))))], [(4, .cells ((boardC (LL (m))) b) 41), (5, .cells (TItem.c ix) 44), (6, .cells (TItem.c iy) 44)]⟩) 100000 20 v11.length (rowF (ruleC (LL (m))) v11) 61 (K := none) (fun k x h => by cases h) (by kernel_rfl) (by kernel_rfl) (.cons ⟨rfl, rfl⟩ .nil) (by kernel_rfl)) (Cv.refl _)) ?_
        refine aw_region eqok [] [] [(78, (wrClear_20 m v11))] [8, 9, 10] [] [Same (wrClear_20 m v11).2.1] ⟨[(8, tI ((FrResult v11).1)), (9, .av (.one (.s ((FrResult v11).2.1)))), (10, tI ((FrResult v11).2.2))], []⟩ (.cons (callOk_pure (fun _ _ => by kernel_rfl) fun _ => prResult m v11 (by first | assumption | omega | (constructor <;> assumption) | exact mt_edges _ _ _ _ _) (by first | assumption | omega | (constructor <;> assumption) | exact mt_edges _ _ _ _ _)) .nil) (by kernel_rfl) (.cons rfl .nil) ?_
        refine ath_n ?_
        refine aw_ret ?_
        exact ⟨_, Cv.refl _, .inl rfl, .tup [.one (.i ((FrResult v11).1)), .one (.s ((FrResult v11).2.1)), .one (.i ((FrResult v11).2.2))], by kernel_rfl, tve_eq (by rw [← hF0]; first | (simp only [FrClear_l0, h2, cond_true, cond_false]; done) | (simp only [FrClear_l0, h2, cond_true, cond_false]; rfl))⟩
def wrValue_3 (m : Nat) (b : TBoard) (k : Int) (it : TItem) (layer : Int) : FuncId × List Av × Ef := (23, [.agg ((boardC (LL (m))) b), .agg ((condC (LL (m))) ((b.Rules.getD k.toNat default).A)), .agg (TItem.c it), .one (.i layer)], .val [] (tB (Fhold m b ((b.Rules.getD k.toNat default).A) it layer)))
def wrValue_4 (m : Nat) (b : TBoard) (k : Int) (it : TItem) (layer : Int) : Bool := Fhold m b ((b.Rules.getD k.toNat default).A) it layer
def FrValue_l0 (m : Nat) (b : TBoard) (what : Int) (it : TItem) (layer : Int) : Nat → List TRule → Int → (Int × ByteArray × Int)
  | 0, _, _ => default
  | n0 + 1, l, k => bif decide ((k : Int) < ((b.Rules.length : Int))) then (bif bif decide ((((b.Rules.getD k.toNat default).What) : Int) = what) then wrValue_4 m b k it layer else false then ((FrValue_l0 m b what it layer n0) (l ++ [b.Rules.getD k.toNat default]) (k + 1)) else ((FrValue_l0 m b what it layer n0) l (k + 1))) else (((FrResult l).1, (FrResult l).2.1, (FrResult l).2.2))
def FrValue (m : Nat) (b : TBoard) (what : Int) (it : TItem) (layer : Int) : (Int × ByteArray × Int) := FrValue_l0 m b what it layer (((((b.Rules.length : Int))) - 0).toNat + 1) (([] : List TRule)) 0
set_option maxRecDepth 100000 in
theorem prValue  (m : Nat) (b : TBoard) (what : Int) (it : TItem) (layer : Int) (hr : RsOk m b.Rules) (hbx : BoxOk b it) : Pure Try.prog 16 [.agg ((boardC (LL (m))) b), .one (.i what), .agg (TItem.c it), .one (.i layer)] (.tup [.one (.i ((FrValue m b what it layer).1)), .one (.s ((FrValue m b what it layer).2.1)), .one (.i ((FrValue m b what it layer).2.2))]) := by
  refine pure_of_awF Try.func16 rfl (by kernel_rfl) (by kernel_rfl) fun W0 M0 => ?_
  have hl1 := hr.1
  have hsz := hr.2.1
  refine aw_seq ?_
  refine aw_region eqok [] [] [] [1, 3, 4, 6] [4, 6] [] ⟨[(1, tI what), (3, tI layer), (4, tP 4 0), (6, tP 6 0)], [(4, .cells ((boardC (LL (m))) b) 41), (6, .cells (TItem.c it) 44)]⟩ .nil (by kernel_rfl) .nil ?_
  refine ath_n ?_
  refine aw_seq ?_
  refine aw_region eqok [] [] [] [1, 3, 4, 6, 11] [4, 6] [] ⟨[(1, tI what), (3, tI layer), (4, tP 4 0), (6, tP 6 0), (11, .av (.one (.val (.slice none 0 0))))], [(4, .cells ((boardC (LL (m))) b) 41), (6, .cells (TItem.c it) 44)]⟩ .nil (by kernel_rfl) .nil ?_
  refine ath_n ?_
  refine aw_seq ?_
  refine aw_seq ?_
  refine aw_region eqok [] [] [] [1, 3, 4, 6, 11, 12] [4, 6] [] ⟨[(1, tI what), (3, tI layer), (4, tP 4 0), (6, tP 6 0), (11, .av (.one (.val (.slice none 0 0)))), (12, tI 0)], [(4, .cells ((boardC (LL (m))) b) 41), (6, .cells (TItem.c it) 44)]⟩ .nil (by kernel_rfl) .nil ?_
  refine ath_n ?_
  refine aw_block ?_
  refine aw_cv (Cv.trans (cv_ghost (⟨[(1, tI what), (3, tI layer), (4, tP 4 0), (6, tP 6 0), (11, .av (.one (.own 100000 20 0))), (12, tI 0)], [(100000, .row 20 0 (fun _ _ => default) 61), (4, .cells ((boardC (LL (m))) b) 41), (6, .cells (TItem.c it) 44)]⟩) 100000 20 (fun _ _ => default) 61 [(11, [0])] [] (K := none) (fun k x h => by cases h) rfl (by kernel_rfl) (by kernel_rfl)) (Cv.trans (cv_ce (⟨[(1, tI what), (3, tI layer), (4, tP 4 0), (6, tP 6 0), (11, .av (.one (.own 100000 20 ((([] : List TRule)).length)))), (12, tI 0)], [(100000, .row 20 ((([] : List TRule)).length) (rowF (ruleC (LL (m))) (([] : List TRule))) 61), (4, .cells ((boardC (LL (m))) b) 41), (6, .cells (TItem.c it) 44)]⟩) (.cons ⟨rfl, .refl _⟩ (.cons ⟨rfl, .refl _⟩ (.cons ⟨rfl, .refl _⟩ (.cons ⟨rfl, .refl _⟩ (.cons ⟨rfl, .av (.one (.own _ _ (by first | (simp; done) | (simp; omega))))⟩ (.cons ⟨rfl, .refl _⟩ .nil)))))) (.cons ⟨rfl, bke_told 61 (told_nil 20 (fun _ _ => default) (ruleC (LL (m))))⟩ (.cons ⟨rfl, .refl _⟩ (.cons ⟨rfl, .refl _⟩ .nil)))) (Cv.trans (cv_keep [1, 3, 4, 6, 11, 12] [4, 6, 100000] (⟨[(1, tI what), (3, tI layer), (4, tP 4 0), (6, tP 6 0), (11, .av (.one (.own 100000 20 ((([] : List TRule)).length)))), (12, tI 0)], [(4, .cells ((boardC (LL (m))) b) 41), (6, .cells (TItem.c it) 44), (100000, .row 20 ((([] : List TRule)).length) (rowF (ruleC (LL (m))) (([] : List TRule))) 61)]⟩) (by kernel_rfl)) (Cv.refl _)))) ?_
  refine aw_loopC (ι := Nat × List TRule × Int) (fun x => ⟨[(1, tI what), (3, tI layer), (4, tP 4 0), (6, tP 6 0), (11, .av (.one (.own 100000 20 x.2.1.length))), (12, tI x.2.2)], [(4, .cells ((boardC (LL (m))) b) 41), (6, .cells (TItem.c it) 44), (100000, .row 20 x.2.1.length (rowF (ruleC (LL (m))) x.2.1) 61)]⟩) (fun x => ((((b.Rules.length : Int))) - x.2.2).toNat < x.1 ∧ (SzOk x.2.1 ∧ 0 ≤ x.2.2 ∧ (x.2.2 ≤ ((b.Rules.length : Int)) ∨ x.2.2 = 0) ∧ (x.2.1.length : Int) ≤ 0 + 1 * (x.2.2 - 0)) ∧ FrValue_l0 m b what it layer x.1 x.2.1 x.2.2 = FrValue m b what it layer) (fun x => x.1) ?_ (((((b.Rules.length : Int))) - 0).toNat + 1, ([] : List TRule), 0) ⟨Nat.lt_succ_self _, ⟨(by show SzOk (([] : List TRule)); first | assumption | exact szOk_nil | exact szOk_one (hsz _) | exact szOk_app hi0_0 (hsz _)), (by show 0 ≤ 0; first | trivial | omega | (simp only [List.length_append, List.length_cons, List.length_nil]; omega) | (simp only [List.length_set, List.length_append, List.length_cons, List.length_nil]; omega) | (simp only [W64_def]; omega) | (simp; omega) | simp), (by show (0 ≤ ((b.Rules.length : Int)) ∨ 0 = 0); first | trivial | omega | (simp only [List.length_append, List.length_cons, List.length_nil]; omega) | (simp only [List.length_set, List.length_append, List.length_cons, List.length_nil]; omega) | (simp only [W64_def]; omega) | (simp; omega) | simp), (by show ((([] : List TRule)).length : Int) ≤ 0 + 1 * (0 - 0); first | trivial | omega | (simp only [List.length_append, List.length_cons, List.length_nil]; omega) | (simp only [List.length_set, List.length_append, List.length_cons, List.length_nil]; omega) | (simp only [W64_def]; omega) | (simp; omega) | simp)⟩, (by simp only [FrValue, cond_true, cond_false])⟩
  rintro ⟨n0, l, k⟩ ⟨hn, hinv, hF⟩
  have hm0 : ((((b.Rules.length : Int))) - k).toNat < n0 := hn; have hinv0 : SzOk l ∧ 0 ≤ k ∧ (k ≤ ((b.Rules.length : Int)) ∨ k = 0) ∧ (l.length : Int) ≤ 0 + 1 * (k - 0) := hinv; have hF0 : FrValue_l0 m b what it layer n0 l k = FrValue m b what it layer := hF; clear hn hinv hF
  cases n0 with
  | zero => exact absurd hm0 (Nat.not_lt_zero _)
  | succ n0 =>
    have hi0_0 := hinv0.1
    refine aw_seq ?_
    refine aw_seq ?_
    refine aw_region eqok [] [] [] [1, 3, 4, 6, 11, 12, 18] [4, 6, 100000] [] ⟨[(1, tI what), (3, tI layer), (4, tP 4 0), (6, tP 6 0), (11, .av (.one (.own 100000 20 l.length))), (12, tI k), (18, tB (decide ((k : Int) < ((b.Rules.length : Int)))))], [(4, .cells ((boardC (LL (m))) b) 41), (6, .cells (TItem.c it) 44), (100000, .row 20 l.length (rowF (ruleC (LL (m))) l) 61)]⟩ .nil (by kernel_rfl) .nil ?_
    refine ath_n ?_
    refine aw_cond (decide ((k : Int) < ((b.Rules.length : Int)))) (by kernel_rfl) (fun h1 => ?_) (fun h1 => ?_)
    · have g1 := of_decide_eq_true h1
      refine aw_skip ?_
      refine ath_n ?_
      refine aw_seq ?_
      refine aw_block ?_
      refine aw_seq ?_
      refine aw_draw mixed eqok [] [] [(30, (wrValue_3 m b k it layer))] [1, 3, 4, 6, 11, 12, 13] [4, 6, 100000] [0 ≤ (k : Int) ∧ (k : Int) < ((b.Rules.length : Nat) : Int), Same (wrValue_3 m b k it layer).2.1] ⟨[(1, tI what), (3, tI layer), (4, tP 4 0), (6, tP 6 0), (11, .av (.one (.own 100000 20 l.length))), (12, tI k), (13, tB (wrValue_4 m b k it layer))], [(4, .cells ((boardC (LL (m))) b) 41), (6, .cells (TItem.c it) 44), (100000, .row 20 l.length (rowF (ruleC (LL (m))) l) 61)]⟩ (.cons (callOk_pure (fun _ _ => by kernel_rfl) fun _ => pHold m m b ((b.Rules.getD k.toNat default).A) it layer (by assumption) (by first | assumption | exact condOk_default _ | exact (hr.2.2 _).1 | exact (hr.2.2 _).2)) .nil) (by kernel_rfl) (by kernel_rfl) (.cons (by first | decide | omega | exact idx_tmod (by first | omega | (simp only [W64_def]; omega)) (by omega) | (simp only [W64_def]; omega) | (constructor <;> omega) | (simp only [List.length_append, List.length_cons, List.length_nil]; omega) | (simp only [List.length_append, List.length_cons, List.length_nil, List.length_drop, List.length_take] at *; omega)) (.cons rfl .nil)) ?_
      refine ath_n ?_
      refine aw_seq ?_
      refine aw_region eqok [] [] [] [1, 3, 4, 6, 11, 12, 41] [4, 6, 100000] [0 ≤ (k : Int) ∧ (k : Int) < ((b.Rules.length : Nat) : Int), (decide ((((b.Rules.getD k.toNat default).What) : Int) = what)) = true → ((decide ((((b.Rules.getD k.toNat default).What) : Int) = what)) = true)] ⟨[(1, tI what), (3, tI layer), (4, tP 4 0), (6, tP 6 0), (11, .av (.one (.own 100000 20 l.length))), (12, tI k), (41, tB (bif decide ((((b.Rules.getD k.toNat default).What) : Int) = what) then wrValue_4 m b k it layer else false))], [(4, .cells ((boardC (LL (m))) b) 41), (6, .cells (TItem.c it) 44), (100000, .row 20 l.length (rowF (ruleC (LL (m))) l) 61)]⟩ .nil (by kernel_rfl) (.cons (by first | decide | omega | exact idx_tmod (by first | omega | (simp only [W64_def]; omega)) (by omega) | (simp only [W64_def]; omega) | (constructor <;> omega) | (simp only [List.length_append, List.length_cons, List.length_nil]; omega) | (simp only [List.length_append, List.length_cons, List.length_nil, List.length_drop, List.length_take] at *; omega)) (.cons id .nil)) ?_
      refine ath_n ?_
      refine aw_cond (bif decide ((((b.Rules.getD k.toNat default).What) : Int) = what) then wrValue_4 m b k it layer else false) (by kernel_rfl) (fun h2 => ?_) (fun h2 => ?_)
      · refine aw_region eqok [] [] [] [1, 3, 4, 6, 11, 12] [4, 6, 49] [0 ≤ (k : Int) ∧ (k : Int) < ((b.Rules.length : Nat) : Int), l.length = l.length, l.length + 1 ≤ maxLen, (l.length + 1) * 216 ≤ 140737488355328] ⟨[(1, tI what), (3, tI layer), (4, tP 4 0), (6, tP 6 0), (11, .av (.one (.own 49 20 (l.length + 1)))), (12, tI k)], [(4, .cells ((boardC (LL (m))) b) 41), (6, .cells (TItem.c it) 44), (49, .row 20 (l.length + 1) (fun i j => if i < l.length then (rowF (ruleC (LL (m))) l) i j else (colsC 20 1 [.s ((b.Rules.getD k.toNat default).Name), .i ((b.Rules.getD k.toNat default).Priority), .i ((b.Rules.getD k.toNat default).What), .i (((b.Rules.getD k.toNat default).A).Op), .s (((b.Rules.getD k.toNat default).A).Text), .i (((b.Rules.getD k.toNat default).A).N), .i ((((b.Rules.getD k.toNat default).A).Box).X0), .i ((((b.Rules.getD k.toNat default).A).Box).Y0), .i ((((b.Rules.getD k.toNat default).A).Box).X1), .i ((((b.Rules.getD k.toNat default).A).Box).Y1), LL (m) (((b.Rules.getD k.toNat default).A).L), .i (((b.Rules.getD k.toNat default).B).Op), .s (((b.Rules.getD k.toNat default).B).Text), .i (((b.Rules.getD k.toNat default).B).N), .i ((((b.Rules.getD k.toNat default).B).Box).X0), .i ((((b.Rules.getD k.toNat default).B).Box).Y0), .i ((((b.Rules.getD k.toNat default).B).Box).X1), .i ((((b.Rules.getD k.toNat default).B).Box).Y1), LL (m) (((b.Rules.getD k.toNat default).B).L), .i ((b.Rules.getD k.toNat default).Value)]) (i - l.length) j) 61)]⟩ .nil (by kernel_rfl) (.cons (by first | decide | omega | exact idx_tmod (by first | omega | (simp only [W64_def]; omega)) (by omega) | (simp only [W64_def]; omega) | (constructor <;> omega) | (simp only [List.length_append, List.length_cons, List.length_nil]; omega) | (simp only [List.length_append, List.length_cons, List.length_nil, List.length_drop, List.length_take] at *; omega)) (.cons rfl (.cons (by first | (unfold maxLen; omega) | (unfold maxLen; simp only [List.length_append, List.length_cons, List.length_nil]; omega) | first | omega | (simp only [List.length_append, List.length_cons, List.length_nil]; omega)) (.cons (by first | (unfold maxLen; omega) | (unfold maxLen; simp only [List.length_append, List.length_cons, List.length_nil]; omega) | first | omega | (simp only [List.length_append, List.length_cons, List.length_nil]; omega)) .nil)))) ?_
        refine abl_n ?_
        refine ath_n ?_
        refine aw_cv (Cv.trans (cv_ce (⟨[(1, tI what), (3, tI layer), (4, tP 4 0), (6, tP 6 0), (11, .av (.one (.own 49 20 ((l ++ [b.Rules.getD k.toNat default]).length)))), (12, tI k)], [(4, .cells ((boardC (LL (m))) b) 41), (6, .cells (TItem.c it) 44), (49, .row 20 ((l ++ [b.Rules.getD k.toNat default]).length) (rowF (ruleC (LL (m))) (l ++ [b.Rules.getD k.toNat default])) 61)]⟩) (.cons ⟨rfl, .refl _⟩ (.cons ⟨rfl, .refl _⟩ (.cons ⟨rfl, .refl _⟩ (.cons ⟨rfl, .refl _⟩ (.cons ⟨rfl, .av (.one (.own _ _ (by first | (simp; done) | (simp; omega))))⟩ (.cons ⟨rfl, .refl _⟩ .nil)))))) (.cons ⟨rfl, .refl _⟩ (.cons ⟨rfl, .refl _⟩ (.cons ⟨rfl, bke_told 61 (told_app (told_rfl 20 (ruleC (LL (m))) l) (told_lit (c := (ruleC (LL (m)))) (xs := ([b.Rules.getD k.toNat default] : List TRule)) rfl (by kernel_rfl)))⟩ .nil)))) (Cv.refl _)) ?_
        refine aw_region eqok [] [] [] [1, 3, 4, 6, 11, 12] [4, 6, 49] [] ⟨[(1, tI what), (3, tI layer), (4, tP 4 0), (6, tP 6 0), (11, .av (.one (.own 49 20 ((l ++ [b.Rules.getD k.toNat default]).length)))), (12, tI (W64 (k + 1)))], [(4, .cells ((boardC (LL (m))) b) 41), (6, .cells (TItem.c it) 44), (49, .row 20 ((l ++ [b.Rules.getD k.toNat default]).length) (rowF (ruleC (LL (m))) (l ++ [b.Rules.getD k.toNat default])) 61)]⟩ .nil (by kernel_rfl) .nil ?_
        (try rw [(show W64 (k + 1) = k + 1 from W64_id (by omega) (by first | omega | (simp only [List.length_drop, List.length_take] at *; omega)))])
        refine ath_n ?_
        refine ⟨(n0, l ++ [b.Rules.getD k.toNat default], k + 1), ⟨?_, ?_, (by rw [← hF0]; simp only [FrValue_l0, h1, h2, cond_true, cond_false])⟩, Nat.lt_succ_self _, Cv.trans (cv_ren (⟨[(1, tI what), (3, tI layer), (4, tP 4 0), (6, tP 6 0), (11, .av (.one (.own 100000 20 ((l ++ [b.Rules.getD k.toNat default]).length)))), (12, tI (k + 1))], [(4, .cells ((boardC (LL (m))) b) 41), (6, .cells (TItem.c it) 44), (100000, .row 20 ((l ++ [b.Rules.getD k.toNat default]).length) (rowF (ruleC (LL (m))) (l ++ [b.Rules.getD k.toNat default])) 61)]⟩) 49 100000 (K := none) (fun k x h => by cases h) rfl rfl (by kernel_rfl) (by kernel_rfl)) (cv_eq (by kernel_rfl))⟩
        · show ((((b.Rules.length : Int))) - (k + 1)).toNat < n0; omega
        · exact ⟨(by show SzOk (l ++ [b.Rules.getD k.toNat default]); first | assumption | exact szOk_nil | exact szOk_one (hsz _) | exact szOk_app hi0_0 (hsz _)), (by show 0 ≤ (k + 1); first | trivial | omega | (simp only [List.length_append, List.length_cons, List.length_nil]; omega) | (simp only [List.length_set, List.length_append, List.length_cons, List.length_nil]; omega) | (simp only [W64_def]; omega) | (simp; omega) | simp), (by show ((k + 1) ≤ ((b.Rules.length : Int)) ∨ (k + 1) = 0); first | trivial | omega | (simp only [List.length_append, List.length_cons, List.length_nil]; omega) | (simp only [List.length_set, List.length_append, List.length_cons, List.length_nil]; omega) | (simp only [W64_def]; omega) | (simp; omega) | simp), (by show ((l ++ [b.Rules.getD k.toNat default]).length : Int) ≤ 0 + 1 * ((k + 1) - 0); first | trivial | omega | (simp only [List.length_append, List.length_cons, List.length_nil]; omega) | (simp only [List.length_set, List.length_append, List.length_cons, List.length_nil]; omega) | (simp only [W64_def]; omega) | (simp; omega) | simp)⟩
      · refine aw_skip ?_
        refine abl_n ?_
        refine ath_n ?_
        refine aw_region eqok [] [] [] [1, 3, 4, 6, 11, 12] [4, 6, 100000] [] ⟨[(1, tI what), (3, tI layer), (4, tP 4 0), (6, tP 6 0), (11, .av (.one (.own 100000 20 l.length))), (12, tI (W64 (k + 1)))], [(4, .cells ((boardC (LL (m))) b) 41), (6, .cells (TItem.c it) 44), (100000, .row 20 l.length (rowF (ruleC (LL (m))) l) 61)]⟩ .nil (by kernel_rfl) .nil ?_
        (try rw [(show W64 (k + 1) = k + 1 from W64_id (by omega) (by first | omega | (simp only [List.length_drop, List.length_take] at *; omega)))])
        refine ath_n ?_
        refine ⟨(n0, l, k + 1), ⟨?_, ?_, (by rw [← hF0]; simp only [FrValue_l0, h1, h2, cond_true, cond_false])⟩, Nat.lt_succ_self _, cv_eq (by kernel_rfl)⟩
        · show ((((b.Rules.length : Int))) - (k + 1)).toNat < n0; omega
        · exact ⟨(by show SzOk l; first | assumption | exact szOk_nil | exact szOk_one (hsz _) | exact szOk_app hi0_0 (hsz _)), (by show 0 ≤ (k + 1); first | trivial | omega | (simp only [List.length_append, List.length_cons, List.length_nil]; omega) | (simp only [List.length_set, List.length_append, List.length_cons, List.length_nil]; omega) | (simp only [W64_def]; omega) | (simp; omega) | simp), (by show ((k + 1) ≤ ((b.Rules.length : Int)) ∨ (k + 1) = 0); first | trivial | omega | (simp only [List.length_append, List.length_cons, List.length_nil]; omega) | (simp only [List.length_set, List.length_append, List.length_cons, List.length_nil]; omega) | (simp only [W64_def]; omega) | (simp; omega) | simp), (by show (l.length : Int) ≤ 0 + 1 * ((k + 1) - 0); first | trivial | omega | (simp only [List.length_append, List.length_cons, List.length_nil]; omega) | (simp only [List.length_set, List.length_append, List.length_cons, List.length_nil]; omega) | (simp only [W64_def]; omega) | (simp; omega) | simp)⟩
    · have g1 := of_decide_eq_false h1
      refine aw_exit ?_
      refine ath_e ?_
      refine ath_e ?_
      refine abl_hit ?_
      refine ath_n ?_
      refine aw_seq ?_
      refine aw_cv (Cv.trans (cv_fz (⟨[(1, tI what), (3, tI layer), (4, tP 4 0), (6, tP 6 0), (11, .av (.one (lst 20 (ruleC (LL (m))) l))), (12, tI k), (18, tB (decide ((k : Int) < ((b.Rules.length : Int)))))], [(4, .cells ((boardC (LL (m))) b) 41), (6, .cells (TItem.c it) 44)]⟩) 100000 20 l.length (rowF (ruleC (LL (m))) l) 61 (K := none) (fun k x h => by cases h) (by kernel_rfl) (by kernel_rfl) (.cons ⟨rfl, rfl⟩ .nil) (by kernel_rfl)) (Cv.refl _)) ?_
      refine aw_region eqok [] [] [(51, (36, [.one (lst 20 (ruleC (LL (m))) l)], .val [] (.tup [.one (.i ((FrResult l).1)), .one (.s ((FrResult l).2.1)), .one (.i ((FrResult l).2.2))])))] [8, 9, 10] [] [Same [.one (lst 20 (ruleC (LL (m))) l)]] ⟨[(8, tI ((FrResult l).1)), (9, .av (.one (.s ((FrResult l).2.1)))), (10, tI ((FrResult l).2.2))], []⟩ (.cons (callOk_pure (fun _ _ => by kernel_rfl) fun _ => prResult m l (by first | assumption | omega | (constructor <;> assumption) | exact mt_edges _ _ _ _ _) (by first | assumption | omega | (constructor <;> assumption) | exact mt_edges _ _ _ _ _)) .nil) (by kernel_rfl) (.cons rfl .nil) ?_
      refine ath_n ?_
      refine aw_ret ?_
      exact ⟨_, Cv.refl _, .inl rfl, .tup [.one (.i ((FrResult l).1)), .one (.s ((FrResult l).2.1)), .one (.i ((FrResult l).2.2))], by kernel_rfl, tve_eq (by rw [← hF0]; first | (simp only [FrValue_l0, h1, cond_true, cond_false]; done) | (simp only [FrValue_l0, h1, cond_true, cond_false]; rfl))⟩
def FrMost_l0 (b : TBoard) : Nat → Int → Int → Int
  | 0, _, _ => default
  | n0 + 1, out, k => bif decide ((k : Int) < ((b.Rules.length : Int))) then ((FrMost_l0 b n0) (bif decide ((((b.Rules.getD k.toNat default).What) : Int) = 1) then (max out ((b.Rules.getD k.toNat default).Value)) else out) (k + 1)) else (out)
def FrMost (b : TBoard) : Int := FrMost_l0 b (((((b.Rules.length : Int))) - 0).toNat + 1) 0 0
set_option maxRecDepth 100000 in
theorem prMost (m : Nat) (b : TBoard) (hr : (b.Rules.length : Int) ≤ 1000000) : Pure Try.prog 18 [.agg ((boardC (LL (m))) b)] (.av (.one (.i (FrMost b)))) := by
  refine pure_of_awF Try.func18 rfl (by kernel_rfl) (by kernel_rfl) fun W0 M0 => ?_
  refine aw_seq ?_
  refine aw_region eqok [] [] [] [1] [1] [] ⟨[(1, tP 1 0)], [(1, .cells ((boardC (LL (m))) b) 41)]⟩ .nil (by kernel_rfl) .nil ?_
  refine ath_n ?_
  refine aw_seq ?_
  refine aw_region eqok [] [] [] [1, 3] [1] [] ⟨[(1, tP 1 0), (3, tI 0)], [(1, .cells ((boardC (LL (m))) b) 41)]⟩ .nil (by kernel_rfl) .nil ?_
  refine ath_n ?_
  refine aw_seq ?_
  refine aw_seq ?_
  refine aw_region eqok [] [] [] [1, 3, 4] [1] [] ⟨[(1, tP 1 0), (3, tI 0), (4, tI 0)], [(1, .cells ((boardC (LL (m))) b) 41)]⟩ .nil (by kernel_rfl) .nil ?_
  refine ath_n ?_
  refine aw_block ?_
  refine aw_loopC (ι := Nat × Int × Int) (fun x => ⟨[(1, tP 1 0), (3, tI x.2.1), (4, tI x.2.2)], [(1, .cells ((boardC (LL (m))) b) 41)]⟩) (fun x => ((((b.Rules.length : Int))) - x.2.2).toNat < x.1 ∧ (0 ≤ x.2.2 ∧ (x.2.2 ≤ ((b.Rules.length : Int)) ∨ x.2.2 = 0)) ∧ FrMost_l0 b x.1 x.2.1 x.2.2 = FrMost b) (fun x => x.1) ?_ (((((b.Rules.length : Int))) - 0).toNat + 1, 0, 0) ⟨Nat.lt_succ_self _, ⟨(by show 0 ≤ 0; first | trivial | omega | (simp only [List.length_append, List.length_cons, List.length_nil]; omega) | (simp only [List.length_set, List.length_append, List.length_cons, List.length_nil]; omega) | (simp only [W64_def]; omega) | (simp; omega) | simp), (by show (0 ≤ ((b.Rules.length : Int)) ∨ 0 = 0); first | trivial | omega | (simp only [List.length_append, List.length_cons, List.length_nil]; omega) | (simp only [List.length_set, List.length_append, List.length_cons, List.length_nil]; omega) | (simp only [W64_def]; omega) | (simp; omega) | simp)⟩, (by simp only [FrMost, cond_true, cond_false])⟩
  rintro ⟨n0, out, k⟩ ⟨hn, hinv, hF⟩
  have hm0 : ((((b.Rules.length : Int))) - k).toNat < n0 := hn; have hinv0 : 0 ≤ k ∧ (k ≤ ((b.Rules.length : Int)) ∨ k = 0) := hinv; have hF0 : FrMost_l0 b n0 out k = FrMost b := hF; clear hn hinv hF
  cases n0 with
  | zero => exact absurd hm0 (Nat.not_lt_zero _)
  | succ n0 =>
    refine aw_seq ?_
    refine aw_seq ?_
    refine aw_region eqok [] [] [] [1, 3, 4, 9] [1] [] ⟨[(1, tP 1 0), (3, tI out), (4, tI k), (9, tB (decide ((k : Int) < ((b.Rules.length : Int)))))], [(1, .cells ((boardC (LL (m))) b) 41)]⟩ .nil (by kernel_rfl) .nil ?_
    refine ath_n ?_
    refine aw_cond (decide ((k : Int) < ((b.Rules.length : Int)))) (by kernel_rfl) (fun h1 => ?_) (fun h1 => ?_)
    · have g1 := of_decide_eq_true h1
      refine aw_skip ?_
      refine ath_n ?_
      refine aw_seq ?_
      refine aw_joinC (⟨[(1, tP 1 0), (3, tI (bif decide ((((b.Rules.getD k.toNat default).What) : Int) = 1) then (max out ((b.Rules.getD k.toNat default).Value)) else out)), (4, tI k)], [(1, .cells ((boardC (LL (m))) b) 41)]⟩) ?_ ?_
      · refine aw_block ?_
        refine aw_seq ?_
        refine aw_region eqok [] [] [] [1, 3, 4, 18] [1] [0 ≤ (k : Int) ∧ (k : Int) < ((b.Rules.length : Nat) : Int)] ⟨[(1, tP 1 0), (3, tI out), (4, tI k), (18, tB (decide ((((b.Rules.getD k.toNat default).What) : Int) = 1)))], [(1, .cells ((boardC (LL (m))) b) 41)]⟩ .nil (by kernel_rfl) (.cons (by first | decide | omega | exact idx_tmod (by first | omega | (simp only [W64_def]; omega)) (by omega) | (simp only [W64_def]; omega) | (constructor <;> omega) | (simp only [List.length_append, List.length_cons, List.length_nil]; omega) | (simp only [List.length_append, List.length_cons, List.length_nil, List.length_drop, List.length_take] at *; omega)) .nil) ?_
        refine ath_n ?_
        refine aw_cond (decide ((((b.Rules.getD k.toNat default).What) : Int) = 1)) (by kernel_rfl) (fun h2 => ?_) (fun h2 => ?_)
        · have g2 := of_decide_eq_true h2
          refine aw_region eqok [] [] [] [1, 3, 4] [1] [0 ≤ (k : Int) ∧ (k : Int) < ((b.Rules.length : Nat) : Int)] ⟨[(1, tP 1 0), (3, tI (max out ((b.Rules.getD k.toNat default).Value))), (4, tI k)], [(1, .cells ((boardC (LL (m))) b) 41)]⟩ .nil (by kernel_rfl) (.cons (by first | decide | omega | exact idx_tmod (by first | omega | (simp only [W64_def]; omega)) (by omega) | (simp only [W64_def]; omega) | (constructor <;> omega) | (simp only [List.length_append, List.length_cons, List.length_nil]; omega) | (simp only [List.length_append, List.length_cons, List.length_nil, List.length_drop, List.length_take] at *; omega)) .nil) ?_
          refine abl_n ?_
          refine ath_n ?_
          refine cv_eq ?_
          first | rfl | (simp only [h2, cond_true, cond_false]; done) | (simp only [h2, cond_true, cond_false]; rfl)
        · have g2 := of_decide_eq_false h2
          refine aw_skip ?_
          refine abl_n ?_
          refine ath_n ?_
          refine Cv.trans (cv_keep [1, 3, 4] [1] (⟨[(1, tP 1 0), (3, tI out), (4, tI k)], [(1, .cells ((boardC (LL (m))) b) 41)]⟩) (by kernel_rfl)) (cv_eq ?_)
          first | rfl | (simp only [h2, cond_true, cond_false]; done) | (simp only [h2, cond_true, cond_false]; rfl)
      refine aw_region eqok [] [] [] [1, 3, 4] [1] [] ⟨[(1, tP 1 0), (3, tI (bif decide ((((b.Rules.getD k.toNat default).What) : Int) = 1) then (max out ((b.Rules.getD k.toNat default).Value)) else out)), (4, tI (W64 (k + 1)))], [(1, .cells ((boardC (LL (m))) b) 41)]⟩ .nil (by kernel_rfl) .nil ?_
      (try rw [(show W64 (k + 1) = k + 1 from W64_id (by omega) (by first | omega | (simp only [List.length_drop, List.length_take] at *; omega)))])
      refine ath_n ?_
      refine ⟨(n0, bif decide ((((b.Rules.getD k.toNat default).What) : Int) = 1) then (max out ((b.Rules.getD k.toNat default).Value)) else out, k + 1), ⟨?_, ?_, (by rw [← hF0]; simp only [FrMost_l0, h1, cond_true, cond_false])⟩, Nat.lt_succ_self _, cv_eq (by kernel_rfl)⟩
      · show ((((b.Rules.length : Int))) - (k + 1)).toNat < n0; omega
      · exact ⟨(by show 0 ≤ (k + 1); first | trivial | omega | (simp only [List.length_append, List.length_cons, List.length_nil]; omega) | (simp only [List.length_set, List.length_append, List.length_cons, List.length_nil]; omega) | (simp only [W64_def]; omega) | (simp; omega) | simp), (by show ((k + 1) ≤ ((b.Rules.length : Int)) ∨ (k + 1) = 0); first | trivial | omega | (simp only [List.length_append, List.length_cons, List.length_nil]; omega) | (simp only [List.length_set, List.length_append, List.length_cons, List.length_nil]; omega) | (simp only [W64_def]; omega) | (simp; omega) | simp)⟩
    · have g1 := of_decide_eq_false h1
      refine aw_exit ?_
      refine ath_e ?_
      refine ath_e ?_
      refine abl_hit ?_
      refine ath_n ?_
      refine aw_seq ?_
      refine aw_region eqok [] [] [] [2] [] [] ⟨[(2, tI out)], []⟩ .nil (by kernel_rfl) .nil ?_
      refine ath_n ?_
      refine aw_ret ?_
      exact ⟨_, Cv.refl _, .inl rfl, .av (.one (.i out)), by kernel_rfl, tve_eq (by rw [← hF0]; first | (simp only [FrMost_l0, h1, cond_true, cond_false]; done) | (simp only [FrMost_l0, h1, cond_true, cond_false]; rfl))⟩
def wrWaived_1 (b : TBoard) (k' : Int) (rule : ByteArray) : Bool := (((b.Waivers.getD k'.toNat default).Rule).toList == rule.toList)
def FrWaived_l0 (b : TBoard) (k : Int) (j : Int) (rule : ByteArray) : Nat → Int → Bool
  | 0, _ => default
  | n0 + 1, k' => bif decide ((k' : Int) < ((b.Waivers.length : Int))) then (bif bif wrWaived_1 b k' rule then bif bif decide ((((b.Waivers.getD k'.toNat default).A) : Int) = k) then decide ((((b.Waivers.getD k'.toNat default).B) : Int) = j) else false then true else bif decide ((((b.Waivers.getD k'.toNat default).A) : Int) = j) then decide ((((b.Waivers.getD k'.toNat default).B) : Int) = k) else false else false then (true) else ((FrWaived_l0 b k j rule n0) (k' + 1))) else (false)
def FrWaived (b : TBoard) (k : Int) (j : Int) (rule : ByteArray) : Bool := FrWaived_l0 b k j rule (((((b.Waivers.length : Int))) - 0).toNat + 1) 0
set_option maxRecDepth 100000 in
theorem prWaived (m : Nat) (b : TBoard) (k : Int) (j : Int) (rule : ByteArray) (hw : (b.Waivers.length : Int) ≤ 9223372036854775807) : Pure Try.prog 25 [.agg ((boardC (LL (m))) b), .one (.i k), .one (.i j), .one (.s rule)] (.av (.one (.b (FrWaived b k j rule)))) := by
  refine pure_of_awF Try.func25 rfl (by kernel_rfl) (by kernel_rfl) fun W0 M0 => ?_
  refine aw_seq ?_
  refine aw_region eqok [] [] [] [1, 2, 3, 4] [4] [] ⟨[(1, tI k), (2, tI j), (3, .av (.one (.s rule))), (4, tP 4 0)], [(4, .cells ((boardC (LL (m))) b) 41)]⟩ .nil (by kernel_rfl) .nil ?_
  refine ath_n ?_
  refine aw_seq ?_
  refine aw_seq ?_
  refine aw_region eqok [] [] [] [1, 2, 3, 4, 9] [4] [] ⟨[(1, tI k), (2, tI j), (3, .av (.one (.s rule))), (4, tP 4 0), (9, tI 0)], [(4, .cells ((boardC (LL (m))) b) 41)]⟩ .nil (by kernel_rfl) .nil ?_
  refine ath_n ?_
  refine aw_block ?_
  refine aw_loopC (ι := Nat × Int) (fun x => ⟨[(1, tI k), (2, tI j), (3, .av (.one (.s rule))), (4, tP 4 0), (9, tI x.2)], [(4, .cells ((boardC (LL (m))) b) 41)]⟩) (fun x => ((((b.Waivers.length : Int))) - x.2).toNat < x.1 ∧ (0 ≤ x.2 ∧ (x.2 ≤ ((b.Waivers.length : Int)) ∨ x.2 = 0)) ∧ FrWaived_l0 b k j rule x.1 x.2 = FrWaived b k j rule) (fun x => x.1) ?_ (((((b.Waivers.length : Int))) - 0).toNat + 1, 0) ⟨Nat.lt_succ_self _, ⟨(by show 0 ≤ 0; first | trivial | omega | (simp only [List.length_append, List.length_cons, List.length_nil]; omega) | (simp only [List.length_set, List.length_append, List.length_cons, List.length_nil]; omega) | (simp only [W64_def]; omega) | (simp; omega) | simp), (by show (0 ≤ ((b.Waivers.length : Int)) ∨ 0 = 0); first | trivial | omega | (simp only [List.length_append, List.length_cons, List.length_nil]; omega) | (simp only [List.length_set, List.length_append, List.length_cons, List.length_nil]; omega) | (simp only [W64_def]; omega) | (simp; omega) | simp)⟩, (by simp only [FrWaived, cond_true, cond_false])⟩
  rintro ⟨n0, k'⟩ ⟨hn, hinv, hF⟩
  have hm0 : ((((b.Waivers.length : Int))) - k').toNat < n0 := hn; have hinv0 : 0 ≤ k' ∧ (k' ≤ ((b.Waivers.length : Int)) ∨ k' = 0) := hinv; have hF0 : FrWaived_l0 b k j rule n0 k' = FrWaived b k j rule := hF; clear hn hinv hF
  cases n0 with
  | zero => exact absurd hm0 (Nat.not_lt_zero _)
  | succ n0 =>
    refine aw_seq ?_
    refine aw_seq ?_
    refine aw_region eqok [] [] [] [1, 2, 3, 4, 9, 15] [4] [] ⟨[(1, tI k), (2, tI j), (3, .av (.one (.s rule))), (4, tP 4 0), (9, tI k'), (15, tB (decide ((k' : Int) < ((b.Waivers.length : Int)))))], [(4, .cells ((boardC (LL (m))) b) 41)]⟩ .nil (by kernel_rfl) .nil ?_
    refine ath_n ?_
    refine aw_cond (decide ((k' : Int) < ((b.Waivers.length : Int)))) (by kernel_rfl) (fun h1 => ?_) (fun h1 => ?_)
    · have g1 := of_decide_eq_true h1
      refine aw_skip ?_
      refine ath_n ?_
      refine aw_seq ?_
      refine aw_block ?_
      refine aw_seq ?_
      refine aw_region eqok [] [] [] [1, 2, 3, 4, 9, 10] [4, 10] [0 ≤ (k' : Int) ∧ (k' : Int) < ((b.Waivers.length : Nat) : Int)] ⟨[(1, tI k), (2, tI j), (3, .av (.one (.s rule))), (4, tP 4 0), (9, tI k'), (10, tP 10 0)], [(4, .cells ((boardC (LL (m))) b) 41), (10, .cells (TWaiver.c (b.Waivers.getD k'.toNat default)) 68)]⟩ .nil (by kernel_rfl) (.cons (by first | decide | omega | exact idx_tmod (by first | omega | (simp only [W64_def]; omega)) (by omega) | (simp only [W64_def]; omega) | (constructor <;> omega) | (simp only [List.length_append, List.length_cons, List.length_nil]; omega) | (simp only [List.length_append, List.length_cons, List.length_nil, List.length_drop, List.length_take] at *; omega)) .nil) ?_
      refine ath_n ?_
      refine aw_seq ?_
      refine aw_region eqok [] [] [] [1, 2, 3, 4, 9, 50] [4] [((wrWaived_1 b k' rule) = true) → ((wrWaived_1 b k' rule) = true), ((wrWaived_1 b k' rule) = true) → ((wrWaived_1 b k' rule) = true), ((wrWaived_1 b k' rule) = true) → ((wrWaived_1 b k' rule) = true), ((wrWaived_1 b k' rule) = true) → ((wrWaived_1 b k' rule) = true), (((wrWaived_1 b k' rule) = true) ∧ (decide ((((b.Waivers.getD k'.toNat default).A) : Int) = k)) = true) → (((wrWaived_1 b k' rule) = true) ∧ (decide ((((b.Waivers.getD k'.toNat default).A) : Int) = k)) = true), (((wrWaived_1 b k' rule) = true) ∧ (decide ((((b.Waivers.getD k'.toNat default).A) : Int) = k)) = true) → (((wrWaived_1 b k' rule) = true) ∧ (decide ((((b.Waivers.getD k'.toNat default).A) : Int) = k)) = true), (((wrWaived_1 b k' rule) = true) ∧ (decide ((((b.Waivers.getD k'.toNat default).A) : Int) = k)) = true) → (((wrWaived_1 b k' rule) = true) ∧ (decide ((((b.Waivers.getD k'.toNat default).A) : Int) = k)) = true), ((wrWaived_1 b k' rule) = true) → ((wrWaived_1 b k' rule) = true), ((wrWaived_1 b k' rule) = true) → ((decide ((((b.Waivers.getD k'.toNat default).A) : Int) = k)) = true → (((wrWaived_1 b k' rule) = true) ∧ (decide ((((b.Waivers.getD k'.toNat default).A) : Int) = k)) = true)), ((wrWaived_1 b k' rule) = true) → ((wrWaived_1 b k' rule) = true), (((wrWaived_1 b k' rule) = true) ∧ (bif decide ((((b.Waivers.getD k'.toNat default).A) : Int) = k) then decide ((((b.Waivers.getD k'.toNat default).B) : Int) = j) else false) = false) → (((wrWaived_1 b k' rule) = true) ∧ (bif decide ((((b.Waivers.getD k'.toNat default).A) : Int) = k) then decide ((((b.Waivers.getD k'.toNat default).B) : Int) = j) else false) = false), (((wrWaived_1 b k' rule) = true) ∧ (bif decide ((((b.Waivers.getD k'.toNat default).A) : Int) = k) then decide ((((b.Waivers.getD k'.toNat default).B) : Int) = j) else false) = false) → (((wrWaived_1 b k' rule) = true) ∧ (bif decide ((((b.Waivers.getD k'.toNat default).A) : Int) = k) then decide ((((b.Waivers.getD k'.toNat default).B) : Int) = j) else false) = false), (((wrWaived_1 b k' rule) = true) ∧ (bif decide ((((b.Waivers.getD k'.toNat default).A) : Int) = k) then decide ((((b.Waivers.getD k'.toNat default).B) : Int) = j) else false) = false) → (((wrWaived_1 b k' rule) = true) ∧ (bif decide ((((b.Waivers.getD k'.toNat default).A) : Int) = k) then decide ((((b.Waivers.getD k'.toNat default).B) : Int) = j) else false) = false), (((wrWaived_1 b k' rule) = true) ∧ (bif decide ((((b.Waivers.getD k'.toNat default).A) : Int) = k) then decide ((((b.Waivers.getD k'.toNat default).B) : Int) = j) else false) = false) → (((wrWaived_1 b k' rule) = true) ∧ (bif decide ((((b.Waivers.getD k'.toNat default).A) : Int) = k) then decide ((((b.Waivers.getD k'.toNat default).B) : Int) = j) else false) = false), ((((wrWaived_1 b k' rule) = true) ∧ (bif decide ((((b.Waivers.getD k'.toNat default).A) : Int) = k) then decide ((((b.Waivers.getD k'.toNat default).B) : Int) = j) else false) = false) ∧ (decide ((((b.Waivers.getD k'.toNat default).A) : Int) = j)) = true) → ((((wrWaived_1 b k' rule) = true) ∧ (bif decide ((((b.Waivers.getD k'.toNat default).A) : Int) = k) then decide ((((b.Waivers.getD k'.toNat default).B) : Int) = j) else false) = false) ∧ (decide ((((b.Waivers.getD k'.toNat default).A) : Int) = j)) = true), ((((wrWaived_1 b k' rule) = true) ∧ (bif decide ((((b.Waivers.getD k'.toNat default).A) : Int) = k) then decide ((((b.Waivers.getD k'.toNat default).B) : Int) = j) else false) = false) ∧ (decide ((((b.Waivers.getD k'.toNat default).A) : Int) = j)) = true) → ((((wrWaived_1 b k' rule) = true) ∧ (bif decide ((((b.Waivers.getD k'.toNat default).A) : Int) = k) then decide ((((b.Waivers.getD k'.toNat default).B) : Int) = j) else false) = false) ∧ (decide ((((b.Waivers.getD k'.toNat default).A) : Int) = j)) = true), ((((wrWaived_1 b k' rule) = true) ∧ (bif decide ((((b.Waivers.getD k'.toNat default).A) : Int) = k) then decide ((((b.Waivers.getD k'.toNat default).B) : Int) = j) else false) = false) ∧ (decide ((((b.Waivers.getD k'.toNat default).A) : Int) = j)) = true) → ((((wrWaived_1 b k' rule) = true) ∧ (bif decide ((((b.Waivers.getD k'.toNat default).A) : Int) = k) then decide ((((b.Waivers.getD k'.toNat default).B) : Int) = j) else false) = false) ∧ (decide ((((b.Waivers.getD k'.toNat default).A) : Int) = j)) = true), (((wrWaived_1 b k' rule) = true) ∧ (bif decide ((((b.Waivers.getD k'.toNat default).A) : Int) = k) then decide ((((b.Waivers.getD k'.toNat default).B) : Int) = j) else false) = false) → (((wrWaived_1 b k' rule) = true) ∧ (bif decide ((((b.Waivers.getD k'.toNat default).A) : Int) = k) then decide ((((b.Waivers.getD k'.toNat default).B) : Int) = j) else false) = false), (((wrWaived_1 b k' rule) = true) ∧ (bif decide ((((b.Waivers.getD k'.toNat default).A) : Int) = k) then decide ((((b.Waivers.getD k'.toNat default).B) : Int) = j) else false) = false) → ((decide ((((b.Waivers.getD k'.toNat default).A) : Int) = j)) = true → ((((wrWaived_1 b k' rule) = true) ∧ (bif decide ((((b.Waivers.getD k'.toNat default).A) : Int) = k) then decide ((((b.Waivers.getD k'.toNat default).B) : Int) = j) else false) = false) ∧ (decide ((((b.Waivers.getD k'.toNat default).A) : Int) = j)) = true)), ((wrWaived_1 b k' rule) = true) → ((wrWaived_1 b k' rule) = true), ((wrWaived_1 b k' rule) = true) → ((bif decide ((((b.Waivers.getD k'.toNat default).A) : Int) = k) then decide ((((b.Waivers.getD k'.toNat default).B) : Int) = j) else false) = false → (((wrWaived_1 b k' rule) = true) ∧ (bif decide ((((b.Waivers.getD k'.toNat default).A) : Int) = k) then decide ((((b.Waivers.getD k'.toNat default).B) : Int) = j) else false) = false)), (wrWaived_1 b k' rule) = true → ((wrWaived_1 b k' rule) = true)] ⟨[(1, tI k), (2, tI j), (3, .av (.one (.s rule))), (4, tP 4 0), (9, tI k'), (50, tB (bif wrWaived_1 b k' rule then bif bif decide ((((b.Waivers.getD k'.toNat default).A) : Int) = k) then decide ((((b.Waivers.getD k'.toNat default).B) : Int) = j) else false then true else bif decide ((((b.Waivers.getD k'.toNat default).A) : Int) = j) then decide ((((b.Waivers.getD k'.toNat default).B) : Int) = k) else false else false))], [(4, .cells ((boardC (LL (m))) b) 41)]⟩ .nil (by kernel_rfl) (.cons id (.cons id (.cons id (.cons id (.cons id (.cons id (.cons id (.cons id (.cons (by intros; first | assumption | exact ⟨by assumption, by assumption⟩ | simp_all) (.cons id (.cons id (.cons id (.cons id (.cons id (.cons id (.cons id (.cons id (.cons id (.cons (by intros; first | assumption | exact ⟨by assumption, by assumption⟩ | simp_all) (.cons id (.cons (by intros; first | assumption | exact ⟨by assumption, by assumption⟩ | simp_all) (.cons id .nil)))))))))))))))))))))) ?_
      refine ath_n ?_
      refine aw_cond (bif wrWaived_1 b k' rule then bif bif decide ((((b.Waivers.getD k'.toNat default).A) : Int) = k) then decide ((((b.Waivers.getD k'.toNat default).B) : Int) = j) else false then true else bif decide ((((b.Waivers.getD k'.toNat default).A) : Int) = j) then decide ((((b.Waivers.getD k'.toNat default).B) : Int) = k) else false else false) (by kernel_rfl) (fun h2 => ?_) (fun h2 => ?_)
      · refine aw_seq ?_
        refine aw_region eqok [] [] [] [8] [] [] ⟨[(8, tB true)], []⟩ .nil (by kernel_rfl) .nil ?_
        refine ath_n ?_
        refine aw_ret ?_
        refine abl_r ?_
        refine ath_r ?_
        refine ath_r ?_
        refine abl_r ?_
        refine ath_r ?_
        exact ⟨_, Cv.refl _, .inl rfl, .av (.one (.b true)), by kernel_rfl, tve_eq (by rw [← hF0]; first | (simp only [FrWaived_l0, h1, h2, cond_true, cond_false]; done) | (simp only [FrWaived_l0, h1, h2, cond_true, cond_false]; rfl))⟩
      · refine aw_skip ?_
        refine abl_n ?_
        refine ath_n ?_
        refine aw_region eqok [] [] [] [1, 2, 3, 4, 9] [4] [] ⟨[(1, tI k), (2, tI j), (3, .av (.one (.s rule))), (4, tP 4 0), (9, tI (W64 (k' + 1)))], [(4, .cells ((boardC (LL (m))) b) 41)]⟩ .nil (by kernel_rfl) .nil ?_
        (try rw [(show W64 (k' + 1) = k' + 1 from W64_id (by omega) (by first | omega | (simp only [List.length_drop, List.length_take] at *; omega)))])
        refine ath_n ?_
        refine ⟨(n0, k' + 1), ⟨?_, ?_, (by rw [← hF0]; simp only [FrWaived_l0, h1, h2, cond_true, cond_false])⟩, Nat.lt_succ_self _, cv_eq (by kernel_rfl)⟩
        · show ((((b.Waivers.length : Int))) - (k' + 1)).toNat < n0; omega
        · exact ⟨(by show 0 ≤ (k' + 1); first | trivial | omega | (simp only [List.length_append, List.length_cons, List.length_nil]; omega) | (simp only [List.length_set, List.length_append, List.length_cons, List.length_nil]; omega) | (simp only [W64_def]; omega) | (simp; omega) | simp), (by show ((k' + 1) ≤ ((b.Waivers.length : Int)) ∨ (k' + 1) = 0); first | trivial | omega | (simp only [List.length_append, List.length_cons, List.length_nil]; omega) | (simp only [List.length_set, List.length_append, List.length_cons, List.length_nil]; omega) | (simp only [W64_def]; omega) | (simp; omega) | simp)⟩
    · have g1 := of_decide_eq_false h1
      refine aw_exit ?_
      refine ath_e ?_
      refine ath_e ?_
      refine abl_hit ?_
      refine ath_n ?_
      refine aw_seq ?_
      refine aw_region eqok [] [] [] [8] [] [] ⟨[(8, tB false)], []⟩ .nil (by kernel_rfl) .nil ?_
      refine ath_n ?_
      refine aw_ret ?_
      exact ⟨_, Cv.refl _, .inl rfl, .av (.one (.b false)), by kernel_rfl, tve_eq (by rw [← hF0]; first | (simp only [FrWaived_l0, h1, cond_true, cond_false]; done) | (simp only [FrWaived_l0, h1, cond_true, cond_false]; rfl))⟩
end Go.Proofs.Ytoojlpcimogehaa
