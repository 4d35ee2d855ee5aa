/-
  No statement is proved in this text. It holds what functions return.
-/
import Derived.Test.YtpnlegfdkkcnlaaProg
import Derived.Test.YtpnlegfdkkcnlaaBk2b
namespace Go.Proofs.Ytpnlegfdkkcnlaa
open Go.RowKit
set_option linter.unusedVariables false
set_option linter.unusedSimpArgs false
def wBox_1 (s : TShape) (v21 : Int) : TEdge := (s.Edges.drop (1 : Int).toNat).getD v21.toNat default
def FBox_l0 (s : TShape) : Nat → TRect → Int → TRect
  | 0, _, _ => default
  | n0 + 1, v3, v21 => bif decide ((v21 : Int) < ((((((s.Edges.length : Nat) : Int) : Int).toNat - (1 : Int).toNat : Nat) : Int))) then ((FBox_l0 s n0) (TRect.mk (min v3.X0 ((FedgeBox (wBox_1 s v21)).X0)) (min v3.Y0 ((FedgeBox (wBox_1 s v21)).Y0)) (max v3.X1 ((FedgeBox (wBox_1 s v21)).X1)) (max v3.Y1 ((FedgeBox (wBox_1 s v21)).Y1))) (v21 + 1)) else (TRect.mk (W64 (v3.X0 - s.R)) (W64 (v3.Y0 - s.R)) (W64 (v3.X1 + s.R)) (W64 (v3.Y1 + s.R)))
def FBox (s : TShape) : TRect := bif decide ((((s.Edges.length : Int)) : Int) = 0) then (TRect.mk 0 0 0 0) else (FBox_l0 s (((((((((s.Edges.length : Nat) : Int) : Int).toNat - (1 : Int).toNat : Nat) : Int))) - 0).toNat + 1) (FedgeBox (s.Edges.getD 0 default)) 0)
def cBox (s : TShape) : FuncId × List Av × Ef := (25, [.agg (TShape.c s)], .val [] (.av (.agg (TRect.c (FBox s)))))
set_option maxRecDepth 100000 in
theorem pBox (s : TShape) (h0 : (s.Edges.length : Int) ≤ 1000000) : Pure Try.prog 25 (cBox s).2.1 (.av (.agg (TRect.c (FBox s)))) := by
  refine pure_of_awF Try.func25 rfl (by kernel_rfl) (by kernel_rfl) fun W0 M0 => ?_
  refine aw_seq ?_
  refine aw_region eqok [] [] [] [1, 2] [1, 2] [] ⟨[(1, tP 1 0), (2, tP 2 0)], [(1, .cells (TShape.c s) 26), (2, .cells [.i 0, .i 0, .i 0, .i 0] 54)]⟩ .nil (by kernel_rfl) .nil ?_
  refine ath_n ?_
  refine aw_seq ?_
  refine aw_seq ?_
  refine aw_region eqok [] [] [] [1, 2, 10] [1, 2] [] ⟨[(1, tP 1 0), (2, tP 2 0), (10, tB (decide ((((s.Edges.length : Int)) : Int) = 0)))], [(1, .cells (TShape.c s) 26), (2, .cells [.i 0, .i 0, .i 0, .i 0] 54)]⟩ .nil (by kernel_rfl) .nil ?_
  refine ath_n ?_
  refine aw_cond (decide ((((s.Edges.length : Int)) : Int) = 0)) (by kernel_rfl) (fun h1 => ?_) (fun h1 => ?_)
  · have g1 := of_decide_eq_true h1
    refine aw_seq ?_
    refine aw_region eqok [] [] [] [2] [2] [] ⟨[(2, tP 2 0)], [(2, .cells [.i 0, .i 0, .i 0, .i 0] 54)]⟩ .nil (by kernel_rfl) .nil ?_
    refine ath_n ?_
    refine aw_ret ?_
    refine ath_r ?_
    exact ⟨_, Cv.refl _, .inl rfl, .av (.agg [.i 0, .i 0, .i 0, .i 0]), by kernel_rfl, tve_eq (by first | (simp only [FBox, h1, cond_true, cond_false]; done) | (simp only [FBox, h1, cond_true, cond_false]; rfl))⟩
  · have g1 := of_decide_eq_false h1
    refine aw_skip ?_
    refine ath_n ?_
    refine aw_seq ?_
    refine aw_region eqok [] [] [(16, cedgeBox (s.Edges.getD 0 default))] [1, 2, 3] [1, 2, 3] [0 ≤ (0 : Int) ∧ (0 : Int) < ((s.Edges.length : Nat) : Int), Same (cedgeBox (s.Edges.getD 0 default)).2.1] ⟨[(1, tP 1 0), (2, tP 2 0), (3, tP 3 0)], [(1, .cells (TShape.c s) 26), (2, .cells [.i 0, .i 0, .i 0, .i 0] 54), (3, .cells (TRect.c (FedgeBox (s.Edges.getD 0 default))) 54)]⟩ (.cons (okedgeBox (s.Edges.getD 0 default)) .nil) (by kernel_rfl) (.cons (by first | decide | omega | exact idx_tmod (by first | omega | (simp only [W64_def]; omega)) (by omega) | (simp only [W64_def]; omega) | (constructor <;> omega) | (simp only [List.length_append, List.length_cons, List.length_nil]; omega) | (simp only [List.length_append, List.length_cons, List.length_nil, List.length_drop, List.length_take] at *; omega)) (.cons rfl .nil)) ?_
    refine ath_n ?_
    refine aw_seq ?_
    refine aw_seq ?_
    refine aw_region eqok [] [] [] [1, 2, 3, 19, 20, 21] [1, 2, 3] [0 ≤ (1 : Int) ∧ (1 : Int) ≤ (((s.Edges.length : Nat) : Int) : Int) ∧ (((s.Edges.length : Nat) : Int) : Int) ≤ ((s.Edges.length : Nat) : Int)] ⟨[(1, tP 1 0), (2, tP 2 0), (3, tP 3 0), (19, .av (.one (.list false 7 ((((s.Edges.length : Nat) : Int) : Int).toNat - (1 : Int).toNat) (fun i j => (rowF TEdge.c s.Edges) (i + (1 : Int).toNat) j)))), (20, tI ((((((s.Edges.length : Nat) : Int) : Int).toNat - (1 : Int).toNat : Nat) : Int))), (21, tI 0)], [(1, .cells (TShape.c s) 26), (2, .cells [.i 0, .i 0, .i 0, .i 0] 54), (3, .cells (TRect.c (FedgeBox (s.Edges.getD 0 default))) 54)]⟩ .nil (by kernel_rfl) (.cons (by first | decide | omega | exact idx_tmod (by first | omega | (simp only [W64_def]; omega)) (by omega) | (simp only [W64_def]; omega) | (constructor <;> omega) | (simp only [List.length_append, List.length_cons, List.length_nil]; omega) | (simp only [List.length_append, List.length_cons, List.length_nil, List.length_drop, List.length_take] at *; omega)) .nil) ?_
    refine ath_n ?_
    refine aw_cv (Cv.trans (cv_ce (⟨[(1, tP 1 0), (2, tP 2 0), (3, tP 3 0), (19, .av (.one (lst 7 TEdge.c (s.Edges.drop (1 : Int).toNat)))), (20, tI ((((((s.Edges.length : Nat) : Int) : Int).toNat - (1 : Int).toNat : Nat) : Int))), (21, tI 0)], [(1, .cells (TShape.c s) 26), (2, .cells [.i 0, .i 0, .i 0, .i 0] 54), (3, .cells (TRect.c (FedgeBox (s.Edges.getD 0 default))) 54)]⟩) (.cons ⟨rfl, .refl _⟩ (.cons ⟨rfl, .refl _⟩ (.cons ⟨rfl, .refl _⟩ (.cons ⟨rfl, .av (.one (cle_told false (told_drop (a := 1) (told_rfl 7 TEdge.c s.Edges) (by have hc := (show 0 ≤ (1 : Int) ∧ (1 : Int) ≤ (((s.Edges.length : Nat) : Int) : Int) ∧ (((s.Edges.length : Nat) : Int) : Int) ≤ ((s.Edges.length : Nat) : Int) from (by first | decide | omega | exact idx_tmod (by first | omega | (simp only [W64_def]; omega)) (by omega) | (simp only [W64_def]; omega) | (constructor <;> omega) | (simp only [List.length_append, List.length_cons, List.length_nil]; omega) | (simp only [List.length_append, List.length_cons, List.length_nil, List.length_drop, List.length_take] at *; omega))); exact hc.1) (by have hc := (show 0 ≤ (1 : Int) ∧ (1 : Int) ≤ (((s.Edges.length : Nat) : Int) : Int) ∧ (((s.Edges.length : Nat) : Int) : Int) ≤ ((s.Edges.length : Nat) : Int) from (by first | decide | omega | exact idx_tmod (by first | omega | (simp only [W64_def]; omega)) (by omega) | (simp only [W64_def]; omega) | (constructor <;> omega) | (simp only [List.length_append, List.length_cons, List.length_nil]; omega) | (simp only [List.length_append, List.length_cons, List.length_nil, List.length_drop, List.length_take] at *; omega))); exact hc.2.1))))⟩ (.cons ⟨rfl, .refl _⟩ (.cons ⟨rfl, .refl _⟩ .nil)))))) (.cons ⟨rfl, .refl _⟩ (.cons ⟨rfl, .refl _⟩ (.cons ⟨rfl, .refl _⟩ .nil)))) (Cv.refl _)) ?_
    refine aw_block ?_
    refine aw_loopC (ι := Nat × TRect × Int) (fun x => ⟨[(1, tP 1 0), (2, tP 2 0), (3, tP 3 0), (19, .av (.one (lst 7 TEdge.c (s.Edges.drop (1 : Int).toNat)))), (20, tI ((((((s.Edges.length : Nat) : Int) : Int).toNat - (1 : Int).toNat : Nat) : Int))), (21, tI x.2.2)], [(1, .cells (TShape.c s) 26), (2, .cells [.i 0, .i 0, .i 0, .i 0] 54), (3, .cells (TRect.c x.2.1) 54)]⟩) (fun x => ((((((((s.Edges.length : Nat) : Int) : Int).toNat - (1 : Int).toNat : Nat) : Int))) - x.2.2).toNat < x.1 ∧ (0 ≤ x.2.2 ∧ (x.2.2 ≤ ((((((s.Edges.length : Nat) : Int) : Int).toNat - (1 : Int).toNat : Nat) : Int)) ∨ x.2.2 = 0)) ∧ FBox_l0 s x.1 x.2.1 x.2.2 = FBox s) (fun x => x.1) ?_ (((((((((s.Edges.length : Nat) : Int) : Int).toNat - (1 : Int).toNat : Nat) : Int))) - 0).toNat + 1, FedgeBox (s.Edges.getD 0 default), 0) ⟨Nat.lt_succ_self _, ⟨(by show 0 ≤ 0; first | trivial | omega | (simp only [List.length_append, List.length_cons, List.length_nil]; omega) | (simp only [List.length_set, List.length_append, List.length_cons, List.length_nil]; omega) | (simp only [W64_def]; omega) | (simp; omega) | simp), (by show (0 ≤ ((((((s.Edges.length : Nat) : Int) : Int).toNat - (1 : Int).toNat : Nat) : Int)) ∨ 0 = 0); first | trivial | omega | (simp only [List.length_append, List.length_cons, List.length_nil]; omega) | (simp only [List.length_set, List.length_append, List.length_cons, List.length_nil]; omega) | (simp only [W64_def]; omega) | (simp; omega) | simp)⟩, (by simp only [FBox, h1, cond_true, cond_false])⟩
    rintro ⟨n0, v3, v21⟩ ⟨hn, hinv, hF⟩
    have hm0 : ((((((((s.Edges.length : Nat) : Int) : Int).toNat - (1 : Int).toNat : Nat) : Int))) - v21).toNat < n0 := hn; have hinv0 : 0 ≤ v21 ∧ (v21 ≤ ((((((s.Edges.length : Nat) : Int) : Int).toNat - (1 : Int).toNat : Nat) : Int)) ∨ v21 = 0) := hinv; have hF0 : FBox_l0 s n0 v3 v21 = FBox s := hF; clear hn hinv hF
    cases n0 with
    | zero => exact absurd hm0 (Nat.not_lt_zero _)
    | succ n0 =>
      refine aw_seq ?_
      refine aw_region eqok [] [] [] [1, 2, 3, 19, 20, 21, 22] [1, 2, 3] [] ⟨[(1, tP 1 0), (2, tP 2 0), (3, tP 3 0), (19, .av (.one (lst 7 TEdge.c (s.Edges.drop (1 : Int).toNat)))), (20, tI ((((((s.Edges.length : Nat) : Int) : Int).toNat - (1 : Int).toNat : Nat) : Int))), (21, tI v21), (22, tB (decide ((v21 : Int) < ((((((s.Edges.length : Nat) : Int) : Int).toNat - (1 : Int).toNat : Nat) : Int)))))], [(1, .cells (TShape.c s) 26), (2, .cells [.i 0, .i 0, .i 0, .i 0] 54), (3, .cells (TRect.c v3) 54)]⟩ .nil (by kernel_rfl) .nil ?_
      refine ath_n ?_
      refine aw_seq ?_
      refine aw_cond (decide ((v21 : Int) < ((((((s.Edges.length : Nat) : Int) : Int).toNat - (1 : Int).toNat : Nat) : Int)))) (by kernel_rfl) (fun h2 => ?_) (fun h2 => ?_)
      · have g2 := of_decide_eq_true h2
        refine aw_skip ?_
        refine ath_n ?_
        refine aw_seq ?_
        refine aw_block ?_
        refine aw_seq ?_
        refine aw_region eqok [] [] [] [1, 2, 3, 5, 19, 20, 21] [1, 2, 3, 5] [0 ≤ (v21 : Int) ∧ (v21 : Int) < (((s.Edges.drop (1 : Int).toNat).length : Nat) : Int)] ⟨[(1, tP 1 0), (2, tP 2 0), (3, tP 3 0), (5, tP 5 0), (19, .av (.one (lst 7 TEdge.c (s.Edges.drop (1 : Int).toNat)))), (20, tI ((((((s.Edges.length : Nat) : Int) : Int).toNat - (1 : Int).toNat : Nat) : Int))), (21, tI v21)], [(1, .cells (TShape.c s) 26), (2, .cells [.i 0, .i 0, .i 0, .i 0] 54), (3, .cells (TRect.c v3) 54), (5, .cells (TEdge.c (wBox_1 s v21)) 35)]⟩ .nil (by kernel_rfl) (.cons (by first | decide | omega | exact idx_tmod (by first | omega | (simp only [W64_def]; omega)) (by omega) | (simp only [W64_def]; omega) | (constructor <;> omega) | (simp only [List.length_append, List.length_cons, List.length_nil]; omega) | (simp only [List.length_append, List.length_cons, List.length_nil, List.length_drop, List.length_take] at *; omega)) .nil) ?_
        refine ath_n ?_
        refine aw_seq ?_
        refine aw_region eqok [] [] [(26, cedgeBox (wBox_1 s v21))] [1, 2, 3, 6, 19, 20, 21] [1, 2, 3, 6] [Same (cedgeBox (wBox_1 s v21)).2.1] ⟨[(1, tP 1 0), (2, tP 2 0), (3, tP 3 0), (6, tP 6 0), (19, .av (.one (lst 7 TEdge.c (s.Edges.drop (1 : Int).toNat)))), (20, tI ((((((s.Edges.length : Nat) : Int) : Int).toNat - (1 : Int).toNat : Nat) : Int))), (21, tI v21)], [(1, .cells (TShape.c s) 26), (2, .cells [.i 0, .i 0, .i 0, .i 0] 54), (3, .cells (TRect.c v3) 54), (6, .cells (TRect.c (FedgeBox (wBox_1 s v21))) 54)]⟩ (.cons (okedgeBox (wBox_1 s v21)) .nil) (by kernel_rfl) (.cons rfl .nil) ?_
        refine ath_n ?_
        refine aw_region eqok [] [] [] [1, 2, 3, 19, 20, 21] [1, 2, 3] [] ⟨[(1, tP 1 0), (2, tP 2 0), (3, tP 3 0), (19, .av (.one (lst 7 TEdge.c (s.Edges.drop (1 : Int).toNat)))), (20, tI ((((((s.Edges.length : Nat) : Int) : Int).toNat - (1 : Int).toNat : Nat) : Int))), (21, tI v21)], [(1, .cells (TShape.c s) 26), (2, .cells [.i 0, .i 0, .i 0, .i 0] 54), (3, .cells [.i (min v3.X0 ((FedgeBox (wBox_1 s v21)).X0)), .i (min v3.Y0 ((FedgeBox (wBox_1 s v21)).Y0)), .i (max v3.X1 ((FedgeBox (wBox_1 s v21)).X1)), .i (max v3.Y1 ((FedgeBox (wBox_1 s v21)).Y1))] 54)]⟩ .nil (by kernel_rfl) .nil ?_
        refine abl_n ?_
        refine ath_n ?_
        refine aw_region eqok [] [] [] [1, 2, 3, 19, 20, 21] [1, 2, 3] [] ⟨[(1, tP 1 0), (2, tP 2 0), (3, tP 3 0), (19, .av (.one (lst 7 TEdge.c (s.Edges.drop (1 : Int).toNat)))), (20, tI ((((((s.Edges.length : Nat) : Int) : Int).toNat - (1 : Int).toNat : Nat) : Int))), (21, tI (W64 (v21 + 1)))], [(1, .cells (TShape.c s) 26), (2, .cells [.i 0, .i 0, .i 0, .i 0] 54), (3, .cells [.i (min v3.X0 ((FedgeBox (wBox_1 s v21)).X0)), .i (min v3.Y0 ((FedgeBox (wBox_1 s v21)).Y0)), .i (max v3.X1 ((FedgeBox (wBox_1 s v21)).X1)), .i (max v3.Y1 ((FedgeBox (wBox_1 s v21)).Y1))] 54)]⟩ .nil (by kernel_rfl) .nil ?_
        (try rw [(show W64 (v21 + 1) = v21 + 1 from W64_id (by omega) (by first | omega | (simp only [List.length_drop, List.length_take] at *; omega)))])
        refine ath_n ?_
        refine ⟨(n0, TRect.mk (min v3.X0 ((FedgeBox (wBox_1 s v21)).X0)) (min v3.Y0 ((FedgeBox (wBox_1 s v21)).Y0)) (max v3.X1 ((FedgeBox (wBox_1 s v21)).X1)) (max v3.Y1 ((FedgeBox (wBox_1 s v21)).Y1)), v21 + 1), ⟨?_, ?_, (by rw [← hF0]; simp only [FBox_l0, h2, cond_true, cond_false])⟩, Nat.lt_succ_self _, cv_eq (by kernel_rfl)⟩
        · show ((((((((s.Edges.length : Nat) : Int) : Int).toNat - (1 : Int).toNat : Nat) : Int))) - (v21 + 1)).toNat < n0; omega
        · exact ⟨(by show 0 ≤ (v21 + 1); first | trivial | omega | (simp only [List.length_append, List.length_cons, List.length_nil]; omega) | (simp only [List.length_set, List.length_append, List.length_cons, List.length_nil]; omega) | (simp only [W64_def]; omega) | (simp; omega) | simp), (by show ((v21 + 1) ≤ ((((((s.Edges.length : Nat) : Int) : Int).toNat - (1 : Int).toNat : Nat) : Int)) ∨ (v21 + 1) = 0); first | trivial | omega | (simp only [List.length_append, List.length_cons, List.length_nil]; omega) | (simp only [List.length_set, List.length_append, List.length_cons, List.length_nil]; omega) | (simp only [W64_def]; omega) | (simp; omega) | simp)⟩
      · have g2 := of_decide_eq_false h2
        refine aw_exit ?_
        refine ath_e ?_
        refine ath_e ?_
        refine abl_hit ?_
        refine ath_n ?_
        refine aw_seq ?_
        refine aw_region eqok [] [] [] [2] [2] [] ⟨[(2, tP 2 0)], [(2, .cells [.i (W64 (v3.X0 - s.R)), .i (W64 (v3.Y0 - s.R)), .i (W64 (v3.X1 + s.R)), .i (W64 (v3.Y1 + s.R))] 54)]⟩ .nil (by kernel_rfl) .nil ?_
        refine ath_n ?_
        refine aw_ret ?_
        exact ⟨_, Cv.refl _, .inl rfl, .av (.agg [.i (W64 (v3.X0 - s.R)), .i (W64 (v3.Y0 - s.R)), .i (W64 (v3.X1 + s.R)), .i (W64 (v3.Y1 + s.R))]), by kernel_rfl, tve_eq (by rw [← hF0]; first | (simp only [FBox_l0, h2, cond_true, cond_false]; done) | (simp only [FBox_l0, h2, cond_true, cond_false]; rfl))⟩
theorem okBox (s : TShape) (h0 : (s.Edges.length : Int) ≤ 1000000) : CallOk Try.prog (cBox s).1 (cBox s).2.1 (cBox s).2.2 := callOk_pure (fun _ _ => by kernel_rfl) fun _ => pBox s h0
end Go.Proofs.Ytpnlegfdkkcnlaa
