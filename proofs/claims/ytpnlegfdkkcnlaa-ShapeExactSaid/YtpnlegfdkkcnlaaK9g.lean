/-
  No statement is proved in this text. It holds what functions return.
-/
import Derived.Test.YtpnlegfdkkcnlaaProg
import Derived.Test.YtpnlegfdkkcnlaaK9f
namespace Go.Proofs.Ytpnlegfdkkcnlaa
open Go.RowKit
set_option linter.unusedVariables false
set_option linter.unusedSimpArgs false
def wnearArc_0 (x0 : TEdge) : TPoint := bif decide ((x0.Kind : Int) = 3) then (Fref05Sub x0.B x0.C) else (Fref05Sub x0.A x0.C)
def wnearArc_1 (x0 : TEdge) : TPoint := bif decide ((x0.Kind : Int) = 3) then (Fref05Sub x0.A x0.C) else (Fref05Sub x0.B x0.C)
def wnearArc_2 (x1 : TPoint) (x0 : TEdge) : Bool := Fref05Within (Fref05Sub x1 x0.C) (wnearArc_0 x0) (wnearArc_1 x0)
def FnearArc (x0 : TEdge) (x1 : TPoint) (x2 : Int) : Bool := bif !(wnearArc_2 x1 x0) then (bif decide (((FfarR x1 x0.A) : Int) ≤ (W64 (x2 * x2))) then true else decide (((FfarR x1 x0.B) : Int) ≤ (W64 (x2 * x2)))) else (bif decide (((Fref05Dot (Fref05Sub x1 x0.C) (Fref05Sub x1 x0.C)) : Int) ≤ (W64 ((W64 ((Fref06Radius x0) + x2)) * (W64 ((Fref06Radius x0) + x2))))) then bif decide (((Fref06Radius x0) : Int) ≤ x2) then true else decide (((W64 ((W64 ((Fref06Radius x0) - x2)) * (W64 ((Fref06Radius x0) - x2)))) : Int) ≤ (Fref05Dot (Fref05Sub x1 x0.C) (Fref05Sub x1 x0.C))) else false)
def cnearArc (x0 : TEdge) (x1 : TPoint) (x2 : Int) : FuncId × List Av × Ef := (80, [.agg (TEdge.c x0), .agg (TPoint.c x1), .one (.i x2)], .val [] (.av (.one (.b (FnearArc x0 x1 x2)))))
set_option maxRecDepth 100000 in
theorem pnearArc (x0 : TEdge) (x1 : TPoint) (x2 : Int) : Pure Try.prog 80 (cnearArc x0 x1 x2).2.1 (.av (.one (.b (FnearArc x0 x1 x2)))) := by
  refine pure_of_awF Try.func80 rfl (by kernel_rfl) (by kernel_rfl) fun W0 M0 => ?_
  refine aw_seq ?_
  refine aw_region eqok [] [] [] [2, 3, 4] [3, 4] [] ⟨[(2, tI x2), (3, tP 3 0), (4, tP 4 0)], [(3, .cells (TEdge.c x0) 35), (4, .cells (TPoint.c x1) 29)]⟩ .nil (by kernel_rfl) .nil ?_
  refine ath_n ?_
  refine aw_seq ?_
  refine aw_region eqok [] [] [(17, cref05Sub x0.A x0.C)] [2, 3, 4, 7] [3, 4, 7] [Same (cref05Sub x0.A x0.C).2.1] ⟨[(2, tI x2), (3, tP 3 0), (4, tP 4 0), (7, tP 7 0)], [(3, .cells (TEdge.c x0) 35), (4, .cells (TPoint.c x1) 29), (7, .cells (TPoint.c (Fref05Sub x0.A x0.C)) 29)]⟩ (.cons (okref05Sub x0.A x0.C) .nil) (by kernel_rfl) (.cons rfl .nil) ?_
  refine ath_n ?_
  refine aw_seq ?_
  refine aw_region eqok [] [] [(22, cref05Sub x0.B x0.C)] [2, 3, 4, 7, 8] [3, 4, 7, 8] [Same (cref05Sub x0.B x0.C).2.1] ⟨[(2, tI x2), (3, tP 3 0), (4, tP 4 0), (7, tP 7 0), (8, tP 8 0)], [(3, .cells (TEdge.c x0) 35), (4, .cells (TPoint.c x1) 29), (7, .cells (TPoint.c (Fref05Sub x0.A x0.C)) 29), (8, .cells (TPoint.c (Fref05Sub x0.B x0.C)) 29)]⟩ (.cons (okref05Sub x0.B x0.C) .nil) (by kernel_rfl) (.cons rfl .nil) ?_
  refine ath_n ?_
  refine aw_seq ?_
  refine aw_seq ?_
  refine aw_region eqok [] [] [] [2, 3, 4, 7, 8, 25] [3, 4, 7, 8] [] ⟨[(2, tI x2), (3, tP 3 0), (4, tP 4 0), (7, tP 7 0), (8, tP 8 0), (25, tB (decide ((x0.Kind : Int) = 3)))], [(3, .cells (TEdge.c x0) 35), (4, .cells (TPoint.c x1) 29), (7, .cells (TPoint.c (Fref05Sub x0.A x0.C)) 29), (8, .cells (TPoint.c (Fref05Sub x0.B x0.C)) 29)]⟩ .nil (by kernel_rfl) .nil ?_
  refine ath_n ?_
  refine aw_joinC (⟨[(2, tI x2), (3, tP 3 0), (4, tP 4 0), (7, tP 7 0), (8, tP 8 0)], [(3, .cells (TEdge.c x0) 35), (4, .cells (TPoint.c x1) 29), (7, .cells (TPoint.c (bif decide ((x0.Kind : Int) = 3) then (Fref05Sub x0.B x0.C) else (Fref05Sub x0.A x0.C))) 29), (8, .cells (TPoint.c (bif decide ((x0.Kind : Int) = 3) then (Fref05Sub x0.A x0.C) else (Fref05Sub x0.B x0.C))) 29)]⟩) ?_ ?_
  · refine aw_cond (decide ((x0.Kind : Int) = 3)) (by kernel_rfl) (fun h1 => ?_) (fun h1 => ?_)
    · have g1 := of_decide_eq_true h1
      refine aw_region eqok [] [] [] [2, 3, 4, 7, 8] [3, 4, 7, 8] [] ⟨[(2, tI x2), (3, tP 3 0), (4, tP 4 0), (7, tP 7 0), (8, tP 8 0)], [(3, .cells (TEdge.c x0) 35), (4, .cells (TPoint.c x1) 29), (7, .cells (TPoint.c (Fref05Sub x0.B x0.C)) 29), (8, .cells (TPoint.c (Fref05Sub x0.A x0.C)) 29)]⟩ .nil (by kernel_rfl) .nil ?_
      refine ath_n ?_
      refine cv_eq ?_
      first | rfl | (simp only [h1, cond_true, cond_false]; done) | (simp only [h1, cond_true, cond_false]; rfl)
    · have g1 := of_decide_eq_false h1
      refine aw_skip ?_
      refine ath_n ?_
      refine Cv.trans (cv_keep [2, 3, 4, 7, 8] [3, 4, 7, 8] (⟨[(2, tI x2), (3, tP 3 0), (4, tP 4 0), (7, tP 7 0), (8, tP 8 0)], [(3, .cells (TEdge.c x0) 35), (4, .cells (TPoint.c x1) 29), (7, .cells (TPoint.c (Fref05Sub x0.A x0.C)) 29), (8, .cells (TPoint.c (Fref05Sub x0.B x0.C)) 29)]⟩) (by kernel_rfl)) (cv_eq ?_)
      first | rfl | (simp only [h1, cond_true, cond_false]; done) | (simp only [h1, cond_true, cond_false]; rfl)
  refine aw_seq ?_
  refine aw_region eqok [] [] [(31, cref05Sub x1 x0.C)] [2, 3, 4, 7, 8, 9] [3, 4, 7, 8, 9] [Same (cref05Sub x1 x0.C).2.1] ⟨[(2, tI x2), (3, tP 3 0), (4, tP 4 0), (7, tP 7 0), (8, tP 8 0), (9, tP 9 0)], [(3, .cells (TEdge.c x0) 35), (4, .cells (TPoint.c x1) 29), (7, .cells (TPoint.c (bif decide ((x0.Kind : Int) = 3) then (Fref05Sub x0.B x0.C) else (Fref05Sub x0.A x0.C))) 29), (8, .cells (TPoint.c (bif decide ((x0.Kind : Int) = 3) then (Fref05Sub x0.A x0.C) else (Fref05Sub x0.B x0.C))) 29), (9, .cells (TPoint.c (Fref05Sub x1 x0.C)) 29)]⟩ (.cons (okref05Sub x1 x0.C) .nil) (by kernel_rfl) (.cons rfl .nil) ?_
  refine ath_n ?_
  refine aw_seq ?_
  refine aw_region eqok [] [] [(35, cref05Within (Fref05Sub x1 x0.C) (wnearArc_0 x0) (wnearArc_1 x0))] [2, 3, 4, 9, 10] [3, 4, 9] [Same (cref05Within (Fref05Sub x1 x0.C) (wnearArc_0 x0) (wnearArc_1 x0)).2.1] ⟨[(2, tI x2), (3, tP 3 0), (4, tP 4 0), (9, tP 9 0), (10, tB (wnearArc_2 x1 x0))], [(3, .cells (TEdge.c x0) 35), (4, .cells (TPoint.c x1) 29), (9, .cells (TPoint.c (Fref05Sub x1 x0.C)) 29)]⟩ (.cons (okref05Within (Fref05Sub x1 x0.C) (wnearArc_0 x0) (wnearArc_1 x0)) .nil) (by kernel_rfl) (.cons rfl .nil) ?_
  refine ath_n ?_
  refine aw_seq ?_
  refine aw_seq ?_
  refine aw_region eqok [] [] [] [2, 3, 4, 9, 37] [3, 4, 9] [] ⟨[(2, tI x2), (3, tP 3 0), (4, tP 4 0), (9, tP 9 0), (37, tB (!(wnearArc_2 x1 x0)))], [(3, .cells (TEdge.c x0) 35), (4, .cells (TPoint.c x1) 29), (9, .cells (TPoint.c (Fref05Sub x1 x0.C)) 29)]⟩ .nil (by kernel_rfl) .nil ?_
  refine ath_n ?_
  refine aw_cond (!(wnearArc_2 x1 x0)) (by kernel_rfl) (fun h1 => ?_) (fun h1 => ?_)
  · refine aw_seq ?_
    refine aw_region eqok [] [] [(41, cfarR x1 x0.A), (50, cfarR x1 x0.B)] [6] [] [Same (cfarR x1 x0.A).2.1, ((decide (((FfarR x1 x0.A) : Int) ≤ (W64 (x2 * x2)))) = false) → ((decide (((FfarR x1 x0.A) : Int) ≤ (W64 (x2 * x2)))) = false), ((decide (((FfarR x1 x0.A) : Int) ≤ (W64 (x2 * x2)))) = false) → ((decide (((FfarR x1 x0.A) : Int) ≤ (W64 (x2 * x2)))) = false), ((decide (((FfarR x1 x0.A) : Int) ≤ (W64 (x2 * x2)))) = false) → ((decide (((FfarR x1 x0.A) : Int) ≤ (W64 (x2 * x2)))) = false), ((decide (((FfarR x1 x0.A) : Int) ≤ (W64 (x2 * x2)))) = false) → (Same (cfarR x1 x0.B).2.1), ((decide (((FfarR x1 x0.A) : Int) ≤ (W64 (x2 * x2)))) = false) → ((decide (((FfarR x1 x0.A) : Int) ≤ (W64 (x2 * x2)))) = false), ((decide (((FfarR x1 x0.A) : Int) ≤ (W64 (x2 * x2)))) = false) → ((decide (((FfarR x1 x0.A) : Int) ≤ (W64 (x2 * x2)))) = false), ((decide (((FfarR x1 x0.A) : Int) ≤ (W64 (x2 * x2)))) = false) → ((decide (((FfarR x1 x0.A) : Int) ≤ (W64 (x2 * x2)))) = false), ((decide (((FfarR x1 x0.A) : Int) ≤ (W64 (x2 * x2)))) = false) → ((decide (((FfarR x1 x0.A) : Int) ≤ (W64 (x2 * x2)))) = false), (decide (((FfarR x1 x0.A) : Int) ≤ (W64 (x2 * x2)))) = false → ((decide (((FfarR x1 x0.A) : Int) ≤ (W64 (x2 * x2)))) = false)] ⟨[(6, tB (bif decide (((FfarR x1 x0.A) : Int) ≤ (W64 (x2 * x2))) then true else decide (((FfarR x1 x0.B) : Int) ≤ (W64 (x2 * x2)))))], []⟩ (.cons (okfarR x1 x0.A) (.cons (okfarR x1 x0.B) .nil)) (by kernel_rfl) (.cons rfl (.cons id (.cons id (.cons id (.cons (fun _ => rfl) (.cons id (.cons id (.cons id (.cons id (.cons id .nil)))))))))) ?_
    refine ath_n ?_
    refine aw_ret ?_
    refine ath_r ?_
    exact ⟨_, Cv.refl _, .inl rfl, .av (.one (.b (bif decide (((FfarR x1 x0.A) : Int) ≤ (W64 (x2 * x2))) then true else decide (((FfarR x1 x0.B) : Int) ≤ (W64 (x2 * x2)))))), by kernel_rfl, tve_eq (by first | (simp only [FnearArc, h1, cond_true, cond_false]; done) | (simp only [FnearArc, h1, cond_true, cond_false]; rfl))⟩
  · refine aw_skip ?_
    refine ath_n ?_
    refine aw_seq ?_
    refine aw_region eqok [] [] [(57, cref06Radius x0)] [2, 9, 11] [9] [Same (cref06Radius x0).2.1] ⟨[(2, tI x2), (9, tP 9 0), (11, tI (Fref06Radius x0))], [(9, .cells (TPoint.c (Fref05Sub x1 x0.C)) 29)]⟩ (.cons (okref06Radius x0) .nil) (by kernel_rfl) (.cons rfl .nil) ?_
    refine ath_n ?_
    refine aw_seq ?_
    refine aw_region eqok [] [] [(60, cref05Dot (Fref05Sub x1 x0.C) (Fref05Sub x1 x0.C))] [2, 11, 12] [] [Same (cref05Dot (Fref05Sub x1 x0.C) (Fref05Sub x1 x0.C)).2.1] ⟨[(2, tI x2), (11, tI (Fref06Radius x0)), (12, tI (Fref05Dot (Fref05Sub x1 x0.C) (Fref05Sub x1 x0.C)))], []⟩ (.cons (okref05Dot (Fref05Sub x1 x0.C) (Fref05Sub x1 x0.C)) .nil) (by kernel_rfl) (.cons rfl .nil) ?_
    refine ath_n ?_
    refine aw_seq ?_
    refine aw_region eqok [] [] [] [6] [] [((decide (((Fref05Dot (Fref05Sub x1 x0.C) (Fref05Sub x1 x0.C)) : Int) ≤ (W64 ((W64 ((Fref06Radius x0) + x2)) * (W64 ((Fref06Radius x0) + x2)))))) = true) → ((decide (((Fref05Dot (Fref05Sub x1 x0.C) (Fref05Sub x1 x0.C)) : Int) ≤ (W64 ((W64 ((Fref06Radius x0) + x2)) * (W64 ((Fref06Radius x0) + x2)))))) = true), ((decide (((Fref05Dot (Fref05Sub x1 x0.C) (Fref05Sub x1 x0.C)) : Int) ≤ (W64 ((W64 ((Fref06Radius x0) + x2)) * (W64 ((Fref06Radius x0) + x2)))))) = true) → ((decide (((Fref05Dot (Fref05Sub x1 x0.C) (Fref05Sub x1 x0.C)) : Int) ≤ (W64 ((W64 ((Fref06Radius x0) + x2)) * (W64 ((Fref06Radius x0) + x2)))))) = true), ((decide (((Fref05Dot (Fref05Sub x1 x0.C) (Fref05Sub x1 x0.C)) : Int) ≤ (W64 ((W64 ((Fref06Radius x0) + x2)) * (W64 ((Fref06Radius x0) + x2)))))) = true) → ((decide (((Fref05Dot (Fref05Sub x1 x0.C) (Fref05Sub x1 x0.C)) : Int) ≤ (W64 ((W64 ((Fref06Radius x0) + x2)) * (W64 ((Fref06Radius x0) + x2)))))) = true), (((decide (((Fref05Dot (Fref05Sub x1 x0.C) (Fref05Sub x1 x0.C)) : Int) ≤ (W64 ((W64 ((Fref06Radius x0) + x2)) * (W64 ((Fref06Radius x0) + x2)))))) = true) ∧ (decide (((Fref06Radius x0) : Int) ≤ x2)) = false) → (((decide (((Fref05Dot (Fref05Sub x1 x0.C) (Fref05Sub x1 x0.C)) : Int) ≤ (W64 ((W64 ((Fref06Radius x0) + x2)) * (W64 ((Fref06Radius x0) + x2)))))) = true) ∧ (decide (((Fref06Radius x0) : Int) ≤ x2)) = false), (((decide (((Fref05Dot (Fref05Sub x1 x0.C) (Fref05Sub x1 x0.C)) : Int) ≤ (W64 ((W64 ((Fref06Radius x0) + x2)) * (W64 ((Fref06Radius x0) + x2)))))) = true) ∧ (decide (((Fref06Radius x0) : Int) ≤ x2)) = false) → (((decide (((Fref05Dot (Fref05Sub x1 x0.C) (Fref05Sub x1 x0.C)) : Int) ≤ (W64 ((W64 ((Fref06Radius x0) + x2)) * (W64 ((Fref06Radius x0) + x2)))))) = true) ∧ (decide (((Fref06Radius x0) : Int) ≤ x2)) = false), (((decide (((Fref05Dot (Fref05Sub x1 x0.C) (Fref05Sub x1 x0.C)) : Int) ≤ (W64 ((W64 ((Fref06Radius x0) + x2)) * (W64 ((Fref06Radius x0) + x2)))))) = true) ∧ (decide (((Fref06Radius x0) : Int) ≤ x2)) = false) → (((decide (((Fref05Dot (Fref05Sub x1 x0.C) (Fref05Sub x1 x0.C)) : Int) ≤ (W64 ((W64 ((Fref06Radius x0) + x2)) * (W64 ((Fref06Radius x0) + x2)))))) = true) ∧ (decide (((Fref06Radius x0) : Int) ≤ x2)) = false), (((decide (((Fref05Dot (Fref05Sub x1 x0.C) (Fref05Sub x1 x0.C)) : Int) ≤ (W64 ((W64 ((Fref06Radius x0) + x2)) * (W64 ((Fref06Radius x0) + x2)))))) = true) ∧ (decide (((Fref06Radius x0) : Int) ≤ x2)) = false) → (((decide (((Fref05Dot (Fref05Sub x1 x0.C) (Fref05Sub x1 x0.C)) : Int) ≤ (W64 ((W64 ((Fref06Radius x0) + x2)) * (W64 ((Fref06Radius x0) + x2)))))) = true) ∧ (decide (((Fref06Radius x0) : Int) ≤ x2)) = false), (((decide (((Fref05Dot (Fref05Sub x1 x0.C) (Fref05Sub x1 x0.C)) : Int) ≤ (W64 ((W64 ((Fref06Radius x0) + x2)) * (W64 ((Fref06Radius x0) + x2)))))) = true) ∧ (decide (((Fref06Radius x0) : Int) ≤ x2)) = false) → (((decide (((Fref05Dot (Fref05Sub x1 x0.C) (Fref05Sub x1 x0.C)) : Int) ≤ (W64 ((W64 ((Fref06Radius x0) + x2)) * (W64 ((Fref06Radius x0) + x2)))))) = true) ∧ (decide (((Fref06Radius x0) : Int) ≤ x2)) = false), (((decide (((Fref05Dot (Fref05Sub x1 x0.C) (Fref05Sub x1 x0.C)) : Int) ≤ (W64 ((W64 ((Fref06Radius x0) + x2)) * (W64 ((Fref06Radius x0) + x2)))))) = true) ∧ (decide (((Fref06Radius x0) : Int) ≤ x2)) = false) → (((decide (((Fref05Dot (Fref05Sub x1 x0.C) (Fref05Sub x1 x0.C)) : Int) ≤ (W64 ((W64 ((Fref06Radius x0) + x2)) * (W64 ((Fref06Radius x0) + x2)))))) = true) ∧ (decide (((Fref06Radius x0) : Int) ≤ x2)) = false), (((decide (((Fref05Dot (Fref05Sub x1 x0.C) (Fref05Sub x1 x0.C)) : Int) ≤ (W64 ((W64 ((Fref06Radius x0) + x2)) * (W64 ((Fref06Radius x0) + x2)))))) = true) ∧ (decide (((Fref06Radius x0) : Int) ≤ x2)) = false) → (((decide (((Fref05Dot (Fref05Sub x1 x0.C) (Fref05Sub x1 x0.C)) : Int) ≤ (W64 ((W64 ((Fref06Radius x0) + x2)) * (W64 ((Fref06Radius x0) + x2)))))) = true) ∧ (decide (((Fref06Radius x0) : Int) ≤ x2)) = false), (((decide (((Fref05Dot (Fref05Sub x1 x0.C) (Fref05Sub x1 x0.C)) : Int) ≤ (W64 ((W64 ((Fref06Radius x0) + x2)) * (W64 ((Fref06Radius x0) + x2)))))) = true) ∧ (decide (((Fref06Radius x0) : Int) ≤ x2)) = false) → (((decide (((Fref05Dot (Fref05Sub x1 x0.C) (Fref05Sub x1 x0.C)) : Int) ≤ (W64 ((W64 ((Fref06Radius x0) + x2)) * (W64 ((Fref06Radius x0) + x2)))))) = true) ∧ (decide (((Fref06Radius x0) : Int) ≤ x2)) = false), ((decide (((Fref05Dot (Fref05Sub x1 x0.C) (Fref05Sub x1 x0.C)) : Int) ≤ (W64 ((W64 ((Fref06Radius x0) + x2)) * (W64 ((Fref06Radius x0) + x2)))))) = true) → ((decide (((Fref05Dot (Fref05Sub x1 x0.C) (Fref05Sub x1 x0.C)) : Int) ≤ (W64 ((W64 ((Fref06Radius x0) + x2)) * (W64 ((Fref06Radius x0) + x2)))))) = true), ((decide (((Fref05Dot (Fref05Sub x1 x0.C) (Fref05Sub x1 x0.C)) : Int) ≤ (W64 ((W64 ((Fref06Radius x0) + x2)) * (W64 ((Fref06Radius x0) + x2)))))) = true) → ((decide (((Fref06Radius x0) : Int) ≤ x2)) = false → (((decide (((Fref05Dot (Fref05Sub x1 x0.C) (Fref05Sub x1 x0.C)) : Int) ≤ (W64 ((W64 ((Fref06Radius x0) + x2)) * (W64 ((Fref06Radius x0) + x2)))))) = true) ∧ (decide (((Fref06Radius x0) : Int) ≤ x2)) = false)), (decide (((Fref05Dot (Fref05Sub x1 x0.C) (Fref05Sub x1 x0.C)) : Int) ≤ (W64 ((W64 ((Fref06Radius x0) + x2)) * (W64 ((Fref06Radius x0) + x2)))))) = true → ((decide (((Fref05Dot (Fref05Sub x1 x0.C) (Fref05Sub x1 x0.C)) : Int) ≤ (W64 ((W64 ((Fref06Radius x0) + x2)) * (W64 ((Fref06Radius x0) + x2)))))) = true)] ⟨[(6, tB (bif decide (((Fref05Dot (Fref05Sub x1 x0.C) (Fref05Sub x1 x0.C)) : Int) ≤ (W64 ((W64 ((Fref06Radius x0) + x2)) * (W64 ((Fref06Radius x0) + x2))))) then bif decide (((Fref06Radius x0) : Int) ≤ x2) then true else decide (((W64 ((W64 ((Fref06Radius x0) - x2)) * (W64 ((Fref06Radius x0) - x2)))) : Int) ≤ (Fref05Dot (Fref05Sub x1 x0.C) (Fref05Sub x1 x0.C))) else false))], []⟩ .nil (by kernel_rfl) (.cons id (.cons id (.cons id (.cons id (.cons id (.cons id (.cons id (.cons id (.cons id (.cons id (.cons id (.cons id (.cons (by intros; first | assumption | exact ⟨by assumption, by assumption⟩ | simp_all) (.cons id .nil)))))))))))))) ?_
    refine ath_n ?_
    refine aw_ret ?_
    exact ⟨_, Cv.refl _, .inl rfl, .av (.one (.b (bif decide (((Fref05Dot (Fref05Sub x1 x0.C) (Fref05Sub x1 x0.C)) : Int) ≤ (W64 ((W64 ((Fref06Radius x0) + x2)) * (W64 ((Fref06Radius x0) + x2))))) then bif decide (((Fref06Radius x0) : Int) ≤ x2) then true else decide (((W64 ((W64 ((Fref06Radius x0) - x2)) * (W64 ((Fref06Radius x0) - x2)))) : Int) ≤ (Fref05Dot (Fref05Sub x1 x0.C) (Fref05Sub x1 x0.C))) else false))), by kernel_rfl, tve_eq (by first | (simp only [FnearArc, h1, cond_true, cond_false]; done) | (simp only [FnearArc, h1, cond_true, cond_false]; rfl))⟩
theorem oknearArc (x0 : TEdge) (x1 : TPoint) (x2 : Int) : CallOk Try.prog (cnearArc x0 x1 x2).1 (cnearArc x0 x1 x2).2.1 (cnearArc x0 x1 x2).2.2 := callOk_pure (fun _ _ => by kernel_rfl) fun _ => pnearArc x0 x1 x2 
def FequalE_l0 (p1 : (List TEdge)) (p2 : (List TEdge)) : Nat → Int → Bool
  | 0, _ => default
  | n0 + 1, v13 => bif decide ((v13 : Int) < ((p1.length : Int))) then (bif !(decide (((p1.getD v13.toNat default).Kind) = ((p2.getD v13.toNat default).Kind)) && (decide ((((p1.getD v13.toNat default).A).X) = (((p2.getD v13.toNat default).A).X)) && (decide ((((p1.getD v13.toNat default).A).Y) = (((p2.getD v13.toNat default).A).Y)) && (decide ((((p1.getD v13.toNat default).B).X) = (((p2.getD v13.toNat default).B).X)) && (decide ((((p1.getD v13.toNat default).B).Y) = (((p2.getD v13.toNat default).B).Y)) && (decide ((((p1.getD v13.toNat default).C).X) = (((p2.getD v13.toNat default).C).X)) && (decide ((((p1.getD v13.toNat default).C).Y) = (((p2.getD v13.toNat default).C).Y)) && true))))))) then (false) else ((FequalE_l0 p1 p2 n0) (v13 + 1))) else (true)
def FequalE (p1 : (List TEdge)) (p2 : (List TEdge)) : Bool := bif !decide ((((p1.length : Int)) : Int) = ((p2.length : Int))) then (false) else (FequalE_l0 p1 p2 (((((p1.length : Int))) - 0).toNat + 1) 0)
def cequalE (p1 : (List TEdge)) (p2 : (List TEdge)) : FuncId × List Av × Ef := (61, [.one (lst 7 TEdge.c p1), .one (lst 7 TEdge.c p2)], .val [] (.av (.one (.b (FequalE p1 p2)))))
set_option maxRecDepth 100000 in
theorem pequalE (p1 : (List TEdge)) (p2 : (List TEdge)) (h0 : (p1.length : Int) ≤ 1000000) : Pure Try.prog 61 (cequalE p1 p2).2.1 (.av (.one (.b (FequalE p1 p2)))) := by
  refine pure_of_awF Try.func61 rfl (by kernel_rfl) (by kernel_rfl) fun W0 M0 => ?_
  refine aw_seq ?_
  refine aw_region eqok [] [] [] [0, 1] [] [] ⟨[(0, .av (.one (lst 7 TEdge.c p1))), (1, .av (.one (lst 7 TEdge.c p2)))], []⟩ .nil (by kernel_rfl) .nil ?_
  refine ath_n ?_
  refine aw_seq ?_
  refine aw_seq ?_
  refine aw_region eqok [] [] [] [0, 1, 10] [] [] ⟨[(0, .av (.one (lst 7 TEdge.c p1))), (1, .av (.one (lst 7 TEdge.c p2))), (10, tB (!decide ((((p1.length : Int)) : Int) = ((p2.length : Int)))))], []⟩ .nil (by kernel_rfl) .nil ?_
  refine ath_n ?_
  refine aw_cond (!decide ((((p1.length : Int)) : Int) = ((p2.length : Int)))) (by kernel_rfl) (fun h1 => ?_) (fun h1 => ?_)
  · have g1 := of_not_decide_true h1
    refine aw_seq ?_
    refine aw_region eqok [] [] [] [4] [] [] ⟨[(4, tB false)], []⟩ .nil (by kernel_rfl) .nil ?_
    refine ath_n ?_
    refine aw_ret ?_
    refine ath_r ?_
    exact ⟨_, Cv.refl _, .inl rfl, .av (.one (.b false)), by kernel_rfl, tve_eq (by first | (simp only [FequalE, h1, cond_true, cond_false]; done) | (simp only [FequalE, h1, cond_true, cond_false]; rfl))⟩
  · have g1 := of_not_decide_false h1
    refine aw_skip ?_
    refine ath_n ?_
    refine aw_seq ?_
    refine aw_seq ?_
    refine aw_region eqok [] [] [] [0, 1, 12, 13] [] [] ⟨[(0, .av (.one (lst 7 TEdge.c p1))), (1, .av (.one (lst 7 TEdge.c p2))), (12, tI ((p1.length : Int))), (13, tI 0)], []⟩ .nil (by kernel_rfl) .nil ?_
    refine ath_n ?_
    refine aw_block ?_
    refine aw_loopC (ι := Nat × Int) (fun x => ⟨[(0, .av (.one (lst 7 TEdge.c p1))), (1, .av (.one (lst 7 TEdge.c p2))), (12, tI ((p1.length : Int))), (13, tI x.2)], []⟩) (fun x => ((((p1.length : Int))) - x.2).toNat < x.1 ∧ (0 ≤ x.2 ∧ (x.2 ≤ ((p1.length : Int)) ∨ x.2 = 0)) ∧ FequalE_l0 p1 p2 x.1 x.2 = FequalE p1 p2) (fun x => x.1) ?_ (((((p1.length : Int))) - 0).toNat + 1, 0) ⟨Nat.lt_succ_self _, ⟨(by show 0 ≤ 0; first | trivial | omega | (simp only [List.length_append, List.length_cons, List.length_nil]; omega) | (simp only [List.length_set, List.length_append, List.length_cons, List.length_nil]; omega) | (simp only [W64_def]; omega) | (simp; omega) | simp), (by show (0 ≤ ((p1.length : Int)) ∨ 0 = 0); first | trivial | omega | (simp only [List.length_append, List.length_cons, List.length_nil]; omega) | (simp only [List.length_set, List.length_append, List.length_cons, List.length_nil]; omega) | (simp only [W64_def]; omega) | (simp; omega) | simp)⟩, (by simp only [FequalE, h1, cond_true, cond_false])⟩
    rintro ⟨n0, v13⟩ ⟨hn, hinv, hF⟩
    have hm0 : ((((p1.length : Int))) - v13).toNat < n0 := hn; have hinv0 : 0 ≤ v13 ∧ (v13 ≤ ((p1.length : Int)) ∨ v13 = 0) := hinv; have hF0 : FequalE_l0 p1 p2 n0 v13 = FequalE p1 p2 := hF; clear hn hinv hF
    cases n0 with
    | zero => exact absurd hm0 (Nat.not_lt_zero _)
    | succ n0 =>
      refine aw_seq ?_
      refine aw_region eqok [] [] [] [0, 1, 12, 13, 14] [] [] ⟨[(0, .av (.one (lst 7 TEdge.c p1))), (1, .av (.one (lst 7 TEdge.c p2))), (12, tI ((p1.length : Int))), (13, tI v13), (14, tB (decide ((v13 : Int) < ((p1.length : Int)))))], []⟩ .nil (by kernel_rfl) .nil ?_
      refine ath_n ?_
      refine aw_seq ?_
      refine aw_cond (decide ((v13 : Int) < ((p1.length : Int)))) (by kernel_rfl) (fun h2 => ?_) (fun h2 => ?_)
      · have g2 := of_decide_eq_true h2
        refine aw_skip ?_
        refine ath_n ?_
        refine aw_seq ?_
        refine aw_block ?_
        refine aw_seq ?_
        refine aw_region eqok [] [] [] [0, 1, 5, 12, 13] [] [] ⟨[(0, .av (.one (lst 7 TEdge.c p1))), (1, .av (.one (lst 7 TEdge.c p2))), (5, tI v13), (12, tI ((p1.length : Int))), (13, tI v13)], []⟩ .nil (by kernel_rfl) .nil ?_
        refine ath_n ?_
        refine aw_seq ?_
        refine aw_draw mixed eqok [] [] [] [0, 1, 12, 13, 24] [] [0 ≤ (v13 : Int) ∧ (v13 : Int) < ((p1.length : Nat) : Int), 0 ≤ (v13 : Int) ∧ (v13 : Int) < ((p2.length : Nat) : Int)] ⟨[(0, .av (.one (lst 7 TEdge.c p1))), (1, .av (.one (lst 7 TEdge.c p2))), (12, tI ((p1.length : Int))), (13, tI v13), (24, tB (!(decide (((p1.getD v13.toNat default).Kind) = ((p2.getD v13.toNat default).Kind)) && (decide ((((p1.getD v13.toNat default).A).X) = (((p2.getD v13.toNat default).A).X)) && (decide ((((p1.getD v13.toNat default).A).Y) = (((p2.getD v13.toNat default).A).Y)) && (decide ((((p1.getD v13.toNat default).B).X) = (((p2.getD v13.toNat default).B).X)) && (decide ((((p1.getD v13.toNat default).B).Y) = (((p2.getD v13.toNat default).B).Y)) && (decide ((((p1.getD v13.toNat default).C).X) = (((p2.getD v13.toNat default).C).X)) && (decide ((((p1.getD v13.toNat default).C).Y) = (((p2.getD v13.toNat default).C).Y)) && true)))))))))], []⟩ .nil (by kernel_rfl) (by kernel_rfl) (.cons (by first | decide | omega | exact idx_tmod (by first | omega | (simp only [W64_def]; omega)) (by omega) | (simp only [W64_def]; omega) | (constructor <;> omega) | (simp only [List.length_append, List.length_cons, List.length_nil]; omega) | (simp only [List.length_append, List.length_cons, List.length_nil, List.length_drop, List.length_take] at *; omega)) (.cons (by first | decide | omega | exact idx_tmod (by first | omega | (simp only [W64_def]; omega)) (by omega) | (simp only [W64_def]; omega) | (constructor <;> omega) | (simp only [List.length_append, List.length_cons, List.length_nil]; omega) | (simp only [List.length_append, List.length_cons, List.length_nil, List.length_drop, List.length_take] at *; omega)) .nil)) ?_
        refine ath_n ?_
        refine aw_cond (!(decide (((p1.getD v13.toNat default).Kind) = ((p2.getD v13.toNat default).Kind)) && (decide ((((p1.getD v13.toNat default).A).X) = (((p2.getD v13.toNat default).A).X)) && (decide ((((p1.getD v13.toNat default).A).Y) = (((p2.getD v13.toNat default).A).Y)) && (decide ((((p1.getD v13.toNat default).B).X) = (((p2.getD v13.toNat default).B).X)) && (decide ((((p1.getD v13.toNat default).B).Y) = (((p2.getD v13.toNat default).B).Y)) && (decide ((((p1.getD v13.toNat default).C).X) = (((p2.getD v13.toNat default).C).X)) && (decide ((((p1.getD v13.toNat default).C).Y) = (((p2.getD v13.toNat default).C).Y)) && true)))))))) (by kernel_rfl) (fun h3 => ?_) (fun h3 => ?_)
        · refine aw_seq ?_
          refine aw_region eqok [] [] [] [4] [] [] ⟨[(4, tB false)], []⟩ .nil (by kernel_rfl) .nil ?_
          refine ath_n ?_
          refine aw_ret ?_
          refine abl_r ?_
          refine ath_r ?_
          refine ath_r ?_
          refine abl_r ?_
          refine ath_r ?_
          exact ⟨_, Cv.refl _, .inl rfl, .av (.one (.b false)), by kernel_rfl, tve_eq (by rw [← hF0]; first | (simp only [FequalE_l0, h2, h3, cond_true, cond_false]; done) | (simp only [FequalE_l0, h2, h3, cond_true, cond_false]; rfl))⟩
        · refine aw_skip ?_
          refine abl_n ?_
          refine ath_n ?_
          refine aw_region eqok [] [] [] [0, 1, 12, 13] [] [] ⟨[(0, .av (.one (lst 7 TEdge.c p1))), (1, .av (.one (lst 7 TEdge.c p2))), (12, tI ((p1.length : Int))), (13, tI (W64 (v13 + 1)))], []⟩ .nil (by kernel_rfl) .nil ?_
          (try rw [(show W64 (v13 + 1) = v13 + 1 from W64_id (by omega) (by first | omega | (simp only [List.length_drop, List.length_take] at *; omega)))])
          refine ath_n ?_
          refine ⟨(n0, v13 + 1), ⟨?_, ?_, (by rw [← hF0]; simp only [FequalE_l0, h2, h3, cond_true, cond_false])⟩, Nat.lt_succ_self _, cv_eq (by kernel_rfl)⟩
          · show ((((p1.length : Int))) - (v13 + 1)).toNat < n0; omega
          · exact ⟨(by show 0 ≤ (v13 + 1); first | trivial | omega | (simp only [List.length_append, List.length_cons, List.length_nil]; omega) | (simp only [List.length_set, List.length_append, List.length_cons, List.length_nil]; omega) | (simp only [W64_def]; omega) | (simp; omega) | simp), (by show ((v13 + 1) ≤ ((p1.length : Int)) ∨ (v13 + 1) = 0); first | trivial | omega | (simp only [List.length_append, List.length_cons, List.length_nil]; omega) | (simp only [List.length_set, List.length_append, List.length_cons, List.length_nil]; omega) | (simp only [W64_def]; omega) | (simp; omega) | simp)⟩
      · have g2 := of_decide_eq_false h2
        refine aw_exit ?_
        refine ath_e ?_
        refine ath_e ?_
        refine abl_hit ?_
        refine ath_n ?_
        refine aw_seq ?_
        refine aw_region eqok [] [] [] [4] [] [] ⟨[(4, tB true)], []⟩ .nil (by kernel_rfl) .nil ?_
        refine ath_n ?_
        refine aw_ret ?_
        exact ⟨_, Cv.refl _, .inl rfl, .av (.one (.b true)), by kernel_rfl, tve_eq (by rw [← hF0]; first | (simp only [FequalE_l0, h2, cond_true, cond_false]; done) | (simp only [FequalE_l0, h2, cond_true, cond_false]; rfl))⟩
theorem okequalE (p1 : (List TEdge)) (p2 : (List TEdge)) (h0 : (p1.length : Int) ≤ 1000000) : CallOk Try.prog (cequalE p1 p2).1 (cequalE p1 p2).2.1 (cequalE p1 p2).2.2 := callOk_pure (fun _ _ => by kernel_rfl) fun _ => pequalE p1 p2 h0
theorem or3_f {p q r : Prop} [Decidable p] [Decidable q] [Decidable r] (h : (bif bif !decide p then true else !decide q then true else !decide r) = false) : p ∧ q ∧ r := by
  by_cases hp : p <;> by_cases hq : q <;> by_cases hr : r <;> simp_all
def FSameR_l0 (p1 : TShape) (p2 : TShape) : Nat → Int → Bool
  | 0, _ => default
  | n0 + 1, k => bif decide ((k : Int) < ((p1.Edges.length : Int))) then (bif !(decide (((p1.Edges.getD k.toNat default).Kind) = ((p2.Edges.getD k.toNat default).Kind)) && (decide ((((p1.Edges.getD k.toNat default).A).X) = (((p2.Edges.getD k.toNat default).A).X)) && (decide ((((p1.Edges.getD k.toNat default).A).Y) = (((p2.Edges.getD k.toNat default).A).Y)) && (decide ((((p1.Edges.getD k.toNat default).B).X) = (((p2.Edges.getD k.toNat default).B).X)) && (decide ((((p1.Edges.getD k.toNat default).B).Y) = (((p2.Edges.getD k.toNat default).B).Y)) && (decide ((((p1.Edges.getD k.toNat default).C).X) = (((p2.Edges.getD k.toNat default).C).X)) && (decide ((((p1.Edges.getD k.toNat default).C).Y) = (((p2.Edges.getD k.toNat default).C).Y)) && true))))))) then (false) else ((FSameR_l0 p1 p2 n0) (k + 1))) else (true)
def FSameR (p1 : TShape) (p2 : TShape) : Bool := bif bif bif !decide ((p1.Kind : Int) = p2.Kind) then true else !decide ((p1.R : Int) = p2.R) then true else !decide ((((p1.Edges.length : Int)) : Int) = ((p2.Edges.length : Int))) then (false) else (FSameR_l0 p1 p2 (((((p1.Edges.length : Int))) - 0).toNat + 1) 0)
def cSameR (p1 : TShape) (p2 : TShape) : FuncId × List Av × Ef := (28, [.agg (TShape.c p1), .agg (TShape.c p2)], .val [] (.av (.one (.b (FSameR p1 p2)))))
set_option maxRecDepth 100000 in
theorem pSameR (p1 : TShape) (p2 : TShape) (h0 : (p1.Edges.length : Int) ≤ 1000000) (h1 : (p2.Edges.length : Int) ≤ 1000000) : Pure Try.prog 28 (cSameR p1 p2).2.1 (.av (.one (.b (FSameR p1 p2)))) := by
  refine pure_of_awF Try.func28 rfl (by kernel_rfl) (by kernel_rfl) fun W0 M0 => ?_
  refine aw_seq ?_
  refine aw_region eqok [] [] [] [2, 3] [2, 3] [] ⟨[(2, tP 2 0), (3, tP 3 0)], [(2, .cells (TShape.c p1) 26), (3, .cells (TShape.c p2) 26)]⟩ .nil (by kernel_rfl) .nil ?_
  refine ath_n ?_
  refine aw_seq ?_
  refine aw_seq ?_
  refine aw_region eqok [] [] [] [2, 3, 26] [2, 3] [((!decide ((p1.Kind : Int) = p2.Kind)) = false) → ((!decide ((p1.Kind : Int) = p2.Kind)) = false), ((!decide ((p1.Kind : Int) = p2.Kind)) = false) → ((!decide ((p1.Kind : Int) = p2.Kind)) = false), ((!decide ((p1.Kind : Int) = p2.Kind)) = false) → ((!decide ((p1.Kind : Int) = p2.Kind)) = false), ((!decide ((p1.Kind : Int) = p2.Kind)) = false) → ((!decide ((p1.Kind : Int) = p2.Kind)) = false), (!decide ((p1.Kind : Int) = p2.Kind)) = false → ((!decide ((p1.Kind : Int) = p2.Kind)) = false), ((bif !decide ((p1.Kind : Int) = p2.Kind) then true else !decide ((p1.R : Int) = p2.R)) = false) → ((bif !decide ((p1.Kind : Int) = p2.Kind) then true else !decide ((p1.R : Int) = p2.R)) = false), ((bif !decide ((p1.Kind : Int) = p2.Kind) then true else !decide ((p1.R : Int) = p2.R)) = false) → ((bif !decide ((p1.Kind : Int) = p2.Kind) then true else !decide ((p1.R : Int) = p2.R)) = false), ((bif !decide ((p1.Kind : Int) = p2.Kind) then true else !decide ((p1.R : Int) = p2.R)) = false) → ((bif !decide ((p1.Kind : Int) = p2.Kind) then true else !decide ((p1.R : Int) = p2.R)) = false), ((bif !decide ((p1.Kind : Int) = p2.Kind) then true else !decide ((p1.R : Int) = p2.R)) = false) → ((bif !decide ((p1.Kind : Int) = p2.Kind) then true else !decide ((p1.R : Int) = p2.R)) = false), ((bif !decide ((p1.Kind : Int) = p2.Kind) then true else !decide ((p1.R : Int) = p2.R)) = false) → ((bif !decide ((p1.Kind : Int) = p2.Kind) then true else !decide ((p1.R : Int) = p2.R)) = false), ((bif !decide ((p1.Kind : Int) = p2.Kind) then true else !decide ((p1.R : Int) = p2.R)) = false) → ((bif !decide ((p1.Kind : Int) = p2.Kind) then true else !decide ((p1.R : Int) = p2.R)) = false), (bif !decide ((p1.Kind : Int) = p2.Kind) then true else !decide ((p1.R : Int) = p2.R)) = false → ((bif !decide ((p1.Kind : Int) = p2.Kind) then true else !decide ((p1.R : Int) = p2.R)) = false)] ⟨[(2, tP 2 0), (3, tP 3 0), (26, tB (bif bif !decide ((p1.Kind : Int) = p2.Kind) then true else !decide ((p1.R : Int) = p2.R) then true else !decide ((((p1.Edges.length : Int)) : Int) = ((p2.Edges.length : Int)))))], [(2, .cells (TShape.c p1) 26), (3, .cells (TShape.c p2) 26)]⟩ .nil (by kernel_rfl) (.cons id (.cons id (.cons id (.cons id (.cons id (.cons id (.cons id (.cons id (.cons id (.cons id (.cons id (.cons id .nil)))))))))))) ?_
  refine ath_n ?_
  refine aw_cond (bif bif !decide ((p1.Kind : Int) = p2.Kind) then true else !decide ((p1.R : Int) = p2.R) then true else !decide ((((p1.Edges.length : Int)) : Int) = ((p2.Edges.length : Int)))) (by kernel_rfl) (fun h1 => ?_) (fun h1 => ?_)
  · refine aw_seq ?_
    refine aw_region eqok [] [] [] [4] [] [] ⟨[(4, tB false)], []⟩ .nil (by kernel_rfl) .nil ?_
    refine ath_n ?_
    refine aw_ret ?_
    refine ath_r ?_
    exact ⟨_, Cv.refl _, .inl rfl, .av (.one (.b false)), by kernel_rfl, tve_eq (by first | (simp only [FSameR, h1, cond_true, cond_false]; done) | (simp only [FSameR, h1, cond_true, cond_false]; rfl))⟩
  · refine aw_skip ?_
    refine ath_n ?_
    refine aw_seq ?_
    refine aw_seq ?_
    refine aw_region eqok [] [] [] [2, 3, 5] [2, 3] [] ⟨[(2, tP 2 0), (3, tP 3 0), (5, tI 0)], [(2, .cells (TShape.c p1) 26), (3, .cells (TShape.c p2) 26)]⟩ .nil (by kernel_rfl) .nil ?_
    refine ath_n ?_
    refine aw_block ?_
    refine aw_loopC (ι := Nat × Int) (fun x => ⟨[(2, tP 2 0), (3, tP 3 0), (5, tI x.2)], [(2, .cells (TShape.c p1) 26), (3, .cells (TShape.c p2) 26)]⟩) (fun x => ((((p1.Edges.length : Int))) - x.2).toNat < x.1 ∧ (0 ≤ x.2 ∧ (x.2 ≤ ((p1.Edges.length : Int)) ∨ x.2 = 0)) ∧ FSameR_l0 p1 p2 x.1 x.2 = FSameR p1 p2) (fun x => x.1) ?_ (((((p1.Edges.length : Int))) - 0).toNat + 1, 0) ⟨Nat.lt_succ_self _, ⟨(by show 0 ≤ 0; first | trivial | omega | (simp only [List.length_append, List.length_cons, List.length_nil]; omega) | (simp only [List.length_set, List.length_append, List.length_cons, List.length_nil]; omega) | (simp only [W64_def]; omega) | (simp; omega) | simp), (by show (0 ≤ ((p1.Edges.length : Int)) ∨ 0 = 0); first | trivial | omega | (simp only [List.length_append, List.length_cons, List.length_nil]; omega) | (simp only [List.length_set, List.length_append, List.length_cons, List.length_nil]; omega) | (simp only [W64_def]; omega) | (simp; omega) | simp)⟩, (by simp only [FSameR, h1, cond_true, cond_false])⟩
    rintro ⟨n0, k⟩ ⟨hn, hinv, hF⟩
    have hm0 : ((((p1.Edges.length : Int))) - k).toNat < n0 := hn; have hinv0 : 0 ≤ k ∧ (k ≤ ((p1.Edges.length : Int)) ∨ k = 0) := hinv; have hF0 : FSameR_l0 p1 p2 n0 k = FSameR p1 p2 := hF; clear hn hinv hF
    cases n0 with
    | zero => exact absurd hm0 (Nat.not_lt_zero _)
    | succ n0 =>
      have hE := (or3_f h1).2.2
      refine aw_seq ?_
      refine aw_seq ?_
      refine aw_region eqok [] [] [] [2, 3, 5, 31] [2, 3] [] ⟨[(2, tP 2 0), (3, tP 3 0), (5, tI k), (31, tB (decide ((k : Int) < ((p1.Edges.length : Int)))))], [(2, .cells (TShape.c p1) 26), (3, .cells (TShape.c p2) 26)]⟩ .nil (by kernel_rfl) .nil ?_
      refine ath_n ?_
      refine aw_cond (decide ((k : Int) < ((p1.Edges.length : Int)))) (by kernel_rfl) (fun h2 => ?_) (fun h2 => ?_)
      · have g2 := of_decide_eq_true h2
        refine aw_skip ?_
        refine ath_n ?_
        refine aw_seq ?_
        refine aw_block ?_
        refine aw_seq ?_
        refine aw_draw mixed eqok [] [] [] [2, 3, 5, 44] [2, 3] [0 ≤ (k : Int) ∧ (k : Int) < ((p1.Edges.length : Nat) : Int), 0 ≤ (k : Int) ∧ (k : Int) < ((p2.Edges.length : Nat) : Int)] ⟨[(2, tP 2 0), (3, tP 3 0), (5, tI k), (44, tB (!(decide (((p1.Edges.getD k.toNat default).Kind) = ((p2.Edges.getD k.toNat default).Kind)) && (decide ((((p1.Edges.getD k.toNat default).A).X) = (((p2.Edges.getD k.toNat default).A).X)) && (decide ((((p1.Edges.getD k.toNat default).A).Y) = (((p2.Edges.getD k.toNat default).A).Y)) && (decide ((((p1.Edges.getD k.toNat default).B).X) = (((p2.Edges.getD k.toNat default).B).X)) && (decide ((((p1.Edges.getD k.toNat default).B).Y) = (((p2.Edges.getD k.toNat default).B).Y)) && (decide ((((p1.Edges.getD k.toNat default).C).X) = (((p2.Edges.getD k.toNat default).C).X)) && (decide ((((p1.Edges.getD k.toNat default).C).Y) = (((p2.Edges.getD k.toNat default).C).Y)) && true)))))))))], [(2, .cells (TShape.c p1) 26), (3, .cells (TShape.c p2) 26)]⟩ .nil (by kernel_rfl) (by kernel_rfl) (.cons (by first | decide | omega | exact idx_tmod (by first | omega | (simp only [W64_def]; omega)) (by omega) | (simp only [W64_def]; omega) | (constructor <;> omega) | (simp only [List.length_append, List.length_cons, List.length_nil]; omega) | (simp only [List.length_append, List.length_cons, List.length_nil, List.length_drop, List.length_take] at *; omega)) (.cons (by first | decide | omega | exact idx_tmod (by first | omega | (simp only [W64_def]; omega)) (by omega) | (simp only [W64_def]; omega) | (constructor <;> omega) | (simp only [List.length_append, List.length_cons, List.length_nil]; omega) | (simp only [List.length_append, List.length_cons, List.length_nil, List.length_drop, List.length_take] at *; omega)) .nil)) ?_
        refine ath_n ?_
        refine aw_cond (!(decide (((p1.Edges.getD k.toNat default).Kind) = ((p2.Edges.getD k.toNat default).Kind)) && (decide ((((p1.Edges.getD k.toNat default).A).X) = (((p2.Edges.getD k.toNat default).A).X)) && (decide ((((p1.Edges.getD k.toNat default).A).Y) = (((p2.Edges.getD k.toNat default).A).Y)) && (decide ((((p1.Edges.getD k.toNat default).B).X) = (((p2.Edges.getD k.toNat default).B).X)) && (decide ((((p1.Edges.getD k.toNat default).B).Y) = (((p2.Edges.getD k.toNat default).B).Y)) && (decide ((((p1.Edges.getD k.toNat default).C).X) = (((p2.Edges.getD k.toNat default).C).X)) && (decide ((((p1.Edges.getD k.toNat default).C).Y) = (((p2.Edges.getD k.toNat default).C).Y)) && true)))))))) (by kernel_rfl) (fun h3 => ?_) (fun h3 => ?_)
        · refine aw_seq ?_
          refine aw_region eqok [] [] [] [4] [] [] ⟨[(4, tB false)], []⟩ .nil (by kernel_rfl) .nil ?_
          refine ath_n ?_
          refine aw_ret ?_
          refine abl_r ?_
          refine ath_r ?_
          refine ath_r ?_
          refine abl_r ?_
          refine ath_r ?_
          exact ⟨_, Cv.refl _, .inl rfl, .av (.one (.b false)), by kernel_rfl, tve_eq (by rw [← hF0]; first | (simp only [FSameR_l0, h2, h3, cond_true, cond_false]; done) | (simp only [FSameR_l0, h2, h3, cond_true, cond_false]; rfl))⟩
        · refine aw_skip ?_
          refine abl_n ?_
          refine ath_n ?_
          refine aw_region eqok [] [] [] [2, 3, 5] [2, 3] [] ⟨[(2, tP 2 0), (3, tP 3 0), (5, tI (W64 (k + 1)))], [(2, .cells (TShape.c p1) 26), (3, .cells (TShape.c p2) 26)]⟩ .nil (by kernel_rfl) .nil ?_
          (try rw [(show W64 (k + 1) = k + 1 from W64_id (by omega) (by first | omega | (simp only [List.length_drop, List.length_take] at *; omega)))])
          refine ath_n ?_
          refine ⟨(n0, k + 1), ⟨?_, ?_, (by rw [← hF0]; simp only [FSameR_l0, h2, h3, cond_true, cond_false])⟩, Nat.lt_succ_self _, cv_eq (by kernel_rfl)⟩
          · show ((((p1.Edges.length : Int))) - (k + 1)).toNat < n0; omega
          · exact ⟨(by show 0 ≤ (k + 1); first | trivial | omega | (simp only [List.length_append, List.length_cons, List.length_nil]; omega) | (simp only [List.length_set, List.length_append, List.length_cons, List.length_nil]; omega) | (simp only [W64_def]; omega) | (simp; omega) | simp), (by show ((k + 1) ≤ ((p1.Edges.length : Int)) ∨ (k + 1) = 0); first | trivial | omega | (simp only [List.length_append, List.length_cons, List.length_nil]; omega) | (simp only [List.length_set, List.length_append, List.length_cons, List.length_nil]; omega) | (simp only [W64_def]; omega) | (simp; omega) | simp)⟩
      · have g2 := of_decide_eq_false h2
        refine aw_exit ?_
        refine ath_e ?_
        refine ath_e ?_
        refine abl_hit ?_
        refine ath_n ?_
        refine aw_seq ?_
        refine aw_region eqok [] [] [] [4] [] [] ⟨[(4, tB true)], []⟩ .nil (by kernel_rfl) .nil ?_
        refine ath_n ?_
        refine aw_ret ?_
        exact ⟨_, Cv.refl _, .inl rfl, .av (.one (.b true)), by kernel_rfl, tve_eq (by rw [← hF0]; first | (simp only [FSameR_l0, h2, cond_true, cond_false]; done) | (simp only [FSameR_l0, h2, cond_true, cond_false]; rfl))⟩
theorem okSameR (p1 : TShape) (p2 : TShape) (h0 : (p1.Edges.length : Int) ≤ 1000000) (h1 : (p2.Edges.length : Int) ≤ 1000000) : CallOk Try.prog (cSameR p1 p2).1 (cSameR p1 p2).2.1 (cSameR p1 p2).2.2 := callOk_pure (fun _ _ => by kernel_rfl) fun _ => pSameR p1 p2 h0 h1
def wMoveR9_0 (s : TShape) (k : Int) (m : TMotion) : TEdge := Fref06Move (s.Edges.getD k.toNat default) m
def FMoveR9_l0 (s : TShape) (m : TMotion) : Nat → List TEdge → Int → TShape
  | 0, _, _ => default
  | n0 + 1, out_1, k => bif decide ((k : Int) < ((s.Edges.length : Int))) then ((FMoveR9_l0 s m n0) (out_1 ++ [wMoveR9_0 s k m]) (k + 1)) else (TShape.mk s.Kind out_1 s.R)
def FMoveR9 (s : TShape) (m : TMotion) : TShape := FMoveR9_l0 s m (((((s.Edges.length : Int))) - 0).toNat + 1) (([] : List TEdge)) 0
def cMoveR9 (s : TShape) (m : TMotion) : FuncId × List Av × Ef := (34, [.agg (TShape.c s), .agg (TMotion.c m)], .val [] (.av (.agg (TShape.c (FMoveR9 s m)))))
set_option maxRecDepth 100000 in
theorem pMoveR9 (s : TShape) (m : TMotion) (h0 : (s.Edges.length : Int) ≤ 1000000) : Pure Try.prog 34 (cMoveR9 s m).2.1 (.av (.agg (TShape.c (FMoveR9 s m)))) := by
  refine pure_of_awF Try.func34 rfl (by kernel_rfl) (by kernel_rfl) fun W0 M0 => ?_
  refine aw_seq ?_
  refine aw_region eqok [] [] [] [2, 3, 4] [2, 3, 4] [] ⟨[(2, tP 2 0), (3, tP 3 0), (4, tP 4 0)], [(2, .cells (TShape.c s) 26), (3, .cells (TMotion.c m) 39), (4, .cells [.i 0, .val (.slice none 0 0), .i 0] 26)]⟩ .nil (by kernel_rfl) .nil ?_
  refine ath_n ?_
  refine aw_seq ?_
  refine aw_region eqok [] [] [] [2, 3, 4, 5] [2, 3, 4, 5] [] ⟨[(2, tP 2 0), (3, tP 3 0), (4, tP 4 0), (5, tP 5 0)], [(2, .cells (TShape.c s) 26), (3, .cells (TMotion.c m) 39), (4, .cells [.i 0, .val (.slice none 0 0), .i 0] 26), (5, .cells [.i s.Kind, .val (.slice none 0 0), .i s.R] 26)]⟩ .nil (by kernel_rfl) .nil ?_
  refine ath_n ?_
  refine aw_seq ?_
  refine aw_seq ?_
  refine aw_region eqok [] [] [] [2, 3, 4, 5, 6] [2, 3, 4, 5] [] ⟨[(2, tP 2 0), (3, tP 3 0), (4, tP 4 0), (5, tP 5 0), (6, tI 0)], [(2, .cells (TShape.c s) 26), (3, .cells (TMotion.c m) 39), (4, .cells [.i 0, .val (.slice none 0 0), .i 0] 26), (5, .cells [.i s.Kind, .val (.slice none 0 0), .i s.R] 26)]⟩ .nil (by kernel_rfl) .nil ?_
  refine ath_n ?_
  refine aw_block ?_
  refine aw_cv (Cv.trans (cv_ghost (⟨[(2, tP 2 0), (3, tP 3 0), (4, tP 4 0), (5, tP 5 0), (6, tI 0)], [(100000, .row 7 0 (fun _ _ => default) 35), (2, .cells (TShape.c s) 26), (3, .cells (TMotion.c m) 39), (4, .cells [.i 0, .val (.slice none 0 0), .i 0] 26), (5, .cells [.i s.Kind, .own 100000 7 0, .i s.R] 26)]⟩) 100000 7 (fun _ _ => default) 35 [] [(5, [1])] (K := none) (fun k x h => by cases h) rfl (by kernel_rfl) (by kernel_rfl)) (Cv.trans (cv_ce (⟨[(2, tP 2 0), (3, tP 3 0), (4, tP 4 0), (5, tP 5 0), (6, tI 0)], [(100000, .row 7 ((([] : List TEdge)).length) (rowF TEdge.c (([] : List TEdge))) 35), (2, .cells (TShape.c s) 26), (3, .cells (TMotion.c m) 39), (4, .cells [.i 0, .val (.slice none 0 0), .i 0] 26), (5, .cells [.i s.Kind, .own 100000 7 ((([] : List TEdge)).length), .i s.R] 26)]⟩) (.cons ⟨rfl, .refl _⟩ (.cons ⟨rfl, .refl _⟩ (.cons ⟨rfl, .refl _⟩ (.cons ⟨rfl, .refl _⟩ (.cons ⟨rfl, .refl _⟩ .nil))))) (.cons ⟨rfl, bke_told 35 (told_nil 7 (fun _ _ => default) TEdge.c)⟩ (.cons ⟨rfl, .refl _⟩ (.cons ⟨rfl, .refl _⟩ (.cons ⟨rfl, .refl _⟩ (.cons ⟨rfl, .cells _ (.cons (.refl _) (.cons (.own _ _ (by first | (simp; done) | (simp; omega))) (.cons (.refl _) .nil)))⟩ .nil)))))) (Cv.trans (cv_keep [2, 3, 4, 5, 6] [2, 3, 4, 5, 100000] (⟨[(2, tP 2 0), (3, tP 3 0), (4, tP 4 0), (5, tP 5 0), (6, tI 0)], [(2, .cells (TShape.c s) 26), (3, .cells (TMotion.c m) 39), (4, .cells [.i 0, .val (.slice none 0 0), .i 0] 26), (5, .cells [.i s.Kind, .own 100000 7 ((([] : List TEdge)).length), .i s.R] 26), (100000, .row 7 ((([] : List TEdge)).length) (rowF TEdge.c (([] : List TEdge))) 35)]⟩) (by kernel_rfl)) (Cv.refl _)))) ?_
  refine aw_loopC (ι := Nat × List TEdge × Int) (fun x => ⟨[(2, tP 2 0), (3, tP 3 0), (4, tP 4 0), (5, tP 5 0), (6, tI x.2.2)], [(2, .cells (TShape.c s) 26), (3, .cells (TMotion.c m) 39), (4, .cells [.i 0, .val (.slice none 0 0), .i 0] 26), (5, .cells [.i s.Kind, .own 100000 7 x.2.1.length, .i s.R] 26), (100000, .row 7 x.2.1.length (rowF TEdge.c x.2.1) 35)]⟩) (fun x => ((((s.Edges.length : Int))) - x.2.2).toNat < x.1 ∧ (0 ≤ x.2.2 ∧ (x.2.2 ≤ ((s.Edges.length : Int)) ∨ x.2.2 = 0) ∧ (x.2.1.length : Int) ≤ 0 + 1 * (x.2.2 - 0)) ∧ FMoveR9_l0 s m x.1 x.2.1 x.2.2 = FMoveR9 s m) (fun x => x.1) ?_ (((((s.Edges.length : Int))) - 0).toNat + 1, ([] : List TEdge), 0) ⟨Nat.lt_succ_self _, ⟨(by show 0 ≤ 0; first | trivial | omega | (simp only [List.length_append, List.length_cons, List.length_nil]; omega) | (simp only [List.length_set, List.length_append, List.length_cons, List.length_nil]; omega) | (simp only [W64_def]; omega) | (simp; omega) | simp), (by show (0 ≤ ((s.Edges.length : Int)) ∨ 0 = 0); first | trivial | omega | (simp only [List.length_append, List.length_cons, List.length_nil]; omega) | (simp only [List.length_set, List.length_append, List.length_cons, List.length_nil]; omega) | (simp only [W64_def]; omega) | (simp; omega) | simp), (by show ((([] : List TEdge)).length : Int) ≤ 0 + 1 * (0 - 0); first | trivial | omega | (simp only [List.length_append, List.length_cons, List.length_nil]; omega) | (simp only [List.length_set, List.length_append, List.length_cons, List.length_nil]; omega) | (simp only [W64_def]; omega) | (simp; omega) | simp)⟩, (by simp only [FMoveR9, cond_true, cond_false])⟩
  rintro ⟨n0, out_1, k⟩ ⟨hn, hinv, hF⟩
  have hm0 : ((((s.Edges.length : Int))) - k).toNat < n0 := hn; have hinv0 : 0 ≤ k ∧ (k ≤ ((s.Edges.length : Int)) ∨ k = 0) ∧ (out_1.length : Int) ≤ 0 + 1 * (k - 0) := hinv; have hF0 : FMoveR9_l0 s m n0 out_1 k = FMoveR9 s m := hF; clear hn hinv hF
  cases n0 with
  | zero => exact absurd hm0 (Nat.not_lt_zero _)
  | succ n0 =>
    refine aw_seq ?_
    refine aw_seq ?_
    refine aw_region eqok [] [] [] [2, 3, 4, 5, 6, 16] [2, 3, 4, 5, 100000] [] ⟨[(2, tP 2 0), (3, tP 3 0), (4, tP 4 0), (5, tP 5 0), (6, tI k), (16, tB (decide ((k : Int) < ((s.Edges.length : Int)))))], [(2, .cells (TShape.c s) 26), (3, .cells (TMotion.c m) 39), (4, .cells [.i 0, .val (.slice none 0 0), .i 0] 26), (5, .cells [.i s.Kind, .own 100000 7 out_1.length, .i s.R] 26), (100000, .row 7 out_1.length (rowF TEdge.c out_1) 35)]⟩ .nil (by kernel_rfl) .nil ?_
    refine ath_n ?_
    refine aw_cond (decide ((k : Int) < ((s.Edges.length : Int)))) (by kernel_rfl) (fun h1 => ?_) (fun h1 => ?_)
    · have g1 := of_decide_eq_true h1
      refine aw_skip ?_
      refine ath_n ?_
      refine aw_seq ?_
      refine aw_block ?_
      refine aw_draw mixed eqok [] [] [(27, cref06Move (s.Edges.getD k.toNat default) m)] [2, 3, 4, 5, 6] [2, 3, 4, 5, 29] [0 ≤ (k : Int) ∧ (k : Int) < ((s.Edges.length : Nat) : Int), Same (cref06Move (s.Edges.getD k.toNat default) m).2.1, out_1.length = out_1.length, out_1.length + 1 ≤ maxLen, (out_1.length + 1) * 56 ≤ 140737488355328] ⟨[(2, tP 2 0), (3, tP 3 0), (4, tP 4 0), (5, tP 5 0), (6, tI k)], [(2, .cells (TShape.c s) 26), (3, .cells (TMotion.c m) 39), (4, .cells [.i 0, .val (.slice none 0 0), .i 0] 26), (5, .cells [.i s.Kind, .own 29 7 (out_1.length + 1), .i s.R] 26), (29, .row 7 (out_1.length + 1) (fun i j => if i < out_1.length then (rowF TEdge.c out_1) i j else (colsC 7 1 [.i ((wMoveR9_0 s k m).Kind), .i (((wMoveR9_0 s k m).A).X), .i (((wMoveR9_0 s k m).A).Y), .i (((wMoveR9_0 s k m).B).X), .i (((wMoveR9_0 s k m).B).Y), .i (((wMoveR9_0 s k m).C).X), .i (((wMoveR9_0 s k m).C).Y)]) (i - out_1.length) j) 35)]⟩ (.cons (okref06Move (s.Edges.getD k.toNat default) m) .nil) (by kernel_rfl) (by kernel_rfl) (.cons (by first | decide | omega | exact idx_tmod (by first | omega | (simp only [W64_def]; omega)) (by omega) | (simp only [W64_def]; omega) | (constructor <;> omega) | (simp only [List.length_append, List.length_cons, List.length_nil]; omega) | (simp only [List.length_append, List.length_cons, List.length_nil, List.length_drop, List.length_take] at *; omega)) (.cons rfl (.cons rfl (.cons (by first | (unfold maxLen; omega) | (unfold maxLen; simp only [List.length_append, List.length_cons, List.length_nil]; omega) | first | omega | (simp only [List.length_append, List.length_cons, List.length_nil]; omega)) (.cons (by first | (unfold maxLen; omega) | (unfold maxLen; simp only [List.length_append, List.length_cons, List.length_nil]; omega) | first | omega | (simp only [List.length_append, List.length_cons, List.length_nil]; omega)) .nil))))) ?_
      refine abl_n ?_
      refine ath_n ?_
      refine aw_cv (Cv.trans (cv_ce (⟨[(2, tP 2 0), (3, tP 3 0), (4, tP 4 0), (5, tP 5 0), (6, tI k)], [(2, .cells (TShape.c s) 26), (3, .cells (TMotion.c m) 39), (4, .cells [.i 0, .val (.slice none 0 0), .i 0] 26), (5, .cells [.i s.Kind, .own 29 7 ((out_1 ++ [wMoveR9_0 s k m]).length), .i s.R] 26), (29, .row 7 ((out_1 ++ [wMoveR9_0 s k m]).length) (rowF TEdge.c (out_1 ++ [wMoveR9_0 s k m])) 35)]⟩) (.cons ⟨rfl, .refl _⟩ (.cons ⟨rfl, .refl _⟩ (.cons ⟨rfl, .refl _⟩ (.cons ⟨rfl, .refl _⟩ (.cons ⟨rfl, .refl _⟩ .nil))))) (.cons ⟨rfl, .refl _⟩ (.cons ⟨rfl, .refl _⟩ (.cons ⟨rfl, .refl _⟩ (.cons ⟨rfl, .cells _ (.cons (.refl _) (.cons (.own _ _ (by first | (simp; done) | (simp; omega))) (.cons (.refl _) .nil)))⟩ (.cons ⟨rfl, bke_told 35 (told_app (told_rfl 7 TEdge.c out_1) (told_lit (c := TEdge.c) (xs := ([wMoveR9_0 s k m] : List TEdge)) rfl (by kernel_rfl)))⟩ .nil)))))) (Cv.refl _)) ?_
      refine aw_region eqok [] [] [] [2, 3, 4, 5, 6] [2, 3, 4, 5, 29] [] ⟨[(2, tP 2 0), (3, tP 3 0), (4, tP 4 0), (5, tP 5 0), (6, tI (W64 (k + 1)))], [(2, .cells (TShape.c s) 26), (3, .cells (TMotion.c m) 39), (4, .cells [.i 0, .val (.slice none 0 0), .i 0] 26), (5, .cells [.i s.Kind, .own 29 7 ((out_1 ++ [wMoveR9_0 s k m]).length), .i s.R] 26), (29, .row 7 ((out_1 ++ [wMoveR9_0 s k m]).length) (rowF TEdge.c (out_1 ++ [wMoveR9_0 s k m])) 35)]⟩ .nil (by kernel_rfl) .nil ?_
      (try rw [(show W64 (k + 1) = k + 1 from W64_id (by omega) (by first | omega | (simp only [List.length_drop, List.length_take] at *; omega)))])
      refine ath_n ?_
      refine ⟨(n0, out_1 ++ [wMoveR9_0 s k m], k + 1), ⟨?_, ?_, (by rw [← hF0]; simp only [FMoveR9_l0, h1, cond_true, cond_false])⟩, Nat.lt_succ_self _, Cv.trans (cv_ren (⟨[(2, tP 2 0), (3, tP 3 0), (4, tP 4 0), (5, tP 5 0), (6, tI (k + 1))], [(2, .cells (TShape.c s) 26), (3, .cells (TMotion.c m) 39), (4, .cells [.i 0, .val (.slice none 0 0), .i 0] 26), (5, .cells [.i s.Kind, .own 100000 7 ((out_1 ++ [wMoveR9_0 s k m]).length), .i s.R] 26), (100000, .row 7 ((out_1 ++ [wMoveR9_0 s k m]).length) (rowF TEdge.c (out_1 ++ [wMoveR9_0 s k m])) 35)]⟩) 29 100000 (K := none) (fun k x h => by cases h) rfl rfl (by kernel_rfl) (by kernel_rfl)) (cv_eq (by kernel_rfl))⟩
      · show ((((s.Edges.length : Int))) - (k + 1)).toNat < n0; omega
      · exact ⟨(by show 0 ≤ (k + 1); first | trivial | omega | (simp only [List.length_append, List.length_cons, List.length_nil]; omega) | (simp only [List.length_set, List.length_append, List.length_cons, List.length_nil]; omega) | (simp only [W64_def]; omega) | (simp; omega) | simp), (by show ((k + 1) ≤ ((s.Edges.length : Int)) ∨ (k + 1) = 0); first | trivial | omega | (simp only [List.length_append, List.length_cons, List.length_nil]; omega) | (simp only [List.length_set, List.length_append, List.length_cons, List.length_nil]; omega) | (simp only [W64_def]; omega) | (simp; omega) | simp), (by show ((out_1 ++ [wMoveR9_0 s k m]).length : Int) ≤ 0 + 1 * ((k + 1) - 0); first | trivial | omega | (simp only [List.length_append, List.length_cons, List.length_nil]; omega) | (simp only [List.length_set, List.length_append, List.length_cons, List.length_nil]; omega) | (simp only [W64_def]; omega) | (simp; omega) | simp)⟩
    · have g1 := of_decide_eq_false h1
      refine aw_exit ?_
      refine ath_e ?_
      refine ath_e ?_
      refine abl_hit ?_
      refine ath_n ?_
      refine aw_seq ?_
      refine aw_region eqok [] [] [] [4] [4, 100000] [] ⟨[(4, tP 4 0)], [(4, .cells [.i s.Kind, .own 100000 7 out_1.length, .i s.R] 26), (100000, .row 7 out_1.length (rowF TEdge.c out_1) 35)]⟩ .nil (by kernel_rfl) .nil ?_
      refine ath_n ?_
      refine aw_ret ?_
      exact ⟨_, Cv.trans (cv_fz (⟨[(4, tP 4 0)], [(4, .cells [.i s.Kind, lst 7 TEdge.c out_1, .i s.R] 26)]⟩) 100000 7 out_1.length (rowF TEdge.c out_1) 35 (K := none) (fun k x h => by cases h) (by kernel_rfl) (by kernel_rfl) (.cons ⟨rfl, rfl⟩ .nil) (by kernel_rfl)) (Cv.refl _), .inl rfl, .av (.agg [.i s.Kind, lst 7 TEdge.c out_1, .i s.R]), by kernel_rfl, tve_eq (by rw [← hF0]; first | (simp only [FMoveR9_l0, h1, cond_true, cond_false]; done) | (simp only [FMoveR9_l0, h1, cond_true, cond_false]; rfl))⟩
theorem okMoveR9 (s : TShape) (m : TMotion) (h0 : (s.Edges.length : Int) ≤ 1000000) : CallOk Try.prog (cMoveR9 s m).1 (cMoveR9 s m).2.1 (cMoveR9 s m).2.2 := callOk_pure (fun _ _ => by kernel_rfl) fun _ => pMoveR9 s m h0
def wAt9_0 (l : (List Int)) : FuncId × List Av × Ef := (38, ([.one (.ptr 1000 0), .one (.i 100)] : List Av).map (renA 1000 12), wrI 12 (.cells [lst 1 (fun x => [.i x]) l, .i 0] 69) (tI ((FNext (TDraw.mk l 0) 100).1)) (.cells (TDraw.c ((FNext (TDraw.mk l 0) 100).2)) 69))
def wAt9_1 (l : (List Int)) : FuncId × List Av × Ef := (38, ([.one (.ptr 1000 0), .one (.i 5)] : List Av).map (renA 1000 12), wrI 12 (.cells (TDraw.c ((FNext (TDraw.mk l 0) 100).2)) 69) (tI ((FNext ((FNext (TDraw.mk l 0) 100).2) 5).1)) (.cells (TDraw.c ((FNext ((FNext (TDraw.mk l 0) 100).2) 5).2)) 69))
def wAt9_3 (s : TShape) (l : (List Int)) : TEdge := s.Edges.getD ((Int.tmod ((FNext (TDraw.mk l 0) 100).1) ((s.Edges.length : Int))).toNat) default
def wAt9_4 (s : TShape) (l : (List Int)) : TPoint := FAt06 (wAt9_3 s l) (l.drop (min ((l.length : Int)) 2 : Int).toNat)
def wAt9_5 (s : TShape) (l : (List Int)) : TPoint := Fref05Add (wAt9_4 s l) (TPoint.mk (W64 (Int.tdiv (W64 (3 * s.R)) 5)) (W64 (Int.tdiv (W64 (4 * s.R)) 5)))
def FAt9 (s : TShape) (l : (List Int)) : TPoint := bif decide ((((s.Edges.length : Int)) : Int) = 0) then (TPoint.mk 0 0) else (TPoint.mk (bif decide ((((FNext ((FNext (TDraw.mk l 0) 100).2) 5).1) : Int) = 1) then (W64 (((wAt9_4 s l).X) + s.R)) else (bif decide ((((FNext ((FNext (TDraw.mk l 0) 100).2) 5).1) : Int) = 2) then ((wAt9_4 s l).X) else (bif decide ((((FNext ((FNext (TDraw.mk l 0) 100).2) 5).1) : Int) = 3) then ((wAt9_5 s l).X) else ((wAt9_4 s l).X)))) (bif decide ((((FNext ((FNext (TDraw.mk l 0) 100).2) 5).1) : Int) = 1) then ((wAt9_4 s l).Y) else (bif decide ((((FNext ((FNext (TDraw.mk l 0) 100).2) 5).1) : Int) = 2) then (W64 (((wAt9_4 s l).Y) - s.R)) else (bif decide ((((FNext ((FNext (TDraw.mk l 0) 100).2) 5).1) : Int) = 3) then ((wAt9_5 s l).Y) else ((wAt9_4 s l).Y)))))
def cAt9 (s : TShape) (l : (List Int)) : FuncId × List Av × Ef := (13, [.agg (TShape.c s), .one (lst 1 (fun x => [.i x]) l)], .val [] (.av (.agg (TPoint.c (FAt9 s l)))))
set_option maxRecDepth 100000 in
theorem pAt9 (s : TShape) (l : (List Int)) (hl : (l.length : Int) ≤ 9223372036854775807) (h0 : (s.Edges.length : Int) ≤ 1000000) : Pure Try.prog 13 (cAt9 s l).2.1 (.av (.agg (TPoint.c (FAt9 s l)))) := by
  refine pure_of_awF Try.func13 rfl (by kernel_rfl) (by kernel_rfl) fun W0 M0 => ?_
  have hd0 := draw_new hl
  refine aw_seq ?_
  refine aw_region eqok [] [] [] [1, 2, 4] [2, 4] [] ⟨[(1, .av (.one (lst 1 (fun x => [.i x]) l))), (2, tP 2 0), (4, tP 4 0)], [(2, .cells (TShape.c s) 26), (4, .cells [.i 0, .i 0] 29)]⟩ .nil (by kernel_rfl) .nil ?_
  refine ath_n ?_
  refine aw_seq ?_
  refine aw_region eqok [] [] [] [1, 2, 4, 5] [2, 4, 12] [] ⟨[(1, .av (.one (lst 1 (fun x => [.i x]) l))), (2, tP 2 0), (4, tP 4 0), (5, tP 12 0)], [(2, .cells (TShape.c s) 26), (4, .cells [.i 0, .i 0] 29), (12, .cells [lst 1 (fun x => [.i x]) l, .i 0] 69)]⟩ .nil (by kernel_rfl) .nil ?_
  refine ath_n ?_
  refine aw_seq ?_
  refine aw_region eqok [] [] [(14, (wAt9_0 l))] [1, 2, 4, 5, 6] [2, 4, 12] [Same ((wAt9_0 l)).2.1, SameB (.cells [lst 1 (fun x => [.i x]) l, .i 0] 69)] ⟨[(1, .av (.one (lst 1 (fun x => [.i x]) l))), (2, tP 2 0), (4, tP 4 0), (5, tP 12 0), (6, tI ((FNext (TDraw.mk l 0) 100).1))], [(2, .cells (TShape.c s) 26), (4, .cells [.i 0, .i 0] 29), (12, .cells (TDraw.c ((FNext (TDraw.mk l 0) 100).2)) 69)]⟩ (.cons (callOk_wr (fun _ _ => by kernel_rfl) (by kernel_rfl) (by kernel_rfl) (pNext (TDraw.mk l 0) 100 (by repeat (first | assumption | exact draw_new (by assumption) | refine next_ok ?_ | refine near_ok ?_ | refine draw_bif ?_ ?_ | refine hKd _ _ ?_ | refine cond_dk _ ?_)) (by first | decide | omega | (simp only [W64_def]; omega)))) .nil) (by kernel_rfl) (.cons rfl (.cons rfl .nil)) ?_
  refine ath_n ?_
  refine aw_seq ?_
  refine aw_region eqok [] [] [(16, (wAt9_1 l))] [1, 2, 4, 6, 7] [2, 4] [Same ((wAt9_1 l)).2.1, SameB (.cells (TDraw.c ((FNext (TDraw.mk l 0) 100).2)) 69)] ⟨[(1, .av (.one (lst 1 (fun x => [.i x]) l))), (2, tP 2 0), (4, tP 4 0), (6, tI ((FNext (TDraw.mk l 0) 100).1)), (7, tI ((FNext ((FNext (TDraw.mk l 0) 100).2) 5).1))], [(2, .cells (TShape.c s) 26), (4, .cells [.i 0, .i 0] 29)]⟩ (.cons (callOk_wr (fun _ _ => by kernel_rfl) (by kernel_rfl) (by kernel_rfl) (pNext ((FNext (TDraw.mk l 0) 100).2) 5 (by repeat (first | assumption | exact draw_new (by assumption) | refine next_ok ?_ | refine near_ok ?_ | refine draw_bif ?_ ?_ | refine hKd _ _ ?_ | refine cond_dk _ ?_)) (by first | decide | omega | (simp only [W64_def]; omega)))) .nil) (by kernel_rfl) (.cons rfl (.cons rfl .nil)) ?_
  refine ath_n ?_
  refine aw_seq ?_
  refine aw_seq ?_
  refine aw_region eqok [] [] [] [1, 2, 4, 6, 7, 20] [2, 4] [] ⟨[(1, .av (.one (lst 1 (fun x => [.i x]) l))), (2, tP 2 0), (4, tP 4 0), (6, tI ((FNext (TDraw.mk l 0) 100).1)), (7, tI ((FNext ((FNext (TDraw.mk l 0) 100).2) 5).1)), (20, tB (decide ((((s.Edges.length : Int)) : Int) = 0)))], [(2, .cells (TShape.c s) 26), (4, .cells [.i 0, .i 0] 29)]⟩ .nil (by kernel_rfl) .nil ?_
  refine ath_n ?_
  refine aw_cond (decide ((((s.Edges.length : Int)) : Int) = 0)) (by kernel_rfl) (fun h1 => ?_) (fun h1 => ?_)
  · have g1 := of_decide_eq_true h1
    refine aw_seq ?_
    refine aw_region eqok [] [] [] [4] [4] [] ⟨[(4, tP 4 0)], [(4, .cells [.i 0, .i 0] 29)]⟩ .nil (by kernel_rfl) .nil ?_
    refine ath_n ?_
    refine aw_ret ?_
    refine ath_r ?_
    exact ⟨_, Cv.refl _, .inl rfl, .av (.agg [.i 0, .i 0]), by kernel_rfl, tve_eq (by first | (simp only [FAt9, h1, cond_true, cond_false]; done) | (simp only [FAt9, h1, cond_true, cond_false]; rfl))⟩
  · have g1 := of_decide_eq_false h1
    refine aw_skip ?_
    refine ath_n ?_
    refine aw_seq ?_
    refine aw_draw mixed eqok [] [] [(36, ceI [.agg (TEdge.c (wAt9_3 s l)), .one (.list false 1 ((((l.length : Nat) : Int) : Int).toNat - (min ((l.length : Int)) 2 : Int).toNat) (fun i j => (rowF (fun x => [.i x]) l) (i + (min ((l.length : Int)) 2 : Int).toNat) j))] (cAt06 (wAt9_3 s l) (l.drop (min ((l.length : Int)) 2 : Int).toNat)))] [2, 4, 7, 8] [2, 4, 8] [((s.Edges.length : Int) : Int) ≠ 0, 0 ≤ (Int.tmod ((FNext (TDraw.mk l 0) 100).1) ((s.Edges.length : Int)) : Int) ∧ (Int.tmod ((FNext (TDraw.mk l 0) 100).1) ((s.Edges.length : Int)) : Int) < ((s.Edges.length : Nat) : Int), 0 ≤ (min ((l.length : Int)) 2 : Int) ∧ (min ((l.length : Int)) 2 : Int) ≤ (((l.length : Nat) : Int) : Int) ∧ (((l.length : Nat) : Int) : Int) ≤ ((l.length : Nat) : Int), Same (ceI [.agg (TEdge.c (wAt9_3 s l)), .one (.list false 1 ((((l.length : Nat) : Int) : Int).toNat - (min ((l.length : Int)) 2 : Int).toNat) (fun i j => (rowF (fun x => [.i x]) l) (i + (min ((l.length : Int)) 2 : Int).toNat) j))] (cAt06 (wAt9_3 s l) (l.drop (min ((l.length : Int)) 2 : Int).toNat))).2.1] ⟨[(2, tP 2 0), (4, tP 4 0), (7, tI ((FNext ((FNext (TDraw.mk l 0) 100).2) 5).1)), (8, tP 8 0)], [(2, .cells (TShape.c s) 26), (4, .cells [.i 0, .i 0] 29), (8, .cells (TPoint.c (wAt9_4 s l)) 29)]⟩ (.cons (callOk_ce (okAt06 (wAt9_3 s l) (l.drop (min ((l.length : Int)) 2 : Int).toNat) (by first | assumption | (simp only [List.length_drop]; omega))) (.cons (AvE.refl _) (.cons (.one (cle_told false (told_drop (a := min ((l.length : Int)) 2) (told_rfl 1 (fun x => [.i x]) l) (by have hc := (show 0 ≤ (min ((l.length : Int)) 2 : Int) ∧ (min ((l.length : Int)) 2 : Int) ≤ (((l.length : Nat) : Int) : Int) ∧ (((l.length : Nat) : Int) : Int) ≤ ((l.length : Nat) : Int) from (by first | exact idx_tmod (next_b _ 100 (by decide) (by decide)).1 (by omega) | exact in_next _ _ _ (by decide) (by decide) (by decide) | decide | omega)); exact hc.1) (by have hc := (show 0 ≤ (min ((l.length : Int)) 2 : Int) ∧ (min ((l.length : Int)) 2 : Int) ≤ (((l.length : Nat) : Int) : Int) ∧ (((l.length : Nat) : Int) : Int) ≤ ((l.length : Nat) : Int) from (by first | exact idx_tmod (next_b _ 100 (by decide) (by decide)).1 (by omega) | exact in_next _ _ _ (by decide) (by decide) (by decide) | decide | omega)); exact hc.2.1)))) .nil))) .nil) (by kernel_rfl) (by kernel_rfl) (.cons (by omega) (.cons (by first | exact idx_tmod (next_b _ 100 (by decide) (by decide)).1 (by omega) | exact in_next _ _ _ (by decide) (by decide) (by decide) | decide | omega) (.cons (by first | exact idx_tmod (next_b _ 100 (by decide) (by decide)).1 (by omega) | exact in_next _ _ _ (by decide) (by decide) (by decide) | decide | omega) (.cons rfl .nil)))) ?_
    refine ath_n ?_
    refine aw_seq ?_
    refine aw_region eqok [] [] [] [4, 7, 8, 9] [4, 8] [] ⟨[(4, tP 4 0), (7, tI ((FNext ((FNext (TDraw.mk l 0) 100).2) 5).1)), (8, tP 8 0), (9, tI s.R)], [(4, .cells [.i 0, .i 0] 29), (8, .cells (TPoint.c (wAt9_4 s l)) 29)]⟩ .nil (by kernel_rfl) .nil ?_
    refine ath_n ?_
    refine aw_seq ?_
    refine aw_seq ?_
    refine aw_region eqok [] [] [] [4, 8, 9, 39] [4, 8] [] ⟨[(4, tP 4 0), (8, tP 8 0), (9, tI s.R), (39, tI ((FNext ((FNext (TDraw.mk l 0) 100).2) 5).1))], [(4, .cells [.i 0, .i 0] 29), (8, .cells (TPoint.c (wAt9_4 s l)) 29)]⟩ .nil (by kernel_rfl) .nil ?_
    refine ath_n ?_
    refine aw_joinC (⟨[(4, tP 4 0), (8, tP 8 0)], [(4, .cells [.i 0, .i 0] 29), (8, .cells [.i (bif decide ((((FNext ((FNext (TDraw.mk l 0) 100).2) 5).1) : Int) = 1) then (W64 (((wAt9_4 s l).X) + s.R)) else (bif decide ((((FNext ((FNext (TDraw.mk l 0) 100).2) 5).1) : Int) = 2) then ((wAt9_4 s l).X) else (bif decide ((((FNext ((FNext (TDraw.mk l 0) 100).2) 5).1) : Int) = 3) then ((wAt9_5 s l).X) else ((wAt9_4 s l).X)))), .i (bif decide ((((FNext ((FNext (TDraw.mk l 0) 100).2) 5).1) : Int) = 1) then ((wAt9_4 s l).Y) else (bif decide ((((FNext ((FNext (TDraw.mk l 0) 100).2) 5).1) : Int) = 2) then (W64 (((wAt9_4 s l).Y) - s.R)) else (bif decide ((((FNext ((FNext (TDraw.mk l 0) 100).2) 5).1) : Int) = 3) then ((wAt9_5 s l).Y) else ((wAt9_4 s l).Y))))] 29)]⟩) ?_ ?_
    · refine aw_block ?_
      refine aw_seq ?_
      refine aw_region eqok [] [] [] [4, 8, 9, 39, 40] [4, 8] [] ⟨[(4, tP 4 0), (8, tP 8 0), (9, tI s.R), (39, tI ((FNext ((FNext (TDraw.mk l 0) 100).2) 5).1)), (40, tB (decide ((((FNext ((FNext (TDraw.mk l 0) 100).2) 5).1) : Int) = 1)))], [(4, .cells [.i 0, .i 0] 29), (8, .cells (TPoint.c (wAt9_4 s l)) 29)]⟩ .nil (by kernel_rfl) .nil ?_
      refine ath_n ?_
      refine aw_cond (decide ((((FNext ((FNext (TDraw.mk l 0) 100).2) 5).1) : Int) = 1)) (by kernel_rfl) (fun h2 => ?_) (fun h2 => ?_)
      · have g2 := of_decide_eq_true h2
        refine aw_region eqok [] [] [] [4, 8] [4, 8] [] ⟨[(4, tP 4 0), (8, tP 8 0)], [(4, .cells [.i 0, .i 0] 29), (8, .cells [.i (W64 (((wAt9_4 s l).X) + s.R)), .i ((wAt9_4 s l).Y)] 29)]⟩ .nil (by kernel_rfl) .nil ?_
        refine abl_n ?_
        refine ath_n ?_
        refine cv_eq ?_
        first | rfl | (simp only [h2, cond_true, cond_false]; done) | (simp only [h2, cond_true, cond_false]; rfl)
      · have g2 := of_decide_eq_false h2
        refine aw_seq ?_
        refine aw_region eqok [] [] [] [4, 8, 9, 39, 47] [4, 8] [] ⟨[(4, tP 4 0), (8, tP 8 0), (9, tI s.R), (39, tI ((FNext ((FNext (TDraw.mk l 0) 100).2) 5).1)), (47, tB (decide ((((FNext ((FNext (TDraw.mk l 0) 100).2) 5).1) : Int) = 2)))], [(4, .cells [.i 0, .i 0] 29), (8, .cells (TPoint.c (wAt9_4 s l)) 29)]⟩ .nil (by kernel_rfl) .nil ?_
        refine ath_n ?_
        refine aw_cond (decide ((((FNext ((FNext (TDraw.mk l 0) 100).2) 5).1) : Int) = 2)) (by kernel_rfl) (fun h3 => ?_) (fun h3 => ?_)
        · have g3 := of_decide_eq_true h3
          refine aw_region eqok [] [] [] [4, 8] [4, 8] [] ⟨[(4, tP 4 0), (8, tP 8 0)], [(4, .cells [.i 0, .i 0] 29), (8, .cells [.i ((wAt9_4 s l).X), .i (W64 (((wAt9_4 s l).Y) - s.R))] 29)]⟩ .nil (by kernel_rfl) .nil ?_
          refine abl_n ?_
          refine ath_n ?_
          refine cv_eq ?_
          first | rfl | (simp only [h2, h3, cond_true, cond_false]; done) | (simp only [h2, h3, cond_true, cond_false]; rfl)
        · have g3 := of_decide_eq_false h3
          refine aw_seq ?_
          refine aw_region eqok [] [] [] [4, 8, 9, 54] [4, 8] [] ⟨[(4, tP 4 0), (8, tP 8 0), (9, tI s.R), (54, tB (decide ((((FNext ((FNext (TDraw.mk l 0) 100).2) 5).1) : Int) = 3)))], [(4, .cells [.i 0, .i 0] 29), (8, .cells (TPoint.c (wAt9_4 s l)) 29)]⟩ .nil (by kernel_rfl) .nil ?_
          refine ath_n ?_
          refine aw_cond (decide ((((FNext ((FNext (TDraw.mk l 0) 100).2) 5).1) : Int) = 3)) (by kernel_rfl) (fun h4 => ?_) (fun h4 => ?_)
          · have g4 := of_decide_eq_true h4
            refine aw_region eqok [] [] [(64, cref05Add (wAt9_4 s l) (TPoint.mk (W64 (Int.tdiv (W64 (3 * s.R)) 5)) (W64 (Int.tdiv (W64 (4 * s.R)) 5))))] [4, 8] [4, 8] [(5 : Int) ≠ 0, (5 : Int) ≠ 0, Same (cref05Add (wAt9_4 s l) (TPoint.mk (W64 (Int.tdiv (W64 (3 * s.R)) 5)) (W64 (Int.tdiv (W64 (4 * s.R)) 5)))).2.1] ⟨[(4, tP 4 0), (8, tP 8 0)], [(4, .cells [.i 0, .i 0] 29), (8, .cells (TPoint.c (wAt9_5 s l)) 29)]⟩ (.cons (okref05Add (wAt9_4 s l) (TPoint.mk (W64 (Int.tdiv (W64 (3 * s.R)) 5)) (W64 (Int.tdiv (W64 (4 * s.R)) 5)))) .nil) (by kernel_rfl) (.cons (by omega) (.cons (by omega) (.cons rfl .nil))) ?_
            refine abl_n ?_
            refine ath_n ?_
            refine cv_eq ?_
            first | rfl | (simp only [h2, h3, h4, cond_true, cond_false]; done) | (simp only [h2, h3, h4, cond_true, cond_false]; rfl)
          · have g4 := of_decide_eq_false h4
            refine aw_skip ?_
            refine abl_n ?_
            refine ath_n ?_
            refine Cv.trans (cv_keep [4, 8] [4, 8] (⟨[(4, tP 4 0), (8, tP 8 0)], [(4, .cells [.i 0, .i 0] 29), (8, .cells (TPoint.c (wAt9_4 s l)) 29)]⟩) (by kernel_rfl)) (cv_eq ?_)
            first | rfl | (simp only [h2, h3, h4, cond_true, cond_false]; done) | (simp only [h2, h3, h4, cond_true, cond_false]; rfl)
    refine aw_seq ?_
    refine aw_region eqok [] [] [] [4] [4] [] ⟨[(4, tP 4 0)], [(4, .cells [.i (bif decide ((((FNext ((FNext (TDraw.mk l 0) 100).2) 5).1) : Int) = 1) then (W64 (((wAt9_4 s l).X) + s.R)) else (bif decide ((((FNext ((FNext (TDraw.mk l 0) 100).2) 5).1) : Int) = 2) then ((wAt9_4 s l).X) else (bif decide ((((FNext ((FNext (TDraw.mk l 0) 100).2) 5).1) : Int) = 3) then ((wAt9_5 s l).X) else ((wAt9_4 s l).X)))), .i (bif decide ((((FNext ((FNext (TDraw.mk l 0) 100).2) 5).1) : Int) = 1) then ((wAt9_4 s l).Y) else (bif decide ((((FNext ((FNext (TDraw.mk l 0) 100).2) 5).1) : Int) = 2) then (W64 (((wAt9_4 s l).Y) - s.R)) else (bif decide ((((FNext ((FNext (TDraw.mk l 0) 100).2) 5).1) : Int) = 3) then ((wAt9_5 s l).Y) else ((wAt9_4 s l).Y))))] 29)]⟩ .nil (by kernel_rfl) .nil ?_
    refine ath_n ?_
    refine aw_ret ?_
    exact ⟨_, Cv.refl _, .inl rfl, .av (.agg [.i (bif decide ((((FNext ((FNext (TDraw.mk l 0) 100).2) 5).1) : Int) = 1) then (W64 (((wAt9_4 s l).X) + s.R)) else (bif decide ((((FNext ((FNext (TDraw.mk l 0) 100).2) 5).1) : Int) = 2) then ((wAt9_4 s l).X) else (bif decide ((((FNext ((FNext (TDraw.mk l 0) 100).2) 5).1) : Int) = 3) then ((wAt9_5 s l).X) else ((wAt9_4 s l).X)))), .i (bif decide ((((FNext ((FNext (TDraw.mk l 0) 100).2) 5).1) : Int) = 1) then ((wAt9_4 s l).Y) else (bif decide ((((FNext ((FNext (TDraw.mk l 0) 100).2) 5).1) : Int) = 2) then (W64 (((wAt9_4 s l).Y) - s.R)) else (bif decide ((((FNext ((FNext (TDraw.mk l 0) 100).2) 5).1) : Int) = 3) then ((wAt9_5 s l).Y) else ((wAt9_4 s l).Y))))]), by kernel_rfl, tve_eq (by first | (simp only [FAt9, h1, cond_true, cond_false]; done) | (simp only [FAt9, h1, cond_true, cond_false]; rfl))⟩
theorem okAt9 (s : TShape) (l : (List Int)) (hl : (l.length : Int) ≤ 9223372036854775807) (h0 : (s.Edges.length : Int) ≤ 1000000) : CallOk Try.prog (cAt9 s l).1 (cAt9 s l).2.1 (cAt9 s l).2.2 := callOk_pure (fun _ _ => by kernel_rfl) fun _ => pAt9 s l hl h0
end Go.Proofs.Ytpnlegfdkkcnlaa
