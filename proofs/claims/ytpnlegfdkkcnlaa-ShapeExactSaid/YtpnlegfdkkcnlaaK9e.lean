/-
  No statement is proved in this text. It holds what functions return.
-/
import Derived.Test.YtpnlegfdkkcnlaaProg
import Derived.Test.YtpnlegfdkkcnlaaK9d
namespace Go.Proofs.Ytpnlegfdkkcnlaa
open Go.RowKit
set_option linter.unusedVariables false
set_option linter.unusedSimpArgs false
def FDiscS (x0 : TPoint) (x1 : Int) : TShape := TShape.mk 1 [TEdge.mk 1 x0 x0 (TPoint.mk 0 0)] x1
def cDiscS (x0 : TPoint) (x1 : Int) : FuncId × List Av × Ef := (30, [.agg (TPoint.c x0), .one (.i x1)], .val [] (.av (.agg (TShape.c (FDiscS x0 x1)))))
set_option maxRecDepth 100000 in
theorem pDiscS (x0 : TPoint) (x1 : Int) : Pure Try.prog 30 (cDiscS x0 x1).2.1 (.av (.agg (TShape.c (FDiscS x0 x1)))) := by
  refine pure_of_awF Try.func30 rfl (by kernel_rfl) (by kernel_rfl) fun W0 M0 => ?_
  refine aw_seq ?_
  refine aw_region eqok [] [] [] [1, 2, 4] [2, 4] [] ⟨[(1, tI x1), (2, tP 2 0), (4, tP 4 0)], [(2, .cells (TPoint.c x0) 29), (4, .cells [.i 0, .val (.slice none 0 0), .i 0] 26)]⟩ .nil (by kernel_rfl) .nil ?_
  refine ath_n ?_
  refine aw_seq ?_
  refine aw_region eqok [] [] [] [4] [4] [] ⟨[(4, tP 4 0)], [(4, .cells [.i 1, .list true 7 1 (colsC 7 1 [.i 1, .i x0.X, .i x0.Y, .i x0.X, .i x0.Y, .i 0, .i 0]), .i x1] 26)]⟩ .nil (by kernel_rfl) .nil ?_
  refine ath_n ?_
  refine aw_ret ?_
  exact ⟨_, Cv.refl _, .inl rfl, .av (.agg [.i 1, .list true 7 1 (colsC 7 1 [.i 1, .i x0.X, .i x0.Y, .i x0.X, .i x0.Y, .i 0, .i 0]), .i x1]), by kernel_rfl, tve_of (y := .av (.agg [.i 1, lst 7 TEdge.c [TEdge.mk 1 x0 x0 (TPoint.mk 0 0)], .i x1])) (.av (.agg (.cons (.refl _) (.cons (cle_told true (told_lit (c := TEdge.c) (xs := ([TEdge.mk 1 x0 x0 (TPoint.mk 0 0)] : List TEdge)) rfl (by kernel_rfl))) (.cons (.refl _) .nil))))) (by rfl)⟩
theorem okDiscS (x0 : TPoint) (x1 : Int) : CallOk Try.prog (cDiscS x0 x1).1 (cDiscS x0 x1).2.1 (cDiscS x0 x1).2.2 := callOk_pure (fun _ _ => by kernel_rfl) fun _ => pDiscS x0 x1 
def FRectS (x0 : TRect) : TShape := TShape.mk 2 ((([TEdge.mk 1 (TPoint.mk x0.X0 x0.Y0) (TPoint.mk x0.X1 x0.Y0) (TPoint.mk 0 0)] ++ [TEdge.mk 1 (TPoint.mk x0.X1 x0.Y0) (TPoint.mk x0.X1 x0.Y1) (TPoint.mk 0 0)]) ++ [TEdge.mk 1 (TPoint.mk x0.X1 x0.Y1) (TPoint.mk x0.X0 x0.Y1) (TPoint.mk 0 0)]) ++ [TEdge.mk 1 (TPoint.mk x0.X0 x0.Y1) (TPoint.mk x0.X0 x0.Y0) (TPoint.mk 0 0)]) 0
def cRectS (x0 : TRect) : FuncId × List Av × Ef := (31, [.agg (TRect.c x0)], .val [] (.av (.agg (TShape.c (FRectS x0)))))
set_option maxRecDepth 100000 in
theorem pRectS (x0 : TRect) : Pure Try.prog 31 (cRectS x0).2.1 (.av (.agg (TShape.c (FRectS x0)))) := by
  refine pure_of_awF Try.func31 rfl (by kernel_rfl) (by kernel_rfl) fun W0 M0 => ?_
  refine aw_seq ?_
  refine aw_region eqok [] [] [] [1, 2] [1, 2] [] ⟨[(1, tP 1 0), (2, tP 2 0)], [(1, .cells (TRect.c x0) 54), (2, .cells [.i 0, .val (.slice none 0 0), .i 0] 26)]⟩ .nil (by kernel_rfl) .nil ?_
  refine ath_n ?_
  refine aw_seq ?_
  refine aw_region eqok [] [] [] [2, 3] [2, 3] [] ⟨[(2, tP 2 0), (3, tP 3 0)], [(2, .cells [.i 0, .val (.slice none 0 0), .i 0] 26), (3, .cells [.i x0.X0, .i x0.Y0, .i x0.X1, .i x0.Y0, .i x0.X1, .i x0.Y1, .i x0.X0, .i x0.Y1] 97)]⟩ .nil (by kernel_rfl) .nil ?_
  refine ath_n ?_
  refine aw_seq ?_
  refine aw_region eqok [] [] [] [2, 3, 4] [2, 3, 4] [] ⟨[(2, tP 2 0), (3, tP 3 0), (4, tP 4 0)], [(2, .cells [.i 0, .val (.slice none 0 0), .i 0] 26), (3, .cells [.i x0.X0, .i x0.Y0, .i x0.X1, .i x0.Y0, .i x0.X1, .i x0.Y1, .i x0.X0, .i x0.Y1] 97), (4, .cells [.i 2, .val (.slice none 0 0), .i 0] 26)]⟩ .nil (by kernel_rfl) .nil ?_
  refine ath_n ?_
  refine aw_seq ?_
  refine aw_seq ?_
  refine aw_region eqok [] [] [] [2, 3, 4, 28] [2, 3, 4] [] ⟨[(2, tP 2 0), (3, tP 3 0), (4, tP 4 0), (28, tI 0)], [(2, .cells [.i 0, .val (.slice none 0 0), .i 0] 26), (3, .cells [.i x0.X0, .i x0.Y0, .i x0.X1, .i x0.Y0, .i x0.X1, .i x0.Y1, .i x0.X0, .i x0.Y1] 97), (4, .cells [.i 2, .val (.slice none 0 0), .i 0] 26)]⟩ .nil (by kernel_rfl) .nil ?_
  refine ath_n ?_
  refine aw_block ?_
  refine aw_unroll 5 ?_
  refine aw_round ?_
  refine aw_seq ?_
  refine aw_region eqok [] [] [] [2, 3, 4, 28, 29] [2, 3, 4] [] ⟨[(2, tP 2 0), (3, tP 3 0), (4, tP 4 0), (28, tI 0), (29, tB true)], [(2, .cells [.i 0, .val (.slice none 0 0), .i 0] 26), (3, .cells [.i x0.X0, .i x0.Y0, .i x0.X1, .i x0.Y0, .i x0.X1, .i x0.Y1, .i x0.X0, .i x0.Y1] 97), (4, .cells [.i 2, .val (.slice none 0 0), .i 0] 26)]⟩ .nil (by kernel_rfl) .nil ?_
  refine ath_n ?_
  refine aw_seq ?_
  refine aw_cond_t (by kernel_rfl) ?_
  refine aw_skip ?_
  refine ath_n ?_
  refine aw_seq ?_
  refine aw_block ?_
  refine aw_seq ?_
  refine aw_region eqok [] [] [] [2, 3, 4, 5, 28] [2, 3, 4] [] ⟨[(2, tP 2 0), (3, tP 3 0), (4, tP 4 0), (5, tI 0), (28, tI 0)], [(2, .cells [.i 0, .val (.slice none 0 0), .i 0] 26), (3, .cells [.i x0.X0, .i x0.Y0, .i x0.X1, .i x0.Y0, .i x0.X1, .i x0.Y1, .i x0.X0, .i x0.Y1] 97), (4, .cells [.i 2, .val (.slice none 0 0), .i 0] 26)]⟩ .nil (by kernel_rfl) .nil ?_
  refine ath_n ?_
  refine aw_draw mixed eqok [] [] [] [2, 3, 4, 28] [2, 3, 4, 43] [0 ≤ (0 : Int) ∧ (0 : Int) < (4 : Int), (4 : Int) ≠ 0, 0 ≤ (1 : Int) ∧ (1 : Int) < (4 : Int), 1 ≤ maxLen, 1 * 56 ≤ 140737488355328] ⟨[(2, tP 2 0), (3, tP 3 0), (4, tP 4 0), (28, tI 0)], [(2, .cells [.i 0, .val (.slice none 0 0), .i 0] 26), (3, .cells [.i x0.X0, .i x0.Y0, .i x0.X1, .i x0.Y0, .i x0.X1, .i x0.Y1, .i x0.X0, .i x0.Y1] 97), (4, .cells [.i 2, .own 43 7 1, .i 0] 26), (43, .row 7 1 (colsC 7 1 [.i 1, .i x0.X0, .i x0.Y0, .i x0.X1, .i x0.Y0, .i 0, .i 0]) 35)]⟩ .nil (by kernel_rfl) (by kernel_rfl) (.cons (by decide) (.cons (by first | assumption | decide | omega) (.cons (by decide) (.cons (by first | (unfold maxLen; omega) | (unfold maxLen; simp only [List.length_append, List.length_cons, List.length_nil]; omega) | first | omega | (simp only [List.length_append, List.length_cons, List.length_nil]; omega)) (.cons (by first | (unfold maxLen; omega) | (unfold maxLen; simp only [List.length_append, List.length_cons, List.length_nil]; omega) | first | omega | (simp only [List.length_append, List.length_cons, List.length_nil]; omega)) .nil))))) ?_
  refine abl_n ?_
  refine ath_n ?_
  refine aw_cv (Cv.trans (cv_ce (⟨[(2, tP 2 0), (3, tP 3 0), (4, tP 4 0), (28, tI 0)], [(2, .cells [.i 0, .val (.slice none 0 0), .i 0] 26), (3, .cells [.i x0.X0, .i x0.Y0, .i x0.X1, .i x0.Y0, .i x0.X1, .i x0.Y1, .i x0.X0, .i x0.Y1] 97), (4, .cells [.i 2, .own 43 7 ([TEdge.mk 1 (TPoint.mk x0.X0 x0.Y0) (TPoint.mk x0.X1 x0.Y0) (TPoint.mk 0 0)].length), .i 0] 26), (43, .row 7 ([TEdge.mk 1 (TPoint.mk x0.X0 x0.Y0) (TPoint.mk x0.X1 x0.Y0) (TPoint.mk 0 0)].length) (rowF TEdge.c [TEdge.mk 1 (TPoint.mk x0.X0 x0.Y0) (TPoint.mk x0.X1 x0.Y0) (TPoint.mk 0 0)]) 35)]⟩) (.cons ⟨rfl, .refl _⟩ (.cons ⟨rfl, .refl _⟩ (.cons ⟨rfl, .refl _⟩ (.cons ⟨rfl, .refl _⟩ .nil)))) (.cons ⟨rfl, .refl _⟩ (.cons ⟨rfl, .refl _⟩ (.cons ⟨rfl, .cells _ (.cons (.refl _) (.cons (.own _ _ (by first | (simp; done) | (simp; omega))) (.cons (.refl _) .nil)))⟩ (.cons ⟨rfl, bke_told 35 (told_lit (c := TEdge.c) (xs := ([TEdge.mk 1 (TPoint.mk x0.X0 x0.Y0) (TPoint.mk x0.X1 x0.Y0) (TPoint.mk 0 0)] : List TEdge)) rfl (by kernel_rfl))⟩ .nil))))) (Cv.refl _)) ?_
  refine aw_region eqok [] [] [] [2, 3, 4, 28] [2, 3, 4, 43] [] ⟨[(2, tP 2 0), (3, tP 3 0), (4, tP 4 0), (28, tI 1)], [(2, .cells [.i 0, .val (.slice none 0 0), .i 0] 26), (3, .cells [.i x0.X0, .i x0.Y0, .i x0.X1, .i x0.Y0, .i x0.X1, .i x0.Y1, .i x0.X0, .i x0.Y1] 97), (4, .cells [.i 2, .own 43 7 ([TEdge.mk 1 (TPoint.mk x0.X0 x0.Y0) (TPoint.mk x0.X1 x0.Y0) (TPoint.mk 0 0)].length), .i 0] 26), (43, .row 7 ([TEdge.mk 1 (TPoint.mk x0.X0 x0.Y0) (TPoint.mk x0.X1 x0.Y0) (TPoint.mk 0 0)].length) (rowF TEdge.c [TEdge.mk 1 (TPoint.mk x0.X0 x0.Y0) (TPoint.mk x0.X1 x0.Y0) (TPoint.mk 0 0)]) 35)]⟩ .nil (by kernel_rfl) .nil ?_
  refine ath_n ?_
  refine aw_round ?_
  refine aw_cv (Cv.trans (cv_ren (⟨[(2, tP 2 0), (3, tP 3 0), (4, tP 4 0), (28, tI 1)], [(2, .cells [.i 0, .val (.slice none 0 0), .i 0] 26), (3, .cells [.i x0.X0, .i x0.Y0, .i x0.X1, .i x0.Y0, .i x0.X1, .i x0.Y1, .i x0.X0, .i x0.Y1] 97), (4, .cells [.i 2, .own 100000 7 ([TEdge.mk 1 (TPoint.mk x0.X0 x0.Y0) (TPoint.mk x0.X1 x0.Y0) (TPoint.mk 0 0)].length), .i 0] 26), (100000, .row 7 ([TEdge.mk 1 (TPoint.mk x0.X0 x0.Y0) (TPoint.mk x0.X1 x0.Y0) (TPoint.mk 0 0)].length) (rowF TEdge.c [TEdge.mk 1 (TPoint.mk x0.X0 x0.Y0) (TPoint.mk x0.X1 x0.Y0) (TPoint.mk 0 0)]) 35)]⟩) 43 100000 (K := none) (fun k x h => by cases h) rfl rfl (by kernel_rfl) (by kernel_rfl)) (Cv.refl _)) ?_
  refine aw_seq ?_
  refine aw_region eqok [] [] [] [2, 3, 4, 28, 29] [2, 3, 4, 100000] [] ⟨[(2, tP 2 0), (3, tP 3 0), (4, tP 4 0), (28, tI 1), (29, tB true)], [(2, .cells [.i 0, .val (.slice none 0 0), .i 0] 26), (3, .cells [.i x0.X0, .i x0.Y0, .i x0.X1, .i x0.Y0, .i x0.X1, .i x0.Y1, .i x0.X0, .i x0.Y1] 97), (4, .cells [.i 2, .own 100000 7 ([TEdge.mk 1 (TPoint.mk x0.X0 x0.Y0) (TPoint.mk x0.X1 x0.Y0) (TPoint.mk 0 0)].length), .i 0] 26), (100000, .row 7 ([TEdge.mk 1 (TPoint.mk x0.X0 x0.Y0) (TPoint.mk x0.X1 x0.Y0) (TPoint.mk 0 0)].length) (rowF TEdge.c [TEdge.mk 1 (TPoint.mk x0.X0 x0.Y0) (TPoint.mk x0.X1 x0.Y0) (TPoint.mk 0 0)]) 35)]⟩ .nil (by kernel_rfl) .nil ?_
  refine ath_n ?_
  refine aw_seq ?_
  refine aw_cond_t (by kernel_rfl) ?_
  refine aw_skip ?_
  refine ath_n ?_
  refine aw_seq ?_
  refine aw_block ?_
  refine aw_seq ?_
  refine aw_region eqok [] [] [] [2, 3, 4, 5, 28] [2, 3, 4, 100000] [] ⟨[(2, tP 2 0), (3, tP 3 0), (4, tP 4 0), (5, tI 1), (28, tI 1)], [(2, .cells [.i 0, .val (.slice none 0 0), .i 0] 26), (3, .cells [.i x0.X0, .i x0.Y0, .i x0.X1, .i x0.Y0, .i x0.X1, .i x0.Y1, .i x0.X0, .i x0.Y1] 97), (4, .cells [.i 2, .own 100000 7 ([TEdge.mk 1 (TPoint.mk x0.X0 x0.Y0) (TPoint.mk x0.X1 x0.Y0) (TPoint.mk 0 0)].length), .i 0] 26), (100000, .row 7 ([TEdge.mk 1 (TPoint.mk x0.X0 x0.Y0) (TPoint.mk x0.X1 x0.Y0) (TPoint.mk 0 0)].length) (rowF TEdge.c [TEdge.mk 1 (TPoint.mk x0.X0 x0.Y0) (TPoint.mk x0.X1 x0.Y0) (TPoint.mk 0 0)]) 35)]⟩ .nil (by kernel_rfl) .nil ?_
  refine ath_n ?_
  refine aw_draw mixed eqok [] [] [] [2, 3, 4, 28] [2, 3, 4, 43] [0 ≤ (1 : Int) ∧ (1 : Int) < (4 : Int), (4 : Int) ≠ 0, 0 ≤ (2 : Int) ∧ (2 : Int) < (4 : Int), [TEdge.mk 1 (TPoint.mk x0.X0 x0.Y0) (TPoint.mk x0.X1 x0.Y0) (TPoint.mk 0 0)].length = [TEdge.mk 1 (TPoint.mk x0.X0 x0.Y0) (TPoint.mk x0.X1 x0.Y0) (TPoint.mk 0 0)].length, ([TEdge.mk 1 (TPoint.mk x0.X0 x0.Y0) (TPoint.mk x0.X1 x0.Y0) (TPoint.mk 0 0)].length) + 1 ≤ maxLen, (([TEdge.mk 1 (TPoint.mk x0.X0 x0.Y0) (TPoint.mk x0.X1 x0.Y0) (TPoint.mk 0 0)].length) + 1) * 56 ≤ 140737488355328] ⟨[(2, tP 2 0), (3, tP 3 0), (4, tP 4 0), (28, tI 1)], [(2, .cells [.i 0, .val (.slice none 0 0), .i 0] 26), (3, .cells [.i x0.X0, .i x0.Y0, .i x0.X1, .i x0.Y0, .i x0.X1, .i x0.Y1, .i x0.X0, .i x0.Y1] 97), (4, .cells [.i 2, .own 43 7 (([TEdge.mk 1 (TPoint.mk x0.X0 x0.Y0) (TPoint.mk x0.X1 x0.Y0) (TPoint.mk 0 0)].length) + 1), .i 0] 26), (43, .row 7 (([TEdge.mk 1 (TPoint.mk x0.X0 x0.Y0) (TPoint.mk x0.X1 x0.Y0) (TPoint.mk 0 0)].length) + 1) (fun i j => if i < ([TEdge.mk 1 (TPoint.mk x0.X0 x0.Y0) (TPoint.mk x0.X1 x0.Y0) (TPoint.mk 0 0)].length) then (rowF TEdge.c [TEdge.mk 1 (TPoint.mk x0.X0 x0.Y0) (TPoint.mk x0.X1 x0.Y0) (TPoint.mk 0 0)]) i j else (colsC 7 1 [.i 1, .i x0.X1, .i x0.Y0, .i x0.X1, .i x0.Y1, .i 0, .i 0]) (i - ([TEdge.mk 1 (TPoint.mk x0.X0 x0.Y0) (TPoint.mk x0.X1 x0.Y0) (TPoint.mk 0 0)].length)) j) 35)]⟩ .nil (by kernel_rfl) (by kernel_rfl) (.cons (by decide) (.cons (by first | assumption | decide | omega) (.cons (by decide) (.cons rfl (.cons (by first | (unfold maxLen; omega) | (unfold maxLen; simp only [List.length_append, List.length_cons, List.length_nil]; omega) | first | omega | (simp only [List.length_append, List.length_cons, List.length_nil]; omega)) (.cons (by first | (unfold maxLen; omega) | (unfold maxLen; simp only [List.length_append, List.length_cons, List.length_nil]; omega) | first | omega | (simp only [List.length_append, List.length_cons, List.length_nil]; omega)) .nil)))))) ?_
  refine abl_n ?_
  refine ath_n ?_
  refine aw_cv (Cv.trans (cv_ce (⟨[(2, tP 2 0), (3, tP 3 0), (4, tP 4 0), (28, tI 1)], [(2, .cells [.i 0, .val (.slice none 0 0), .i 0] 26), (3, .cells [.i x0.X0, .i x0.Y0, .i x0.X1, .i x0.Y0, .i x0.X1, .i x0.Y1, .i x0.X0, .i x0.Y1] 97), (4, .cells [.i 2, .own 43 7 (([TEdge.mk 1 (TPoint.mk x0.X0 x0.Y0) (TPoint.mk x0.X1 x0.Y0) (TPoint.mk 0 0)] ++ [TEdge.mk 1 (TPoint.mk x0.X1 x0.Y0) (TPoint.mk x0.X1 x0.Y1) (TPoint.mk 0 0)]).length), .i 0] 26), (43, .row 7 (([TEdge.mk 1 (TPoint.mk x0.X0 x0.Y0) (TPoint.mk x0.X1 x0.Y0) (TPoint.mk 0 0)] ++ [TEdge.mk 1 (TPoint.mk x0.X1 x0.Y0) (TPoint.mk x0.X1 x0.Y1) (TPoint.mk 0 0)]).length) (rowF TEdge.c ([TEdge.mk 1 (TPoint.mk x0.X0 x0.Y0) (TPoint.mk x0.X1 x0.Y0) (TPoint.mk 0 0)] ++ [TEdge.mk 1 (TPoint.mk x0.X1 x0.Y0) (TPoint.mk x0.X1 x0.Y1) (TPoint.mk 0 0)])) 35)]⟩) (.cons ⟨rfl, .refl _⟩ (.cons ⟨rfl, .refl _⟩ (.cons ⟨rfl, .refl _⟩ (.cons ⟨rfl, .refl _⟩ .nil)))) (.cons ⟨rfl, .refl _⟩ (.cons ⟨rfl, .refl _⟩ (.cons ⟨rfl, .cells _ (.cons (.refl _) (.cons (.own _ _ (by first | (simp; done) | (simp; omega))) (.cons (.refl _) .nil)))⟩ (.cons ⟨rfl, bke_told 35 (told_app (told_rfl 7 TEdge.c [TEdge.mk 1 (TPoint.mk x0.X0 x0.Y0) (TPoint.mk x0.X1 x0.Y0) (TPoint.mk 0 0)]) (told_lit (c := TEdge.c) (xs := ([TEdge.mk 1 (TPoint.mk x0.X1 x0.Y0) (TPoint.mk x0.X1 x0.Y1) (TPoint.mk 0 0)] : List TEdge)) rfl (by kernel_rfl)))⟩ .nil))))) (Cv.refl _)) ?_
  refine aw_region eqok [] [] [] [2, 3, 4, 28] [2, 3, 4, 43] [] ⟨[(2, tP 2 0), (3, tP 3 0), (4, tP 4 0), (28, tI 2)], [(2, .cells [.i 0, .val (.slice none 0 0), .i 0] 26), (3, .cells [.i x0.X0, .i x0.Y0, .i x0.X1, .i x0.Y0, .i x0.X1, .i x0.Y1, .i x0.X0, .i x0.Y1] 97), (4, .cells [.i 2, .own 43 7 (([TEdge.mk 1 (TPoint.mk x0.X0 x0.Y0) (TPoint.mk x0.X1 x0.Y0) (TPoint.mk 0 0)] ++ [TEdge.mk 1 (TPoint.mk x0.X1 x0.Y0) (TPoint.mk x0.X1 x0.Y1) (TPoint.mk 0 0)]).length), .i 0] 26), (43, .row 7 (([TEdge.mk 1 (TPoint.mk x0.X0 x0.Y0) (TPoint.mk x0.X1 x0.Y0) (TPoint.mk 0 0)] ++ [TEdge.mk 1 (TPoint.mk x0.X1 x0.Y0) (TPoint.mk x0.X1 x0.Y1) (TPoint.mk 0 0)]).length) (rowF TEdge.c ([TEdge.mk 1 (TPoint.mk x0.X0 x0.Y0) (TPoint.mk x0.X1 x0.Y0) (TPoint.mk 0 0)] ++ [TEdge.mk 1 (TPoint.mk x0.X1 x0.Y0) (TPoint.mk x0.X1 x0.Y1) (TPoint.mk 0 0)])) 35)]⟩ .nil (by kernel_rfl) .nil ?_
  refine ath_n ?_
  refine aw_round ?_
  refine aw_cv (Cv.trans (cv_ren (⟨[(2, tP 2 0), (3, tP 3 0), (4, tP 4 0), (28, tI 2)], [(2, .cells [.i 0, .val (.slice none 0 0), .i 0] 26), (3, .cells [.i x0.X0, .i x0.Y0, .i x0.X1, .i x0.Y0, .i x0.X1, .i x0.Y1, .i x0.X0, .i x0.Y1] 97), (4, .cells [.i 2, .own 100001 7 (([TEdge.mk 1 (TPoint.mk x0.X0 x0.Y0) (TPoint.mk x0.X1 x0.Y0) (TPoint.mk 0 0)] ++ [TEdge.mk 1 (TPoint.mk x0.X1 x0.Y0) (TPoint.mk x0.X1 x0.Y1) (TPoint.mk 0 0)]).length), .i 0] 26), (100001, .row 7 (([TEdge.mk 1 (TPoint.mk x0.X0 x0.Y0) (TPoint.mk x0.X1 x0.Y0) (TPoint.mk 0 0)] ++ [TEdge.mk 1 (TPoint.mk x0.X1 x0.Y0) (TPoint.mk x0.X1 x0.Y1) (TPoint.mk 0 0)]).length) (rowF TEdge.c ([TEdge.mk 1 (TPoint.mk x0.X0 x0.Y0) (TPoint.mk x0.X1 x0.Y0) (TPoint.mk 0 0)] ++ [TEdge.mk 1 (TPoint.mk x0.X1 x0.Y0) (TPoint.mk x0.X1 x0.Y1) (TPoint.mk 0 0)])) 35)]⟩) 43 100001 (K := none) (fun k x h => by cases h) rfl rfl (by kernel_rfl) (by kernel_rfl)) (Cv.refl _)) ?_
  refine aw_seq ?_
  refine aw_region eqok [] [] [] [2, 3, 4, 28, 29] [2, 3, 4, 100001] [] ⟨[(2, tP 2 0), (3, tP 3 0), (4, tP 4 0), (28, tI 2), (29, tB true)], [(2, .cells [.i 0, .val (.slice none 0 0), .i 0] 26), (3, .cells [.i x0.X0, .i x0.Y0, .i x0.X1, .i x0.Y0, .i x0.X1, .i x0.Y1, .i x0.X0, .i x0.Y1] 97), (4, .cells [.i 2, .own 100001 7 (([TEdge.mk 1 (TPoint.mk x0.X0 x0.Y0) (TPoint.mk x0.X1 x0.Y0) (TPoint.mk 0 0)] ++ [TEdge.mk 1 (TPoint.mk x0.X1 x0.Y0) (TPoint.mk x0.X1 x0.Y1) (TPoint.mk 0 0)]).length), .i 0] 26), (100001, .row 7 (([TEdge.mk 1 (TPoint.mk x0.X0 x0.Y0) (TPoint.mk x0.X1 x0.Y0) (TPoint.mk 0 0)] ++ [TEdge.mk 1 (TPoint.mk x0.X1 x0.Y0) (TPoint.mk x0.X1 x0.Y1) (TPoint.mk 0 0)]).length) (rowF TEdge.c ([TEdge.mk 1 (TPoint.mk x0.X0 x0.Y0) (TPoint.mk x0.X1 x0.Y0) (TPoint.mk 0 0)] ++ [TEdge.mk 1 (TPoint.mk x0.X1 x0.Y0) (TPoint.mk x0.X1 x0.Y1) (TPoint.mk 0 0)])) 35)]⟩ .nil (by kernel_rfl) .nil ?_
  refine ath_n ?_
  refine aw_seq ?_
  refine aw_cond_t (by kernel_rfl) ?_
  refine aw_skip ?_
  refine ath_n ?_
  refine aw_seq ?_
  refine aw_block ?_
  refine aw_seq ?_
  refine aw_region eqok [] [] [] [2, 3, 4, 5, 28] [2, 3, 4, 100001] [] ⟨[(2, tP 2 0), (3, tP 3 0), (4, tP 4 0), (5, tI 2), (28, tI 2)], [(2, .cells [.i 0, .val (.slice none 0 0), .i 0] 26), (3, .cells [.i x0.X0, .i x0.Y0, .i x0.X1, .i x0.Y0, .i x0.X1, .i x0.Y1, .i x0.X0, .i x0.Y1] 97), (4, .cells [.i 2, .own 100001 7 (([TEdge.mk 1 (TPoint.mk x0.X0 x0.Y0) (TPoint.mk x0.X1 x0.Y0) (TPoint.mk 0 0)] ++ [TEdge.mk 1 (TPoint.mk x0.X1 x0.Y0) (TPoint.mk x0.X1 x0.Y1) (TPoint.mk 0 0)]).length), .i 0] 26), (100001, .row 7 (([TEdge.mk 1 (TPoint.mk x0.X0 x0.Y0) (TPoint.mk x0.X1 x0.Y0) (TPoint.mk 0 0)] ++ [TEdge.mk 1 (TPoint.mk x0.X1 x0.Y0) (TPoint.mk x0.X1 x0.Y1) (TPoint.mk 0 0)]).length) (rowF TEdge.c ([TEdge.mk 1 (TPoint.mk x0.X0 x0.Y0) (TPoint.mk x0.X1 x0.Y0) (TPoint.mk 0 0)] ++ [TEdge.mk 1 (TPoint.mk x0.X1 x0.Y0) (TPoint.mk x0.X1 x0.Y1) (TPoint.mk 0 0)])) 35)]⟩ .nil (by kernel_rfl) .nil ?_
  refine ath_n ?_
  refine aw_draw mixed eqok [] [] [] [2, 3, 4, 28] [2, 3, 4, 43] [0 ≤ (2 : Int) ∧ (2 : Int) < (4 : Int), (4 : Int) ≠ 0, 0 ≤ (3 : Int) ∧ (3 : Int) < (4 : Int), ([TEdge.mk 1 (TPoint.mk x0.X0 x0.Y0) (TPoint.mk x0.X1 x0.Y0) (TPoint.mk 0 0)] ++ [TEdge.mk 1 (TPoint.mk x0.X1 x0.Y0) (TPoint.mk x0.X1 x0.Y1) (TPoint.mk 0 0)]).length = ([TEdge.mk 1 (TPoint.mk x0.X0 x0.Y0) (TPoint.mk x0.X1 x0.Y0) (TPoint.mk 0 0)] ++ [TEdge.mk 1 (TPoint.mk x0.X1 x0.Y0) (TPoint.mk x0.X1 x0.Y1) (TPoint.mk 0 0)]).length, (([TEdge.mk 1 (TPoint.mk x0.X0 x0.Y0) (TPoint.mk x0.X1 x0.Y0) (TPoint.mk 0 0)] ++ [TEdge.mk 1 (TPoint.mk x0.X1 x0.Y0) (TPoint.mk x0.X1 x0.Y1) (TPoint.mk 0 0)]).length) + 1 ≤ maxLen, ((([TEdge.mk 1 (TPoint.mk x0.X0 x0.Y0) (TPoint.mk x0.X1 x0.Y0) (TPoint.mk 0 0)] ++ [TEdge.mk 1 (TPoint.mk x0.X1 x0.Y0) (TPoint.mk x0.X1 x0.Y1) (TPoint.mk 0 0)]).length) + 1) * 56 ≤ 140737488355328] ⟨[(2, tP 2 0), (3, tP 3 0), (4, tP 4 0), (28, tI 2)], [(2, .cells [.i 0, .val (.slice none 0 0), .i 0] 26), (3, .cells [.i x0.X0, .i x0.Y0, .i x0.X1, .i x0.Y0, .i x0.X1, .i x0.Y1, .i x0.X0, .i x0.Y1] 97), (4, .cells [.i 2, .own 43 7 ((([TEdge.mk 1 (TPoint.mk x0.X0 x0.Y0) (TPoint.mk x0.X1 x0.Y0) (TPoint.mk 0 0)] ++ [TEdge.mk 1 (TPoint.mk x0.X1 x0.Y0) (TPoint.mk x0.X1 x0.Y1) (TPoint.mk 0 0)]).length) + 1), .i 0] 26), (43, .row 7 ((([TEdge.mk 1 (TPoint.mk x0.X0 x0.Y0) (TPoint.mk x0.X1 x0.Y0) (TPoint.mk 0 0)] ++ [TEdge.mk 1 (TPoint.mk x0.X1 x0.Y0) (TPoint.mk x0.X1 x0.Y1) (TPoint.mk 0 0)]).length) + 1) (fun i j => if i < (([TEdge.mk 1 (TPoint.mk x0.X0 x0.Y0) (TPoint.mk x0.X1 x0.Y0) (TPoint.mk 0 0)] ++ [TEdge.mk 1 (TPoint.mk x0.X1 x0.Y0) (TPoint.mk x0.X1 x0.Y1) (TPoint.mk 0 0)]).length) then (rowF TEdge.c ([TEdge.mk 1 (TPoint.mk x0.X0 x0.Y0) (TPoint.mk x0.X1 x0.Y0) (TPoint.mk 0 0)] ++ [TEdge.mk 1 (TPoint.mk x0.X1 x0.Y0) (TPoint.mk x0.X1 x0.Y1) (TPoint.mk 0 0)])) i j else (colsC 7 1 [.i 1, .i x0.X1, .i x0.Y1, .i x0.X0, .i x0.Y1, .i 0, .i 0]) (i - (([TEdge.mk 1 (TPoint.mk x0.X0 x0.Y0) (TPoint.mk x0.X1 x0.Y0) (TPoint.mk 0 0)] ++ [TEdge.mk 1 (TPoint.mk x0.X1 x0.Y0) (TPoint.mk x0.X1 x0.Y1) (TPoint.mk 0 0)]).length)) j) 35)]⟩ .nil (by kernel_rfl) (by kernel_rfl) (.cons (by decide) (.cons (by first | assumption | decide | omega) (.cons (by decide) (.cons rfl (.cons (by first | (unfold maxLen; omega) | (unfold maxLen; simp only [List.length_append, List.length_cons, List.length_nil]; omega) | first | omega | (simp only [List.length_append, List.length_cons, List.length_nil]; omega)) (.cons (by first | (unfold maxLen; omega) | (unfold maxLen; simp only [List.length_append, List.length_cons, List.length_nil]; omega) | first | omega | (simp only [List.length_append, List.length_cons, List.length_nil]; omega)) .nil)))))) ?_
  refine abl_n ?_
  refine ath_n ?_
  refine aw_cv (Cv.trans (cv_ce (⟨[(2, tP 2 0), (3, tP 3 0), (4, tP 4 0), (28, tI 2)], [(2, .cells [.i 0, .val (.slice none 0 0), .i 0] 26), (3, .cells [.i x0.X0, .i x0.Y0, .i x0.X1, .i x0.Y0, .i x0.X1, .i x0.Y1, .i x0.X0, .i x0.Y1] 97), (4, .cells [.i 2, .own 43 7 ((([TEdge.mk 1 (TPoint.mk x0.X0 x0.Y0) (TPoint.mk x0.X1 x0.Y0) (TPoint.mk 0 0)] ++ [TEdge.mk 1 (TPoint.mk x0.X1 x0.Y0) (TPoint.mk x0.X1 x0.Y1) (TPoint.mk 0 0)]) ++ [TEdge.mk 1 (TPoint.mk x0.X1 x0.Y1) (TPoint.mk x0.X0 x0.Y1) (TPoint.mk 0 0)]).length), .i 0] 26), (43, .row 7 ((([TEdge.mk 1 (TPoint.mk x0.X0 x0.Y0) (TPoint.mk x0.X1 x0.Y0) (TPoint.mk 0 0)] ++ [TEdge.mk 1 (TPoint.mk x0.X1 x0.Y0) (TPoint.mk x0.X1 x0.Y1) (TPoint.mk 0 0)]) ++ [TEdge.mk 1 (TPoint.mk x0.X1 x0.Y1) (TPoint.mk x0.X0 x0.Y1) (TPoint.mk 0 0)]).length) (rowF TEdge.c (([TEdge.mk 1 (TPoint.mk x0.X0 x0.Y0) (TPoint.mk x0.X1 x0.Y0) (TPoint.mk 0 0)] ++ [TEdge.mk 1 (TPoint.mk x0.X1 x0.Y0) (TPoint.mk x0.X1 x0.Y1) (TPoint.mk 0 0)]) ++ [TEdge.mk 1 (TPoint.mk x0.X1 x0.Y1) (TPoint.mk x0.X0 x0.Y1) (TPoint.mk 0 0)])) 35)]⟩) (.cons ⟨rfl, .refl _⟩ (.cons ⟨rfl, .refl _⟩ (.cons ⟨rfl, .refl _⟩ (.cons ⟨rfl, .refl _⟩ .nil)))) (.cons ⟨rfl, .refl _⟩ (.cons ⟨rfl, .refl _⟩ (.cons ⟨rfl, .cells _ (.cons (.refl _) (.cons (.own _ _ (by first | (simp; done) | (simp; omega))) (.cons (.refl _) .nil)))⟩ (.cons ⟨rfl, bke_told 35 (told_app (told_rfl 7 TEdge.c ([TEdge.mk 1 (TPoint.mk x0.X0 x0.Y0) (TPoint.mk x0.X1 x0.Y0) (TPoint.mk 0 0)] ++ [TEdge.mk 1 (TPoint.mk x0.X1 x0.Y0) (TPoint.mk x0.X1 x0.Y1) (TPoint.mk 0 0)])) (told_lit (c := TEdge.c) (xs := ([TEdge.mk 1 (TPoint.mk x0.X1 x0.Y1) (TPoint.mk x0.X0 x0.Y1) (TPoint.mk 0 0)] : List TEdge)) rfl (by kernel_rfl)))⟩ .nil))))) (Cv.refl _)) ?_
  refine aw_region eqok [] [] [] [2, 3, 4, 28] [2, 3, 4, 43] [] ⟨[(2, tP 2 0), (3, tP 3 0), (4, tP 4 0), (28, tI 3)], [(2, .cells [.i 0, .val (.slice none 0 0), .i 0] 26), (3, .cells [.i x0.X0, .i x0.Y0, .i x0.X1, .i x0.Y0, .i x0.X1, .i x0.Y1, .i x0.X0, .i x0.Y1] 97), (4, .cells [.i 2, .own 43 7 ((([TEdge.mk 1 (TPoint.mk x0.X0 x0.Y0) (TPoint.mk x0.X1 x0.Y0) (TPoint.mk 0 0)] ++ [TEdge.mk 1 (TPoint.mk x0.X1 x0.Y0) (TPoint.mk x0.X1 x0.Y1) (TPoint.mk 0 0)]) ++ [TEdge.mk 1 (TPoint.mk x0.X1 x0.Y1) (TPoint.mk x0.X0 x0.Y1) (TPoint.mk 0 0)]).length), .i 0] 26), (43, .row 7 ((([TEdge.mk 1 (TPoint.mk x0.X0 x0.Y0) (TPoint.mk x0.X1 x0.Y0) (TPoint.mk 0 0)] ++ [TEdge.mk 1 (TPoint.mk x0.X1 x0.Y0) (TPoint.mk x0.X1 x0.Y1) (TPoint.mk 0 0)]) ++ [TEdge.mk 1 (TPoint.mk x0.X1 x0.Y1) (TPoint.mk x0.X0 x0.Y1) (TPoint.mk 0 0)]).length) (rowF TEdge.c (([TEdge.mk 1 (TPoint.mk x0.X0 x0.Y0) (TPoint.mk x0.X1 x0.Y0) (TPoint.mk 0 0)] ++ [TEdge.mk 1 (TPoint.mk x0.X1 x0.Y0) (TPoint.mk x0.X1 x0.Y1) (TPoint.mk 0 0)]) ++ [TEdge.mk 1 (TPoint.mk x0.X1 x0.Y1) (TPoint.mk x0.X0 x0.Y1) (TPoint.mk 0 0)])) 35)]⟩ .nil (by kernel_rfl) .nil ?_
  refine ath_n ?_
  refine aw_round ?_
  refine aw_cv (Cv.trans (cv_ren (⟨[(2, tP 2 0), (3, tP 3 0), (4, tP 4 0), (28, tI 3)], [(2, .cells [.i 0, .val (.slice none 0 0), .i 0] 26), (3, .cells [.i x0.X0, .i x0.Y0, .i x0.X1, .i x0.Y0, .i x0.X1, .i x0.Y1, .i x0.X0, .i x0.Y1] 97), (4, .cells [.i 2, .own 100002 7 ((([TEdge.mk 1 (TPoint.mk x0.X0 x0.Y0) (TPoint.mk x0.X1 x0.Y0) (TPoint.mk 0 0)] ++ [TEdge.mk 1 (TPoint.mk x0.X1 x0.Y0) (TPoint.mk x0.X1 x0.Y1) (TPoint.mk 0 0)]) ++ [TEdge.mk 1 (TPoint.mk x0.X1 x0.Y1) (TPoint.mk x0.X0 x0.Y1) (TPoint.mk 0 0)]).length), .i 0] 26), (100002, .row 7 ((([TEdge.mk 1 (TPoint.mk x0.X0 x0.Y0) (TPoint.mk x0.X1 x0.Y0) (TPoint.mk 0 0)] ++ [TEdge.mk 1 (TPoint.mk x0.X1 x0.Y0) (TPoint.mk x0.X1 x0.Y1) (TPoint.mk 0 0)]) ++ [TEdge.mk 1 (TPoint.mk x0.X1 x0.Y1) (TPoint.mk x0.X0 x0.Y1) (TPoint.mk 0 0)]).length) (rowF TEdge.c (([TEdge.mk 1 (TPoint.mk x0.X0 x0.Y0) (TPoint.mk x0.X1 x0.Y0) (TPoint.mk 0 0)] ++ [TEdge.mk 1 (TPoint.mk x0.X1 x0.Y0) (TPoint.mk x0.X1 x0.Y1) (TPoint.mk 0 0)]) ++ [TEdge.mk 1 (TPoint.mk x0.X1 x0.Y1) (TPoint.mk x0.X0 x0.Y1) (TPoint.mk 0 0)])) 35)]⟩) 43 100002 (K := none) (fun k x h => by cases h) rfl rfl (by kernel_rfl) (by kernel_rfl)) (Cv.refl _)) ?_
  refine aw_seq ?_
  refine aw_region eqok [] [] [] [2, 3, 4, 28, 29] [2, 3, 4, 100002] [] ⟨[(2, tP 2 0), (3, tP 3 0), (4, tP 4 0), (28, tI 3), (29, tB true)], [(2, .cells [.i 0, .val (.slice none 0 0), .i 0] 26), (3, .cells [.i x0.X0, .i x0.Y0, .i x0.X1, .i x0.Y0, .i x0.X1, .i x0.Y1, .i x0.X0, .i x0.Y1] 97), (4, .cells [.i 2, .own 100002 7 ((([TEdge.mk 1 (TPoint.mk x0.X0 x0.Y0) (TPoint.mk x0.X1 x0.Y0) (TPoint.mk 0 0)] ++ [TEdge.mk 1 (TPoint.mk x0.X1 x0.Y0) (TPoint.mk x0.X1 x0.Y1) (TPoint.mk 0 0)]) ++ [TEdge.mk 1 (TPoint.mk x0.X1 x0.Y1) (TPoint.mk x0.X0 x0.Y1) (TPoint.mk 0 0)]).length), .i 0] 26), (100002, .row 7 ((([TEdge.mk 1 (TPoint.mk x0.X0 x0.Y0) (TPoint.mk x0.X1 x0.Y0) (TPoint.mk 0 0)] ++ [TEdge.mk 1 (TPoint.mk x0.X1 x0.Y0) (TPoint.mk x0.X1 x0.Y1) (TPoint.mk 0 0)]) ++ [TEdge.mk 1 (TPoint.mk x0.X1 x0.Y1) (TPoint.mk x0.X0 x0.Y1) (TPoint.mk 0 0)]).length) (rowF TEdge.c (([TEdge.mk 1 (TPoint.mk x0.X0 x0.Y0) (TPoint.mk x0.X1 x0.Y0) (TPoint.mk 0 0)] ++ [TEdge.mk 1 (TPoint.mk x0.X1 x0.Y0) (TPoint.mk x0.X1 x0.Y1) (TPoint.mk 0 0)]) ++ [TEdge.mk 1 (TPoint.mk x0.X1 x0.Y1) (TPoint.mk x0.X0 x0.Y1) (TPoint.mk 0 0)])) 35)]⟩ .nil (by kernel_rfl) .nil ?_
  refine ath_n ?_
  refine aw_seq ?_
  refine aw_cond_t (by kernel_rfl) ?_
  refine aw_skip ?_
  refine ath_n ?_
  refine aw_seq ?_
  refine aw_block ?_
  refine aw_seq ?_
  refine aw_region eqok [] [] [] [2, 3, 4, 5, 28] [2, 3, 4, 100002] [] ⟨[(2, tP 2 0), (3, tP 3 0), (4, tP 4 0), (5, tI 3), (28, tI 3)], [(2, .cells [.i 0, .val (.slice none 0 0), .i 0] 26), (3, .cells [.i x0.X0, .i x0.Y0, .i x0.X1, .i x0.Y0, .i x0.X1, .i x0.Y1, .i x0.X0, .i x0.Y1] 97), (4, .cells [.i 2, .own 100002 7 ((([TEdge.mk 1 (TPoint.mk x0.X0 x0.Y0) (TPoint.mk x0.X1 x0.Y0) (TPoint.mk 0 0)] ++ [TEdge.mk 1 (TPoint.mk x0.X1 x0.Y0) (TPoint.mk x0.X1 x0.Y1) (TPoint.mk 0 0)]) ++ [TEdge.mk 1 (TPoint.mk x0.X1 x0.Y1) (TPoint.mk x0.X0 x0.Y1) (TPoint.mk 0 0)]).length), .i 0] 26), (100002, .row 7 ((([TEdge.mk 1 (TPoint.mk x0.X0 x0.Y0) (TPoint.mk x0.X1 x0.Y0) (TPoint.mk 0 0)] ++ [TEdge.mk 1 (TPoint.mk x0.X1 x0.Y0) (TPoint.mk x0.X1 x0.Y1) (TPoint.mk 0 0)]) ++ [TEdge.mk 1 (TPoint.mk x0.X1 x0.Y1) (TPoint.mk x0.X0 x0.Y1) (TPoint.mk 0 0)]).length) (rowF TEdge.c (([TEdge.mk 1 (TPoint.mk x0.X0 x0.Y0) (TPoint.mk x0.X1 x0.Y0) (TPoint.mk 0 0)] ++ [TEdge.mk 1 (TPoint.mk x0.X1 x0.Y0) (TPoint.mk x0.X1 x0.Y1) (TPoint.mk 0 0)]) ++ [TEdge.mk 1 (TPoint.mk x0.X1 x0.Y1) (TPoint.mk x0.X0 x0.Y1) (TPoint.mk 0 0)])) 35)]⟩ .nil (by kernel_rfl) .nil ?_
  refine ath_n ?_
  refine aw_draw mixed eqok [] [] [] [2, 3, 4, 28] [2, 3, 4, 43] [0 ≤ (3 : Int) ∧ (3 : Int) < (4 : Int), (4 : Int) ≠ 0, 0 ≤ (0 : Int) ∧ (0 : Int) < (4 : Int), (([TEdge.mk 1 (TPoint.mk x0.X0 x0.Y0) (TPoint.mk x0.X1 x0.Y0) (TPoint.mk 0 0)] ++ [TEdge.mk 1 (TPoint.mk x0.X1 x0.Y0) (TPoint.mk x0.X1 x0.Y1) (TPoint.mk 0 0)]) ++ [TEdge.mk 1 (TPoint.mk x0.X1 x0.Y1) (TPoint.mk x0.X0 x0.Y1) (TPoint.mk 0 0)]).length = (([TEdge.mk 1 (TPoint.mk x0.X0 x0.Y0) (TPoint.mk x0.X1 x0.Y0) (TPoint.mk 0 0)] ++ [TEdge.mk 1 (TPoint.mk x0.X1 x0.Y0) (TPoint.mk x0.X1 x0.Y1) (TPoint.mk 0 0)]) ++ [TEdge.mk 1 (TPoint.mk x0.X1 x0.Y1) (TPoint.mk x0.X0 x0.Y1) (TPoint.mk 0 0)]).length, ((([TEdge.mk 1 (TPoint.mk x0.X0 x0.Y0) (TPoint.mk x0.X1 x0.Y0) (TPoint.mk 0 0)] ++ [TEdge.mk 1 (TPoint.mk x0.X1 x0.Y0) (TPoint.mk x0.X1 x0.Y1) (TPoint.mk 0 0)]) ++ [TEdge.mk 1 (TPoint.mk x0.X1 x0.Y1) (TPoint.mk x0.X0 x0.Y1) (TPoint.mk 0 0)]).length) + 1 ≤ maxLen, (((([TEdge.mk 1 (TPoint.mk x0.X0 x0.Y0) (TPoint.mk x0.X1 x0.Y0) (TPoint.mk 0 0)] ++ [TEdge.mk 1 (TPoint.mk x0.X1 x0.Y0) (TPoint.mk x0.X1 x0.Y1) (TPoint.mk 0 0)]) ++ [TEdge.mk 1 (TPoint.mk x0.X1 x0.Y1) (TPoint.mk x0.X0 x0.Y1) (TPoint.mk 0 0)]).length) + 1) * 56 ≤ 140737488355328] ⟨[(2, tP 2 0), (3, tP 3 0), (4, tP 4 0), (28, tI 3)], [(2, .cells [.i 0, .val (.slice none 0 0), .i 0] 26), (3, .cells [.i x0.X0, .i x0.Y0, .i x0.X1, .i x0.Y0, .i x0.X1, .i x0.Y1, .i x0.X0, .i x0.Y1] 97), (4, .cells [.i 2, .own 43 7 (((([TEdge.mk 1 (TPoint.mk x0.X0 x0.Y0) (TPoint.mk x0.X1 x0.Y0) (TPoint.mk 0 0)] ++ [TEdge.mk 1 (TPoint.mk x0.X1 x0.Y0) (TPoint.mk x0.X1 x0.Y1) (TPoint.mk 0 0)]) ++ [TEdge.mk 1 (TPoint.mk x0.X1 x0.Y1) (TPoint.mk x0.X0 x0.Y1) (TPoint.mk 0 0)]).length) + 1), .i 0] 26), (43, .row 7 (((([TEdge.mk 1 (TPoint.mk x0.X0 x0.Y0) (TPoint.mk x0.X1 x0.Y0) (TPoint.mk 0 0)] ++ [TEdge.mk 1 (TPoint.mk x0.X1 x0.Y0) (TPoint.mk x0.X1 x0.Y1) (TPoint.mk 0 0)]) ++ [TEdge.mk 1 (TPoint.mk x0.X1 x0.Y1) (TPoint.mk x0.X0 x0.Y1) (TPoint.mk 0 0)]).length) + 1) (fun i j => if i < ((([TEdge.mk 1 (TPoint.mk x0.X0 x0.Y0) (TPoint.mk x0.X1 x0.Y0) (TPoint.mk 0 0)] ++ [TEdge.mk 1 (TPoint.mk x0.X1 x0.Y0) (TPoint.mk x0.X1 x0.Y1) (TPoint.mk 0 0)]) ++ [TEdge.mk 1 (TPoint.mk x0.X1 x0.Y1) (TPoint.mk x0.X0 x0.Y1) (TPoint.mk 0 0)]).length) then (rowF TEdge.c (([TEdge.mk 1 (TPoint.mk x0.X0 x0.Y0) (TPoint.mk x0.X1 x0.Y0) (TPoint.mk 0 0)] ++ [TEdge.mk 1 (TPoint.mk x0.X1 x0.Y0) (TPoint.mk x0.X1 x0.Y1) (TPoint.mk 0 0)]) ++ [TEdge.mk 1 (TPoint.mk x0.X1 x0.Y1) (TPoint.mk x0.X0 x0.Y1) (TPoint.mk 0 0)])) i j else (colsC 7 1 [.i 1, .i x0.X0, .i x0.Y1, .i x0.X0, .i x0.Y0, .i 0, .i 0]) (i - ((([TEdge.mk 1 (TPoint.mk x0.X0 x0.Y0) (TPoint.mk x0.X1 x0.Y0) (TPoint.mk 0 0)] ++ [TEdge.mk 1 (TPoint.mk x0.X1 x0.Y0) (TPoint.mk x0.X1 x0.Y1) (TPoint.mk 0 0)]) ++ [TEdge.mk 1 (TPoint.mk x0.X1 x0.Y1) (TPoint.mk x0.X0 x0.Y1) (TPoint.mk 0 0)]).length)) j) 35)]⟩ .nil (by kernel_rfl) (by kernel_rfl) (.cons (by decide) (.cons (by first | assumption | decide | omega) (.cons (by decide) (.cons rfl (.cons (by first | (unfold maxLen; omega) | (unfold maxLen; simp only [List.length_append, List.length_cons, List.length_nil]; omega) | first | omega | (simp only [List.length_append, List.length_cons, List.length_nil]; omega)) (.cons (by first | (unfold maxLen; omega) | (unfold maxLen; simp only [List.length_append, List.length_cons, List.length_nil]; omega) | first | omega | (simp only [List.length_append, List.length_cons, List.length_nil]; omega)) .nil)))))) ?_
  refine abl_n ?_
  refine ath_n ?_
  refine aw_cv (Cv.trans (cv_ce (⟨[(2, tP 2 0), (3, tP 3 0), (4, tP 4 0), (28, tI 3)], [(2, .cells [.i 0, .val (.slice none 0 0), .i 0] 26), (3, .cells [.i x0.X0, .i x0.Y0, .i x0.X1, .i x0.Y0, .i x0.X1, .i x0.Y1, .i x0.X0, .i x0.Y1] 97), (4, .cells [.i 2, .own 43 7 (((([TEdge.mk 1 (TPoint.mk x0.X0 x0.Y0) (TPoint.mk x0.X1 x0.Y0) (TPoint.mk 0 0)] ++ [TEdge.mk 1 (TPoint.mk x0.X1 x0.Y0) (TPoint.mk x0.X1 x0.Y1) (TPoint.mk 0 0)]) ++ [TEdge.mk 1 (TPoint.mk x0.X1 x0.Y1) (TPoint.mk x0.X0 x0.Y1) (TPoint.mk 0 0)]) ++ [TEdge.mk 1 (TPoint.mk x0.X0 x0.Y1) (TPoint.mk x0.X0 x0.Y0) (TPoint.mk 0 0)]).length), .i 0] 26), (43, .row 7 (((([TEdge.mk 1 (TPoint.mk x0.X0 x0.Y0) (TPoint.mk x0.X1 x0.Y0) (TPoint.mk 0 0)] ++ [TEdge.mk 1 (TPoint.mk x0.X1 x0.Y0) (TPoint.mk x0.X1 x0.Y1) (TPoint.mk 0 0)]) ++ [TEdge.mk 1 (TPoint.mk x0.X1 x0.Y1) (TPoint.mk x0.X0 x0.Y1) (TPoint.mk 0 0)]) ++ [TEdge.mk 1 (TPoint.mk x0.X0 x0.Y1) (TPoint.mk x0.X0 x0.Y0) (TPoint.mk 0 0)]).length) (rowF TEdge.c ((([TEdge.mk 1 (TPoint.mk x0.X0 x0.Y0) (TPoint.mk x0.X1 x0.Y0) (TPoint.mk 0 0)] ++ [TEdge.mk 1 (TPoint.mk x0.X1 x0.Y0) (TPoint.mk x0.X1 x0.Y1) (TPoint.mk 0 0)]) ++ [TEdge.mk 1 (TPoint.mk x0.X1 x0.Y1) (TPoint.mk x0.X0 x0.Y1) (TPoint.mk 0 0)]) ++ [TEdge.mk 1 (TPoint.mk x0.X0 x0.Y1) (TPoint.mk x0.X0 x0.Y0) (TPoint.mk 0 0)])) 35)]⟩) (.cons ⟨rfl, .refl _⟩ (.cons ⟨rfl, .refl _⟩ (.cons ⟨rfl, .refl _⟩ (.cons ⟨rfl, .refl _⟩ .nil)))) (.cons ⟨rfl, .refl _⟩ (.cons ⟨rfl, .refl _⟩ (.cons ⟨rfl, .cells _ (.cons (.refl _) (.cons (.own _ _ (by first | (simp; done) | (simp; omega))) (.cons (.refl _) .nil)))⟩ (.cons ⟨rfl, bke_told 35 (told_app (told_rfl 7 TEdge.c (([TEdge.mk 1 (TPoint.mk x0.X0 x0.Y0) (TPoint.mk x0.X1 x0.Y0) (TPoint.mk 0 0)] ++ [TEdge.mk 1 (TPoint.mk x0.X1 x0.Y0) (TPoint.mk x0.X1 x0.Y1) (TPoint.mk 0 0)]) ++ [TEdge.mk 1 (TPoint.mk x0.X1 x0.Y1) (TPoint.mk x0.X0 x0.Y1) (TPoint.mk 0 0)])) (told_lit (c := TEdge.c) (xs := ([TEdge.mk 1 (TPoint.mk x0.X0 x0.Y1) (TPoint.mk x0.X0 x0.Y0) (TPoint.mk 0 0)] : List TEdge)) rfl (by kernel_rfl)))⟩ .nil))))) (Cv.refl _)) ?_
  refine aw_region eqok [] [] [] [2, 3, 4, 28] [2, 3, 4, 43] [] ⟨[(2, tP 2 0), (3, tP 3 0), (4, tP 4 0), (28, tI 4)], [(2, .cells [.i 0, .val (.slice none 0 0), .i 0] 26), (3, .cells [.i x0.X0, .i x0.Y0, .i x0.X1, .i x0.Y0, .i x0.X1, .i x0.Y1, .i x0.X0, .i x0.Y1] 97), (4, .cells [.i 2, .own 43 7 (((([TEdge.mk 1 (TPoint.mk x0.X0 x0.Y0) (TPoint.mk x0.X1 x0.Y0) (TPoint.mk 0 0)] ++ [TEdge.mk 1 (TPoint.mk x0.X1 x0.Y0) (TPoint.mk x0.X1 x0.Y1) (TPoint.mk 0 0)]) ++ [TEdge.mk 1 (TPoint.mk x0.X1 x0.Y1) (TPoint.mk x0.X0 x0.Y1) (TPoint.mk 0 0)]) ++ [TEdge.mk 1 (TPoint.mk x0.X0 x0.Y1) (TPoint.mk x0.X0 x0.Y0) (TPoint.mk 0 0)]).length), .i 0] 26), (43, .row 7 (((([TEdge.mk 1 (TPoint.mk x0.X0 x0.Y0) (TPoint.mk x0.X1 x0.Y0) (TPoint.mk 0 0)] ++ [TEdge.mk 1 (TPoint.mk x0.X1 x0.Y0) (TPoint.mk x0.X1 x0.Y1) (TPoint.mk 0 0)]) ++ [TEdge.mk 1 (TPoint.mk x0.X1 x0.Y1) (TPoint.mk x0.X0 x0.Y1) (TPoint.mk 0 0)]) ++ [TEdge.mk 1 (TPoint.mk x0.X0 x0.Y1) (TPoint.mk x0.X0 x0.Y0) (TPoint.mk 0 0)]).length) (rowF TEdge.c ((([TEdge.mk 1 (TPoint.mk x0.X0 x0.Y0) (TPoint.mk x0.X1 x0.Y0) (TPoint.mk 0 0)] ++ [TEdge.mk 1 (TPoint.mk x0.X1 x0.Y0) (TPoint.mk x0.X1 x0.Y1) (TPoint.mk 0 0)]) ++ [TEdge.mk 1 (TPoint.mk x0.X1 x0.Y1) (TPoint.mk x0.X0 x0.Y1) (TPoint.mk 0 0)]) ++ [TEdge.mk 1 (TPoint.mk x0.X0 x0.Y1) (TPoint.mk x0.X0 x0.Y0) (TPoint.mk 0 0)])) 35)]⟩ .nil (by kernel_rfl) .nil ?_
  refine ath_n ?_
  refine aw_round ?_
  refine aw_cv (Cv.trans (cv_ren (⟨[(2, tP 2 0), (3, tP 3 0), (4, tP 4 0), (28, tI 4)], [(2, .cells [.i 0, .val (.slice none 0 0), .i 0] 26), (3, .cells [.i x0.X0, .i x0.Y0, .i x0.X1, .i x0.Y0, .i x0.X1, .i x0.Y1, .i x0.X0, .i x0.Y1] 97), (4, .cells [.i 2, .own 100003 7 (((([TEdge.mk 1 (TPoint.mk x0.X0 x0.Y0) (TPoint.mk x0.X1 x0.Y0) (TPoint.mk 0 0)] ++ [TEdge.mk 1 (TPoint.mk x0.X1 x0.Y0) (TPoint.mk x0.X1 x0.Y1) (TPoint.mk 0 0)]) ++ [TEdge.mk 1 (TPoint.mk x0.X1 x0.Y1) (TPoint.mk x0.X0 x0.Y1) (TPoint.mk 0 0)]) ++ [TEdge.mk 1 (TPoint.mk x0.X0 x0.Y1) (TPoint.mk x0.X0 x0.Y0) (TPoint.mk 0 0)]).length), .i 0] 26), (100003, .row 7 (((([TEdge.mk 1 (TPoint.mk x0.X0 x0.Y0) (TPoint.mk x0.X1 x0.Y0) (TPoint.mk 0 0)] ++ [TEdge.mk 1 (TPoint.mk x0.X1 x0.Y0) (TPoint.mk x0.X1 x0.Y1) (TPoint.mk 0 0)]) ++ [TEdge.mk 1 (TPoint.mk x0.X1 x0.Y1) (TPoint.mk x0.X0 x0.Y1) (TPoint.mk 0 0)]) ++ [TEdge.mk 1 (TPoint.mk x0.X0 x0.Y1) (TPoint.mk x0.X0 x0.Y0) (TPoint.mk 0 0)]).length) (rowF TEdge.c ((([TEdge.mk 1 (TPoint.mk x0.X0 x0.Y0) (TPoint.mk x0.X1 x0.Y0) (TPoint.mk 0 0)] ++ [TEdge.mk 1 (TPoint.mk x0.X1 x0.Y0) (TPoint.mk x0.X1 x0.Y1) (TPoint.mk 0 0)]) ++ [TEdge.mk 1 (TPoint.mk x0.X1 x0.Y1) (TPoint.mk x0.X0 x0.Y1) (TPoint.mk 0 0)]) ++ [TEdge.mk 1 (TPoint.mk x0.X0 x0.Y1) (TPoint.mk x0.X0 x0.Y0) (TPoint.mk 0 0)])) 35)]⟩) 43 100003 (K := none) (fun k x h => by cases h) rfl rfl (by kernel_rfl) (by kernel_rfl)) (Cv.refl _)) ?_
  refine aw_seq ?_
  refine aw_region eqok [] [] [] [2, 3, 4, 28, 29] [2, 3, 4, 100003] [] ⟨[(2, tP 2 0), (3, tP 3 0), (4, tP 4 0), (28, tI 4), (29, tB false)], [(2, .cells [.i 0, .val (.slice none 0 0), .i 0] 26), (3, .cells [.i x0.X0, .i x0.Y0, .i x0.X1, .i x0.Y0, .i x0.X1, .i x0.Y1, .i x0.X0, .i x0.Y1] 97), (4, .cells [.i 2, .own 100003 7 (((([TEdge.mk 1 (TPoint.mk x0.X0 x0.Y0) (TPoint.mk x0.X1 x0.Y0) (TPoint.mk 0 0)] ++ [TEdge.mk 1 (TPoint.mk x0.X1 x0.Y0) (TPoint.mk x0.X1 x0.Y1) (TPoint.mk 0 0)]) ++ [TEdge.mk 1 (TPoint.mk x0.X1 x0.Y1) (TPoint.mk x0.X0 x0.Y1) (TPoint.mk 0 0)]) ++ [TEdge.mk 1 (TPoint.mk x0.X0 x0.Y1) (TPoint.mk x0.X0 x0.Y0) (TPoint.mk 0 0)]).length), .i 0] 26), (100003, .row 7 (((([TEdge.mk 1 (TPoint.mk x0.X0 x0.Y0) (TPoint.mk x0.X1 x0.Y0) (TPoint.mk 0 0)] ++ [TEdge.mk 1 (TPoint.mk x0.X1 x0.Y0) (TPoint.mk x0.X1 x0.Y1) (TPoint.mk 0 0)]) ++ [TEdge.mk 1 (TPoint.mk x0.X1 x0.Y1) (TPoint.mk x0.X0 x0.Y1) (TPoint.mk 0 0)]) ++ [TEdge.mk 1 (TPoint.mk x0.X0 x0.Y1) (TPoint.mk x0.X0 x0.Y0) (TPoint.mk 0 0)]).length) (rowF TEdge.c ((([TEdge.mk 1 (TPoint.mk x0.X0 x0.Y0) (TPoint.mk x0.X1 x0.Y0) (TPoint.mk 0 0)] ++ [TEdge.mk 1 (TPoint.mk x0.X1 x0.Y0) (TPoint.mk x0.X1 x0.Y1) (TPoint.mk 0 0)]) ++ [TEdge.mk 1 (TPoint.mk x0.X1 x0.Y1) (TPoint.mk x0.X0 x0.Y1) (TPoint.mk 0 0)]) ++ [TEdge.mk 1 (TPoint.mk x0.X0 x0.Y1) (TPoint.mk x0.X0 x0.Y0) (TPoint.mk 0 0)])) 35)]⟩ .nil (by kernel_rfl) .nil ?_
  refine ath_n ?_
  refine aw_seq ?_
  refine aw_cond_f (by kernel_rfl) ?_
  refine aw_exit ?_
  refine ath_e ?_
  refine ath_e ?_
  refine abl_hit ?_
  refine ath_n ?_
  refine aw_seq ?_
  refine aw_region eqok [] [] [] [2] [2, 100003] [] ⟨[(2, tP 2 0)], [(2, .cells [.i 2, .own 100003 7 (((([TEdge.mk 1 (TPoint.mk x0.X0 x0.Y0) (TPoint.mk x0.X1 x0.Y0) (TPoint.mk 0 0)] ++ [TEdge.mk 1 (TPoint.mk x0.X1 x0.Y0) (TPoint.mk x0.X1 x0.Y1) (TPoint.mk 0 0)]) ++ [TEdge.mk 1 (TPoint.mk x0.X1 x0.Y1) (TPoint.mk x0.X0 x0.Y1) (TPoint.mk 0 0)]) ++ [TEdge.mk 1 (TPoint.mk x0.X0 x0.Y1) (TPoint.mk x0.X0 x0.Y0) (TPoint.mk 0 0)]).length), .i 0] 26), (100003, .row 7 (((([TEdge.mk 1 (TPoint.mk x0.X0 x0.Y0) (TPoint.mk x0.X1 x0.Y0) (TPoint.mk 0 0)] ++ [TEdge.mk 1 (TPoint.mk x0.X1 x0.Y0) (TPoint.mk x0.X1 x0.Y1) (TPoint.mk 0 0)]) ++ [TEdge.mk 1 (TPoint.mk x0.X1 x0.Y1) (TPoint.mk x0.X0 x0.Y1) (TPoint.mk 0 0)]) ++ [TEdge.mk 1 (TPoint.mk x0.X0 x0.Y1) (TPoint.mk x0.X0 x0.Y0) (TPoint.mk 0 0)]).length) (rowF TEdge.c ((([TEdge.mk 1 (TPoint.mk x0.X0 x0.Y0) (TPoint.mk x0.X1 x0.Y0) (TPoint.mk 0 0)] ++ [TEdge.mk 1 (TPoint.mk x0.X1 x0.Y0) (TPoint.mk x0.X1 x0.Y1) (TPoint.mk 0 0)]) ++ [TEdge.mk 1 (TPoint.mk x0.X1 x0.Y1) (TPoint.mk x0.X0 x0.Y1) (TPoint.mk 0 0)]) ++ [TEdge.mk 1 (TPoint.mk x0.X0 x0.Y1) (TPoint.mk x0.X0 x0.Y0) (TPoint.mk 0 0)])) 35)]⟩ .nil (by kernel_rfl) .nil ?_
  refine ath_n ?_
  refine aw_ret ?_
  exact ⟨_, Cv.trans (cv_fz (⟨[(2, tP 2 0)], [(2, .cells [.i 2, lst 7 TEdge.c ((([TEdge.mk 1 (TPoint.mk x0.X0 x0.Y0) (TPoint.mk x0.X1 x0.Y0) (TPoint.mk 0 0)] ++ [TEdge.mk 1 (TPoint.mk x0.X1 x0.Y0) (TPoint.mk x0.X1 x0.Y1) (TPoint.mk 0 0)]) ++ [TEdge.mk 1 (TPoint.mk x0.X1 x0.Y1) (TPoint.mk x0.X0 x0.Y1) (TPoint.mk 0 0)]) ++ [TEdge.mk 1 (TPoint.mk x0.X0 x0.Y1) (TPoint.mk x0.X0 x0.Y0) (TPoint.mk 0 0)]), .i 0] 26)]⟩) 100003 7 (((([TEdge.mk 1 (TPoint.mk x0.X0 x0.Y0) (TPoint.mk x0.X1 x0.Y0) (TPoint.mk 0 0)] ++ [TEdge.mk 1 (TPoint.mk x0.X1 x0.Y0) (TPoint.mk x0.X1 x0.Y1) (TPoint.mk 0 0)]) ++ [TEdge.mk 1 (TPoint.mk x0.X1 x0.Y1) (TPoint.mk x0.X0 x0.Y1) (TPoint.mk 0 0)]) ++ [TEdge.mk 1 (TPoint.mk x0.X0 x0.Y1) (TPoint.mk x0.X0 x0.Y0) (TPoint.mk 0 0)]).length) (rowF TEdge.c ((([TEdge.mk 1 (TPoint.mk x0.X0 x0.Y0) (TPoint.mk x0.X1 x0.Y0) (TPoint.mk 0 0)] ++ [TEdge.mk 1 (TPoint.mk x0.X1 x0.Y0) (TPoint.mk x0.X1 x0.Y1) (TPoint.mk 0 0)]) ++ [TEdge.mk 1 (TPoint.mk x0.X1 x0.Y1) (TPoint.mk x0.X0 x0.Y1) (TPoint.mk 0 0)]) ++ [TEdge.mk 1 (TPoint.mk x0.X0 x0.Y1) (TPoint.mk x0.X0 x0.Y0) (TPoint.mk 0 0)])) 35 (K := none) (fun k x h => by cases h) (by kernel_rfl) (by kernel_rfl) (.cons ⟨rfl, rfl⟩ .nil) (by kernel_rfl)) (Cv.refl _), .inl rfl, .av (.agg [.i 2, lst 7 TEdge.c ((([TEdge.mk 1 (TPoint.mk x0.X0 x0.Y0) (TPoint.mk x0.X1 x0.Y0) (TPoint.mk 0 0)] ++ [TEdge.mk 1 (TPoint.mk x0.X1 x0.Y0) (TPoint.mk x0.X1 x0.Y1) (TPoint.mk 0 0)]) ++ [TEdge.mk 1 (TPoint.mk x0.X1 x0.Y1) (TPoint.mk x0.X0 x0.Y1) (TPoint.mk 0 0)]) ++ [TEdge.mk 1 (TPoint.mk x0.X0 x0.Y1) (TPoint.mk x0.X0 x0.Y0) (TPoint.mk 0 0)]), .i 0]), by kernel_rfl, tve_eq (by rfl)⟩
theorem okRectS (x0 : TRect) : CallOk Try.prog (cRectS x0).1 (cRectS x0).2.1 (cRectS x0).2.2 := callOk_pure (fun _ _ => by kernel_rfl) fun _ => pRectS x0 
def FchainR_l0 (l : (List TEdge)) : Nat → Int → Bool
  | 0, _ => default
  | n0 + 1, k => bif decide ((k : Int) < ((l.length : Int))) then (bif !(decide ((((l.getD k.toNat default).A).X) = (((l.getD ((W64 (k - 1)).toNat) default).B).X)) && (decide ((((l.getD k.toNat default).A).Y) = (((l.getD ((W64 (k - 1)).toNat) default).B).Y)) && true)) then (false) else ((FchainR_l0 l n0) (k + 1))) else (true)
def FchainR (l : (List TEdge)) : Bool := FchainR_l0 l (((((l.length : Int))) - 1).toNat + 1) 1
def cchainR (l : (List TEdge)) : FuncId × List Av × Ef := (58, [.one (lst 7 TEdge.c l)], .val [] (.av (.one (.b (FchainR l)))))
set_option maxRecDepth 100000 in
theorem pchainR (l : (List TEdge)) (h0 : (l.length : Int) ≤ 1000000) : Pure Try.prog 58 (cchainR l).2.1 (.av (.one (.b (FchainR l)))) := by
  refine pure_of_awF Try.func58 rfl (by kernel_rfl) (by kernel_rfl) fun W0 M0 => ?_
  refine aw_seq ?_
  refine aw_region eqok [] [] [] [0] [] [] ⟨[(0, .av (.one (lst 7 TEdge.c l)))], []⟩ .nil (by kernel_rfl) .nil ?_
  refine ath_n ?_
  refine aw_seq ?_
  refine aw_seq ?_
  refine aw_region eqok [] [] [] [0, 3] [] [] ⟨[(0, .av (.one (lst 7 TEdge.c l))), (3, tI 1)], []⟩ .nil (by kernel_rfl) .nil ?_
  refine ath_n ?_
  refine aw_block ?_
  refine aw_loopC (ι := Nat × Int) (fun x => ⟨[(0, .av (.one (lst 7 TEdge.c l))), (3, tI x.2)], []⟩) (fun x => ((((l.length : Int))) - x.2).toNat < x.1 ∧ (1 ≤ x.2 ∧ (x.2 ≤ ((l.length : Int)) ∨ x.2 = 1)) ∧ FchainR_l0 l x.1 x.2 = FchainR l) (fun x => x.1) ?_ (((((l.length : Int))) - 1).toNat + 1, 1) ⟨Nat.lt_succ_self _, ⟨(by show 1 ≤ 1; first | trivial | omega | (simp only [List.length_append, List.length_cons, List.length_nil]; omega) | (simp only [List.length_set, List.length_append, List.length_cons, List.length_nil]; omega) | (simp only [W64_def]; omega) | (simp; omega) | simp), (by show (1 ≤ ((l.length : Int)) ∨ 1 = 1); first | trivial | omega | (simp only [List.length_append, List.length_cons, List.length_nil]; omega) | (simp only [List.length_set, List.length_append, List.length_cons, List.length_nil]; omega) | (simp only [W64_def]; omega) | (simp; omega) | simp)⟩, (by simp only [FchainR, cond_true, cond_false])⟩
  rintro ⟨n0, k⟩ ⟨hn, hinv, hF⟩
  have hm0 : ((((l.length : Int))) - k).toNat < n0 := hn; have hinv0 : 1 ≤ k ∧ (k ≤ ((l.length : Int)) ∨ k = 1) := hinv; have hF0 : FchainR_l0 l n0 k = FchainR l := hF; clear hn hinv hF
  cases n0 with
  | zero => exact absurd hm0 (Nat.not_lt_zero _)
  | succ n0 =>
    refine aw_seq ?_
    refine aw_seq ?_
    refine aw_region eqok [] [] [] [0, 3, 7] [] [] ⟨[(0, .av (.one (lst 7 TEdge.c l))), (3, tI k), (7, tB (decide ((k : Int) < ((l.length : Int)))))], []⟩ .nil (by kernel_rfl) .nil ?_
    refine ath_n ?_
    refine aw_cond (decide ((k : Int) < ((l.length : Int)))) (by kernel_rfl) (fun h1 => ?_) (fun h1 => ?_)
    · have g1 := of_decide_eq_true h1
      refine aw_skip ?_
      refine ath_n ?_
      refine aw_seq ?_
      refine aw_block ?_
      refine aw_seq ?_
      refine aw_draw mixed eqok [] [] [] [0, 3, 21] [] [0 ≤ (k : Int) ∧ (k : Int) < ((l.length : Nat) : Int), 0 ≤ (W64 (k - 1) : Int) ∧ (W64 (k - 1) : Int) < ((l.length : Nat) : Int)] ⟨[(0, .av (.one (lst 7 TEdge.c l))), (3, tI k), (21, tB (!(decide ((((l.getD k.toNat default).A).X) = (((l.getD ((W64 (k - 1)).toNat) default).B).X)) && (decide ((((l.getD k.toNat default).A).Y) = (((l.getD ((W64 (k - 1)).toNat) default).B).Y)) && true))))], []⟩ .nil (by kernel_rfl) (by kernel_rfl) (.cons (by first | decide | omega | exact idx_tmod (by first | omega | (simp only [W64_def]; omega)) (by omega) | (simp only [W64_def]; omega) | (constructor <;> omega) | (simp only [List.length_append, List.length_cons, List.length_nil]; omega) | (simp only [List.length_append, List.length_cons, List.length_nil, List.length_drop, List.length_take] at *; omega)) (.cons (by first | decide | omega | exact idx_tmod (by first | omega | (simp only [W64_def]; omega)) (by omega) | (simp only [W64_def]; omega) | (constructor <;> omega) | (simp only [List.length_append, List.length_cons, List.length_nil]; omega) | (simp only [List.length_append, List.length_cons, List.length_nil, List.length_drop, List.length_take] at *; omega)) .nil)) ?_
      refine ath_n ?_
      refine aw_cond (!(decide ((((l.getD k.toNat default).A).X) = (((l.getD ((W64 (k - 1)).toNat) default).B).X)) && (decide ((((l.getD k.toNat default).A).Y) = (((l.getD ((W64 (k - 1)).toNat) default).B).Y)) && true))) (by kernel_rfl) (fun h2 => ?_) (fun h2 => ?_)
      · refine aw_seq ?_
        refine aw_region eqok [] [] [] [2] [] [] ⟨[(2, tB false)], []⟩ .nil (by kernel_rfl) .nil ?_
        refine ath_n ?_
        refine aw_ret ?_
        refine abl_r ?_
        refine ath_r ?_
        refine ath_r ?_
        refine abl_r ?_
        refine ath_r ?_
        exact ⟨_, Cv.refl _, .inl rfl, .av (.one (.b false)), by kernel_rfl, tve_eq (by rw [← hF0]; first | (simp only [FchainR_l0, h1, h2, cond_true, cond_false]; done) | (simp only [FchainR_l0, h1, h2, cond_true, cond_false]; rfl))⟩
      · refine aw_skip ?_
        refine abl_n ?_
        refine ath_n ?_
        refine aw_region eqok [] [] [] [0, 3] [] [] ⟨[(0, .av (.one (lst 7 TEdge.c l))), (3, tI (W64 (k + 1)))], []⟩ .nil (by kernel_rfl) .nil ?_
        (try rw [(show W64 (k + 1) = k + 1 from W64_id (by omega) (by first | omega | (simp only [List.length_drop, List.length_take] at *; omega)))])
        refine ath_n ?_
        refine ⟨(n0, k + 1), ⟨?_, ?_, (by rw [← hF0]; simp only [FchainR_l0, h1, h2, cond_true, cond_false])⟩, Nat.lt_succ_self _, cv_eq (by kernel_rfl)⟩
        · show ((((l.length : Int))) - (k + 1)).toNat < n0; omega
        · exact ⟨(by show 1 ≤ (k + 1); first | trivial | omega | (simp only [List.length_append, List.length_cons, List.length_nil]; omega) | (simp only [List.length_set, List.length_append, List.length_cons, List.length_nil]; omega) | (simp only [W64_def]; omega) | (simp; omega) | simp), (by show ((k + 1) ≤ ((l.length : Int)) ∨ (k + 1) = 1); first | trivial | omega | (simp only [List.length_append, List.length_cons, List.length_nil]; omega) | (simp only [List.length_set, List.length_append, List.length_cons, List.length_nil]; omega) | (simp only [W64_def]; omega) | (simp; omega) | simp)⟩
    · have g1 := of_decide_eq_false h1
      refine aw_exit ?_
      refine ath_e ?_
      refine ath_e ?_
      refine abl_hit ?_
      refine ath_n ?_
      refine aw_seq ?_
      refine aw_region eqok [] [] [] [2] [] [] ⟨[(2, tB true)], []⟩ .nil (by kernel_rfl) .nil ?_
      refine ath_n ?_
      refine aw_ret ?_
      exact ⟨_, Cv.refl _, .inl rfl, .av (.one (.b true)), by kernel_rfl, tve_eq (by rw [← hF0]; first | (simp only [FchainR_l0, h1, cond_true, cond_false]; done) | (simp only [FchainR_l0, h1, cond_true, cond_false]; rfl))⟩
theorem okchainR (l : (List TEdge)) (h0 : (l.length : Int) ≤ 1000000) : CallOk Try.prog (cchainR l).1 (cchainR l).2.1 (cchainR l).2.2 := callOk_pure (fun _ _ => by kernel_rfl) fun _ => pchainR l h0
def wCheckR_0 (s : TShape) : TPoint := (s.Edges.getD ((W64 (((s.Edges.length : Int)) - 1)).toNat) default).B
def FCheckR_l0 (s : TShape) : Nat → Int → Int
  | 0, _ => default
  | n0 + 1, v4 => bif decide ((v4 : Int) < ((s.Edges.length : Int))) then (bif !decide (((Fref06Check (s.Edges.getD v4.toNat default)) : Int) = 0) then (Fref06Check (s.Edges.getD v4.toNat default)) else ((FCheckR_l0 s n0) (v4 + 1))) else (bif bif !(FchainR s.Edges) then true else bif decide ((s.Kind : Int) = 2) then !((decide ((((s.Edges.getD 0 default).A).X) = ((wCheckR_0 s).X)) && (decide ((((s.Edges.getD 0 default).A).Y) = ((wCheckR_0 s).Y)) && true))) else false then (12) else (bif bif bif bif decide ((s.Kind : Int) = 2) then !decide ((s.R : Int) = 0) else false then true else decide ((s.R : Int) < 0) then true else decide ((4194304 : Int) < s.R) then (3) else (0)))
def FCheckR (s : TShape) : Int := bif decide ((s.Kind : Int) = 1) then (bif decide ((((s.Edges.length : Int)) : Int) < 1) then (12) else (bif decide ((40 : Int) < ((s.Edges.length : Int))) then (2) else (FCheckR_l0 s (((((s.Edges.length : Int))) - 0).toNat + 1) 0))) else (bif decide ((s.Kind : Int) = 2) then (bif decide ((((s.Edges.length : Int)) : Int) < 2) then (12) else (bif decide ((40 : Int) < ((s.Edges.length : Int))) then (2) else (FCheckR_l0 s (((((s.Edges.length : Int))) - 0).toNat + 1) 0))) else (12))
def cCheckR (s : TShape) : FuncId × List Av × Ef := (24, [.agg (TShape.c s)], .val [] (.av (.one (.i (FCheckR s)))))
set_option maxRecDepth 100000 in
theorem pCheckR (s : TShape) (hl : (s.Edges.length : Int) ≤ 1000000) : Pure Try.prog 24 (cCheckR s).2.1 (.av (.one (.i (FCheckR s)))) := by
  refine pure_of_awF Try.func24 rfl (by kernel_rfl) (by kernel_rfl) fun W0 M0 => ?_
  refine aw_seq ?_
  refine aw_region eqok [] [] [] [1] [1] [] ⟨[(1, tP 1 0)], [(1, .cells (TShape.c s) 26)]⟩ .nil (by kernel_rfl) .nil ?_
  refine ath_n ?_
  refine aw_seq ?_
  refine aw_region eqok [] [] [] [1, 3] [1] [] ⟨[(1, tP 1 0), (3, tI 1)], [(1, .cells (TShape.c s) 26)]⟩ .nil (by kernel_rfl) .nil ?_
  refine ath_n ?_
  refine aw_seq ?_
  refine aw_seq ?_
  refine aw_region eqok [] [] [] [1, 3, 9] [1] [] ⟨[(1, tP 1 0), (3, tI 1), (9, tI s.Kind)], [(1, .cells (TShape.c s) 26)]⟩ .nil (by kernel_rfl) .nil ?_
  refine ath_n ?_
  refine aw_block ?_
  refine aw_seq ?_
  refine aw_region eqok [] [] [] [1, 3, 9, 10] [1] [] ⟨[(1, tP 1 0), (3, tI 1), (9, tI s.Kind), (10, tB (decide ((s.Kind : Int) = 1)))], [(1, .cells (TShape.c s) 26)]⟩ .nil (by kernel_rfl) .nil ?_
  refine ath_n ?_
  refine aw_cond (decide ((s.Kind : Int) = 1)) (by kernel_rfl) (fun h1 => ?_) (fun h1 => ?_)
  · have g1 := of_decide_eq_true h1
    refine aw_skip ?_
    refine abl_n ?_
    refine ath_n ?_
    refine aw_seq ?_
    refine aw_seq ?_
    refine aw_region eqok [] [] [] [1, 18] [1] [] ⟨[(1, tP 1 0), (18, tB (decide ((((s.Edges.length : Int)) : Int) < 1)))], [(1, .cells (TShape.c s) 26)]⟩ .nil (by kernel_rfl) .nil ?_
    refine ath_n ?_
    refine aw_cond (decide ((((s.Edges.length : Int)) : Int) < 1)) (by kernel_rfl) (fun h2 => ?_) (fun h2 => ?_)
    · have g2 := of_decide_eq_true h2
      refine aw_seq ?_
      refine aw_region eqok [] [] [] [2] [] [] ⟨[(2, tI 12)], []⟩ .nil (by kernel_rfl) .nil ?_
      refine ath_n ?_
      refine aw_ret ?_
      refine ath_r ?_
      exact ⟨_, Cv.refl _, .inl rfl, .av (.one (.i 12)), by kernel_rfl, tve_eq (by first | (simp only [FCheckR, h1, h2, cond_true, cond_false]; done) | (simp only [FCheckR, h1, h2, cond_true, cond_false]; rfl))⟩
    · have g2 := of_decide_eq_false h2
      refine aw_skip ?_
      refine ath_n ?_
      refine aw_seq ?_
      refine aw_seq ?_
      refine aw_region eqok [] [] [] [1, 22] [1] [] ⟨[(1, tP 1 0), (22, tB (decide ((40 : Int) < ((s.Edges.length : Int)))))], [(1, .cells (TShape.c s) 26)]⟩ .nil (by kernel_rfl) .nil ?_
      refine ath_n ?_
      refine aw_cond (decide ((40 : Int) < ((s.Edges.length : Int)))) (by kernel_rfl) (fun h3 => ?_) (fun h3 => ?_)
      · have g3 := of_decide_eq_true h3
        refine aw_seq ?_
        refine aw_region eqok [] [] [] [2] [] [] ⟨[(2, tI 2)], []⟩ .nil (by kernel_rfl) .nil ?_
        refine ath_n ?_
        refine aw_ret ?_
        refine ath_r ?_
        exact ⟨_, Cv.refl _, .inl rfl, .av (.one (.i 2)), by kernel_rfl, tve_eq (by first | (simp only [FCheckR, h1, h2, h3, cond_true, cond_false]; done) | (simp only [FCheckR, h1, h2, h3, cond_true, cond_false]; rfl))⟩
      · have g3 := of_decide_eq_false h3
        refine aw_skip ?_
        refine ath_n ?_
        refine aw_seq ?_
        refine aw_seq ?_
        refine aw_region eqok [] [] [] [1, 4] [1] [] ⟨[(1, tP 1 0), (4, tI 0)], [(1, .cells (TShape.c s) 26)]⟩ .nil (by kernel_rfl) .nil ?_
        refine ath_n ?_
        refine aw_block ?_
        refine aw_loopC (ι := Nat × Int) (fun x => ⟨[(1, tP 1 0), (4, tI x.2)], [(1, .cells (TShape.c s) 26)]⟩) (fun x => ((((s.Edges.length : Int))) - x.2).toNat < x.1 ∧ (0 ≤ x.2 ∧ (x.2 ≤ ((s.Edges.length : Int)) ∨ x.2 = 0)) ∧ FCheckR_l0 s x.1 x.2 = FCheckR s) (fun x => x.1) ?_ (((((s.Edges.length : Int))) - 0).toNat + 1, 0) ⟨Nat.lt_succ_self _, ⟨(by show 0 ≤ 0; first | trivial | omega | (simp only [List.length_append, List.length_cons, List.length_nil]; omega) | (simp only [List.length_set, List.length_append, List.length_cons, List.length_nil]; omega) | (simp only [W64_def]; omega) | (simp; omega) | simp), (by show (0 ≤ ((s.Edges.length : Int)) ∨ 0 = 0); first | trivial | omega | (simp only [List.length_append, List.length_cons, List.length_nil]; omega) | (simp only [List.length_set, List.length_append, List.length_cons, List.length_nil]; omega) | (simp only [W64_def]; omega) | (simp; omega) | simp)⟩, (by simp only [FCheckR, h1, h2, h3, cond_true, cond_false])⟩
        rintro ⟨n0, v4⟩ ⟨hn, hinv, hF⟩
        have hm0 : ((((s.Edges.length : Int))) - v4).toNat < n0 := hn; have hinv0 : 0 ≤ v4 ∧ (v4 ≤ ((s.Edges.length : Int)) ∨ v4 = 0) := hinv; have hF0 : FCheckR_l0 s n0 v4 = FCheckR s := hF; clear hn hinv hF
        cases n0 with
        | zero => exact absurd hm0 (Nat.not_lt_zero _)
        | succ n0 =>
          refine aw_seq ?_
          refine aw_seq ?_
          refine aw_region eqok [] [] [] [1, 4, 27] [1] [] ⟨[(1, tP 1 0), (4, tI v4), (27, tB (decide ((v4 : Int) < ((s.Edges.length : Int)))))], [(1, .cells (TShape.c s) 26)]⟩ .nil (by kernel_rfl) .nil ?_
          refine ath_n ?_
          refine aw_cond (decide ((v4 : Int) < ((s.Edges.length : Int)))) (by kernel_rfl) (fun h4 => ?_) (fun h4 => ?_)
          · have g4 := of_decide_eq_true h4
            refine aw_skip ?_
            refine ath_n ?_
            refine aw_seq ?_
            refine aw_block ?_
            refine aw_seq ?_
            refine aw_region eqok [] [] [(35, cref06Check (s.Edges.getD v4.toNat default))] [1, 4, 5] [1] [0 ≤ (v4 : Int) ∧ (v4 : Int) < ((s.Edges.length : Nat) : Int), Same (cref06Check (s.Edges.getD v4.toNat default)).2.1] ⟨[(1, tP 1 0), (4, tI v4), (5, tI (Fref06Check (s.Edges.getD v4.toNat default)))], [(1, .cells (TShape.c s) 26)]⟩ (.cons (okref06Check (s.Edges.getD v4.toNat default)) .nil) (by kernel_rfl) (.cons (by first | decide | omega | exact idx_tmod (by first | omega | (simp only [W64_def]; omega)) (by omega) | (simp only [W64_def]; omega) | (constructor <;> omega) | (simp only [List.length_append, List.length_cons, List.length_nil]; omega) | (simp only [List.length_append, List.length_cons, List.length_nil, List.length_drop, List.length_take] at *; omega)) (.cons rfl .nil)) ?_
            refine ath_n ?_
            refine aw_seq ?_
            refine aw_region eqok [] [] [] [1, 4, 5, 37] [1] [] ⟨[(1, tP 1 0), (4, tI v4), (5, tI (Fref06Check (s.Edges.getD v4.toNat default))), (37, tB (!decide (((Fref06Check (s.Edges.getD v4.toNat default)) : Int) = 0)))], [(1, .cells (TShape.c s) 26)]⟩ .nil (by kernel_rfl) .nil ?_
            refine ath_n ?_
            refine aw_cond (!decide (((Fref06Check (s.Edges.getD v4.toNat default)) : Int) = 0)) (by kernel_rfl) (fun h5 => ?_) (fun h5 => ?_)
            · have g5 := of_not_decide_true h5
              refine aw_seq ?_
              refine aw_region eqok [] [] [] [2] [] [] ⟨[(2, tI (Fref06Check (s.Edges.getD v4.toNat default)))], []⟩ .nil (by kernel_rfl) .nil ?_
              refine ath_n ?_
              refine aw_ret ?_
              refine abl_r ?_
              refine ath_r ?_
              refine ath_r ?_
              refine abl_r ?_
              refine ath_r ?_
              exact ⟨_, Cv.refl _, .inl rfl, .av (.one (.i (Fref06Check (s.Edges.getD v4.toNat default)))), by kernel_rfl, tve_eq (by rw [← hF0]; first | (simp only [FCheckR_l0, h4, h5, cond_true, cond_false]; done) | (simp only [FCheckR_l0, h4, h5, cond_true, cond_false]; rfl))⟩
            · have g5 := of_not_decide_false h5
              refine aw_skip ?_
              refine abl_n ?_
              refine ath_n ?_
              refine aw_region eqok [] [] [] [1, 4] [1] [] ⟨[(1, tP 1 0), (4, tI (W64 (v4 + 1)))], [(1, .cells (TShape.c s) 26)]⟩ .nil (by kernel_rfl) .nil ?_
              (try rw [(show W64 (v4 + 1) = v4 + 1 from W64_id (by omega) (by first | omega | (simp only [List.length_drop, List.length_take] at *; omega)))])
              refine ath_n ?_
              refine ⟨(n0, v4 + 1), ⟨?_, ?_, (by rw [← hF0]; simp only [FCheckR_l0, h4, h5, cond_true, cond_false])⟩, Nat.lt_succ_self _, cv_eq (by kernel_rfl)⟩
              · show ((((s.Edges.length : Int))) - (v4 + 1)).toNat < n0; omega
              · exact ⟨(by show 0 ≤ (v4 + 1); first | trivial | omega | (simp only [List.length_append, List.length_cons, List.length_nil]; omega) | (simp only [List.length_set, List.length_append, List.length_cons, List.length_nil]; omega) | (simp only [W64_def]; omega) | (simp; omega) | simp), (by show ((v4 + 1) ≤ ((s.Edges.length : Int)) ∨ (v4 + 1) = 0); first | trivial | omega | (simp only [List.length_append, List.length_cons, List.length_nil]; omega) | (simp only [List.length_set, List.length_append, List.length_cons, List.length_nil]; omega) | (simp only [W64_def]; omega) | (simp; omega) | simp)⟩
          · have g4 := of_decide_eq_false h4
            refine aw_exit ?_
            refine ath_e ?_
            refine ath_e ?_
            refine abl_hit ?_
            refine ath_n ?_
            refine aw_seq ?_
            refine aw_region eqok [] [] [(41, cchainR s.Edges)] [1, 6] [1] [Same (cchainR s.Edges).2.1] ⟨[(1, tP 1 0), (6, tB (FchainR s.Edges))], [(1, .cells (TShape.c s) 26)]⟩ (.cons (okchainR s.Edges (by first | assumption | decide | omega | (simp only [List.length_cons, List.length_nil, List.length_append]; omega))) .nil) (by kernel_rfl) (.cons rfl .nil) ?_
            refine ath_n ?_
            refine aw_seq ?_
            refine aw_draw mixed eqok [] [] [] [1, 6, 7] [1] [0 ≤ (0 : Int) ∧ (0 : Int) < ((s.Edges.length : Nat) : Int), 0 ≤ (W64 (((s.Edges.length : Int)) - 1) : Int) ∧ (W64 (((s.Edges.length : Int)) - 1) : Int) < ((s.Edges.length : Nat) : Int)] ⟨[(1, tP 1 0), (6, tB (FchainR s.Edges)), (7, tB ((decide ((((s.Edges.getD 0 default).A).X) = ((wCheckR_0 s).X)) && (decide ((((s.Edges.getD 0 default).A).Y) = ((wCheckR_0 s).Y)) && true))))], [(1, .cells (TShape.c s) 26)]⟩ .nil (by kernel_rfl) (by kernel_rfl) (.cons (by first | decide | omega | exact idx_tmod (by first | omega | (simp only [W64_def]; omega)) (by omega) | (simp only [W64_def]; omega) | (constructor <;> omega) | (simp only [List.length_append, List.length_cons, List.length_nil]; omega) | (simp only [List.length_append, List.length_cons, List.length_nil, List.length_drop, List.length_take] at *; omega)) (.cons (by first | decide | omega | exact idx_tmod (by first | omega | (simp only [W64_def]; omega)) (by omega) | (simp only [W64_def]; omega) | (constructor <;> omega) | (simp only [List.length_append, List.length_cons, List.length_nil]; omega) | (simp only [List.length_append, List.length_cons, List.length_nil, List.length_drop, List.length_take] at *; omega)) .nil)) ?_
            refine ath_n ?_
            refine aw_seq ?_
            refine aw_seq ?_
            refine aw_region eqok [] [] [] [1, 67] [1] [((!(FchainR s.Edges)) = false) → ((!(FchainR s.Edges)) = false), ((!(FchainR s.Edges)) = false) → ((!(FchainR s.Edges)) = false), ((!(FchainR s.Edges)) = false) → ((!(FchainR s.Edges)) = false), (((!(FchainR s.Edges)) = false) ∧ (decide ((s.Kind : Int) = 2)) = true) → (((!(FchainR s.Edges)) = false) ∧ (decide ((s.Kind : Int) = 2)) = true), ((!(FchainR s.Edges)) = false) → ((!(FchainR s.Edges)) = false), ((!(FchainR s.Edges)) = false) → ((decide ((s.Kind : Int) = 2)) = true → (((!(FchainR s.Edges)) = false) ∧ (decide ((s.Kind : Int) = 2)) = true)), (!(FchainR s.Edges)) = false → ((!(FchainR s.Edges)) = false)] ⟨[(1, tP 1 0), (67, tB (bif !(FchainR s.Edges) then true else bif decide ((s.Kind : Int) = 2) then !((decide ((((s.Edges.getD 0 default).A).X) = ((wCheckR_0 s).X)) && (decide ((((s.Edges.getD 0 default).A).Y) = ((wCheckR_0 s).Y)) && true))) else false))], [(1, .cells (TShape.c s) 26)]⟩ .nil (by kernel_rfl) (.cons id (.cons id (.cons id (.cons id (.cons id (.cons (by intros; first | assumption | exact ⟨by assumption, by assumption⟩ | simp_all) (.cons id .nil))))))) ?_
            refine ath_n ?_
            refine aw_cond (bif !(FchainR s.Edges) then true else bif decide ((s.Kind : Int) = 2) then !((decide ((((s.Edges.getD 0 default).A).X) = ((wCheckR_0 s).X)) && (decide ((((s.Edges.getD 0 default).A).Y) = ((wCheckR_0 s).Y)) && true))) else false) (by kernel_rfl) (fun h5 => ?_) (fun h5 => ?_)
            · refine aw_seq ?_
              refine aw_region eqok [] [] [] [2] [] [] ⟨[(2, tI 12)], []⟩ .nil (by kernel_rfl) .nil ?_
              refine ath_n ?_
              refine aw_ret ?_
              refine ath_r ?_
              exact ⟨_, Cv.refl _, .inl rfl, .av (.one (.i 12)), by kernel_rfl, tve_eq (by rw [← hF0]; first | (simp only [FCheckR_l0, h4, h5, cond_true, cond_false]; done) | (simp only [FCheckR_l0, h4, h5, cond_true, cond_false]; rfl))⟩
            · refine aw_skip ?_
              refine ath_n ?_
              refine aw_seq ?_
              refine aw_seq ?_
              refine aw_region eqok [] [] [] [85] [] [((decide ((s.Kind : Int) = 2)) = true) → ((decide ((s.Kind : Int) = 2)) = true), ((decide ((s.Kind : Int) = 2)) = true) → ((decide ((s.Kind : Int) = 2)) = true), (decide ((s.Kind : Int) = 2)) = true → ((decide ((s.Kind : Int) = 2)) = true), ((bif decide ((s.Kind : Int) = 2) then !decide ((s.R : Int) = 0) else false) = false) → ((bif decide ((s.Kind : Int) = 2) then !decide ((s.R : Int) = 0) else false) = false), ((bif decide ((s.Kind : Int) = 2) then !decide ((s.R : Int) = 0) else false) = false) → ((bif decide ((s.Kind : Int) = 2) then !decide ((s.R : Int) = 0) else false) = false), (bif decide ((s.Kind : Int) = 2) then !decide ((s.R : Int) = 0) else false) = false → ((bif decide ((s.Kind : Int) = 2) then !decide ((s.R : Int) = 0) else false) = false), ((bif bif decide ((s.Kind : Int) = 2) then !decide ((s.R : Int) = 0) else false then true else decide ((s.R : Int) < 0)) = false) → ((bif bif decide ((s.Kind : Int) = 2) then !decide ((s.R : Int) = 0) else false then true else decide ((s.R : Int) < 0)) = false), ((bif bif decide ((s.Kind : Int) = 2) then !decide ((s.R : Int) = 0) else false then true else decide ((s.R : Int) < 0)) = false) → ((bif bif decide ((s.Kind : Int) = 2) then !decide ((s.R : Int) = 0) else false then true else decide ((s.R : Int) < 0)) = false), (bif bif decide ((s.Kind : Int) = 2) then !decide ((s.R : Int) = 0) else false then true else decide ((s.R : Int) < 0)) = false → ((bif bif decide ((s.Kind : Int) = 2) then !decide ((s.R : Int) = 0) else false then true else decide ((s.R : Int) < 0)) = false)] ⟨[(85, tB (bif bif bif decide ((s.Kind : Int) = 2) then !decide ((s.R : Int) = 0) else false then true else decide ((s.R : Int) < 0) then true else decide ((4194304 : Int) < s.R)))], []⟩ .nil (by kernel_rfl) (.cons id (.cons id (.cons id (.cons id (.cons id (.cons id (.cons id (.cons id (.cons id .nil))))))))) ?_
              refine ath_n ?_
              refine aw_cond (bif bif bif decide ((s.Kind : Int) = 2) then !decide ((s.R : Int) = 0) else false then true else decide ((s.R : Int) < 0) then true else decide ((4194304 : Int) < s.R)) (by kernel_rfl) (fun h6 => ?_) (fun h6 => ?_)
              · refine aw_seq ?_
                refine aw_region eqok [] [] [] [2] [] [] ⟨[(2, tI 3)], []⟩ .nil (by kernel_rfl) .nil ?_
                refine ath_n ?_
                refine aw_ret ?_
                refine ath_r ?_
                exact ⟨_, Cv.refl _, .inl rfl, .av (.one (.i 3)), by kernel_rfl, tve_eq (by rw [← hF0]; first | (simp only [FCheckR_l0, h4, h5, h6, cond_true, cond_false]; done) | (simp only [FCheckR_l0, h4, h5, h6, cond_true, cond_false]; rfl))⟩
              · refine aw_skip ?_
                refine ath_n ?_
                refine aw_seq ?_
                refine aw_region eqok [] [] [] [2] [] [] ⟨[(2, tI 0)], []⟩ .nil (by kernel_rfl) .nil ?_
                refine ath_n ?_
                refine aw_ret ?_
                exact ⟨_, Cv.refl _, .inl rfl, .av (.one (.i 0)), by kernel_rfl, tve_eq (by rw [← hF0]; first | (simp only [FCheckR_l0, h4, h5, h6, cond_true, cond_false]; done) | (simp only [FCheckR_l0, h4, h5, h6, cond_true, cond_false]; rfl))⟩
  · have g1 := of_decide_eq_false h1
    refine aw_seq ?_
    refine aw_region eqok [] [] [] [1, 12] [1] [] ⟨[(1, tP 1 0), (12, tB (decide ((s.Kind : Int) = 2)))], [(1, .cells (TShape.c s) 26)]⟩ .nil (by kernel_rfl) .nil ?_
    refine ath_n ?_
    refine aw_cond (decide ((s.Kind : Int) = 2)) (by kernel_rfl) (fun h2 => ?_) (fun h2 => ?_)
    · have g2 := of_decide_eq_true h2
      refine aw_region eqok [] [] [] [1, 3] [1] [] ⟨[(1, tP 1 0), (3, tI 2)], [(1, .cells (TShape.c s) 26)]⟩ .nil (by kernel_rfl) .nil ?_
      refine abl_n ?_
      refine ath_n ?_
      refine aw_seq ?_
      refine aw_seq ?_
      refine aw_region eqok [] [] [] [1, 18] [1] [] ⟨[(1, tP 1 0), (18, tB (decide ((((s.Edges.length : Int)) : Int) < 2)))], [(1, .cells (TShape.c s) 26)]⟩ .nil (by kernel_rfl) .nil ?_
      refine ath_n ?_
      refine aw_cond (decide ((((s.Edges.length : Int)) : Int) < 2)) (by kernel_rfl) (fun h3 => ?_) (fun h3 => ?_)
      · have g3 := of_decide_eq_true h3
        refine aw_seq ?_
        refine aw_region eqok [] [] [] [2] [] [] ⟨[(2, tI 12)], []⟩ .nil (by kernel_rfl) .nil ?_
        refine ath_n ?_
        refine aw_ret ?_
        refine ath_r ?_
        exact ⟨_, Cv.refl _, .inl rfl, .av (.one (.i 12)), by kernel_rfl, tve_eq (by first | (simp only [FCheckR, h1, h2, h3, cond_true, cond_false]; done) | (simp only [FCheckR, h1, h2, h3, cond_true, cond_false]; rfl))⟩
      · have g3 := of_decide_eq_false h3
        refine aw_skip ?_
        refine ath_n ?_
        refine aw_seq ?_
        refine aw_seq ?_
        refine aw_region eqok [] [] [] [1, 22] [1] [] ⟨[(1, tP 1 0), (22, tB (decide ((40 : Int) < ((s.Edges.length : Int)))))], [(1, .cells (TShape.c s) 26)]⟩ .nil (by kernel_rfl) .nil ?_
        refine ath_n ?_
        refine aw_cond (decide ((40 : Int) < ((s.Edges.length : Int)))) (by kernel_rfl) (fun h4 => ?_) (fun h4 => ?_)
        · have g4 := of_decide_eq_true h4
          refine aw_seq ?_
          refine aw_region eqok [] [] [] [2] [] [] ⟨[(2, tI 2)], []⟩ .nil (by kernel_rfl) .nil ?_
          refine ath_n ?_
          refine aw_ret ?_
          refine ath_r ?_
          exact ⟨_, Cv.refl _, .inl rfl, .av (.one (.i 2)), by kernel_rfl, tve_eq (by first | (simp only [FCheckR, h1, h2, h3, h4, cond_true, cond_false]; done) | (simp only [FCheckR, h1, h2, h3, h4, cond_true, cond_false]; rfl))⟩
        · have g4 := of_decide_eq_false h4
          refine aw_skip ?_
          refine ath_n ?_
          refine aw_seq ?_
          refine aw_seq ?_
          refine aw_region eqok [] [] [] [1, 4] [1] [] ⟨[(1, tP 1 0), (4, tI 0)], [(1, .cells (TShape.c s) 26)]⟩ .nil (by kernel_rfl) .nil ?_
          refine ath_n ?_
          refine aw_block ?_
          refine aw_loopC (ι := Nat × Int) (fun x => ⟨[(1, tP 1 0), (4, tI x.2)], [(1, .cells (TShape.c s) 26)]⟩) (fun x => ((((s.Edges.length : Int))) - x.2).toNat < x.1 ∧ (0 ≤ x.2 ∧ (x.2 ≤ ((s.Edges.length : Int)) ∨ x.2 = 0)) ∧ FCheckR_l0 s x.1 x.2 = FCheckR s) (fun x => x.1) ?_ (((((s.Edges.length : Int))) - 0).toNat + 1, 0) ⟨Nat.lt_succ_self _, ⟨(by show 0 ≤ 0; first | trivial | omega | (simp only [List.length_append, List.length_cons, List.length_nil]; omega) | (simp only [List.length_set, List.length_append, List.length_cons, List.length_nil]; omega) | (simp only [W64_def]; omega) | (simp; omega) | simp), (by show (0 ≤ ((s.Edges.length : Int)) ∨ 0 = 0); first | trivial | omega | (simp only [List.length_append, List.length_cons, List.length_nil]; omega) | (simp only [List.length_set, List.length_append, List.length_cons, List.length_nil]; omega) | (simp only [W64_def]; omega) | (simp; omega) | simp)⟩, (by simp only [FCheckR, h1, h2, h3, h4, cond_true, cond_false])⟩
          rintro ⟨n1, v4⟩ ⟨hn, hinv, hF⟩
          have hm1 : ((((s.Edges.length : Int))) - v4).toNat < n1 := hn; have hinv1 : 0 ≤ v4 ∧ (v4 ≤ ((s.Edges.length : Int)) ∨ v4 = 0) := hinv; have hF1 : FCheckR_l0 s n1 v4 = FCheckR s := hF; clear hn hinv hF
          cases n1 with
          | zero => exact absurd hm1 (Nat.not_lt_zero _)
          | succ n1 =>
            refine aw_seq ?_
            refine aw_seq ?_
            refine aw_region eqok [] [] [] [1, 4, 27] [1] [] ⟨[(1, tP 1 0), (4, tI v4), (27, tB (decide ((v4 : Int) < ((s.Edges.length : Int)))))], [(1, .cells (TShape.c s) 26)]⟩ .nil (by kernel_rfl) .nil ?_
            refine ath_n ?_
            refine aw_cond (decide ((v4 : Int) < ((s.Edges.length : Int)))) (by kernel_rfl) (fun h5 => ?_) (fun h5 => ?_)
            · have g5 := of_decide_eq_true h5
              refine aw_skip ?_
              refine ath_n ?_
              refine aw_seq ?_
              refine aw_block ?_
              refine aw_seq ?_
              refine aw_region eqok [] [] [(35, cref06Check (s.Edges.getD v4.toNat default))] [1, 4, 5] [1] [0 ≤ (v4 : Int) ∧ (v4 : Int) < ((s.Edges.length : Nat) : Int), Same (cref06Check (s.Edges.getD v4.toNat default)).2.1] ⟨[(1, tP 1 0), (4, tI v4), (5, tI (Fref06Check (s.Edges.getD v4.toNat default)))], [(1, .cells (TShape.c s) 26)]⟩ (.cons (okref06Check (s.Edges.getD v4.toNat default)) .nil) (by kernel_rfl) (.cons (by first | decide | omega | exact idx_tmod (by first | omega | (simp only [W64_def]; omega)) (by omega) | (simp only [W64_def]; omega) | (constructor <;> omega) | (simp only [List.length_append, List.length_cons, List.length_nil]; omega) | (simp only [List.length_append, List.length_cons, List.length_nil, List.length_drop, List.length_take] at *; omega)) (.cons rfl .nil)) ?_
              refine ath_n ?_
              refine aw_seq ?_
              refine aw_region eqok [] [] [] [1, 4, 5, 37] [1] [] ⟨[(1, tP 1 0), (4, tI v4), (5, tI (Fref06Check (s.Edges.getD v4.toNat default))), (37, tB (!decide (((Fref06Check (s.Edges.getD v4.toNat default)) : Int) = 0)))], [(1, .cells (TShape.c s) 26)]⟩ .nil (by kernel_rfl) .nil ?_
              refine ath_n ?_
              refine aw_cond (!decide (((Fref06Check (s.Edges.getD v4.toNat default)) : Int) = 0)) (by kernel_rfl) (fun h6 => ?_) (fun h6 => ?_)
              · have g6 := of_not_decide_true h6
                refine aw_seq ?_
                refine aw_region eqok [] [] [] [2] [] [] ⟨[(2, tI (Fref06Check (s.Edges.getD v4.toNat default)))], []⟩ .nil (by kernel_rfl) .nil ?_
                refine ath_n ?_
                refine aw_ret ?_
                refine abl_r ?_
                refine ath_r ?_
                refine ath_r ?_
                refine abl_r ?_
                refine ath_r ?_
                exact ⟨_, Cv.refl _, .inl rfl, .av (.one (.i (Fref06Check (s.Edges.getD v4.toNat default)))), by kernel_rfl, tve_eq (by rw [← hF1]; first | (simp only [FCheckR_l0, h5, h6, cond_true, cond_false]; done) | (simp only [FCheckR_l0, h5, h6, cond_true, cond_false]; rfl))⟩
              · have g6 := of_not_decide_false h6
                refine aw_skip ?_
                refine abl_n ?_
                refine ath_n ?_
                refine aw_region eqok [] [] [] [1, 4] [1] [] ⟨[(1, tP 1 0), (4, tI (W64 (v4 + 1)))], [(1, .cells (TShape.c s) 26)]⟩ .nil (by kernel_rfl) .nil ?_
                (try rw [(show W64 (v4 + 1) = v4 + 1 from W64_id (by omega) (by first | omega | (simp only [List.length_drop, List.length_take] at *; omega)))])
                refine ath_n ?_
                refine ⟨(n1, v4 + 1), ⟨?_, ?_, (by rw [← hF1]; simp only [FCheckR_l0, h5, h6, cond_true, cond_false])⟩, Nat.lt_succ_self _, cv_eq (by kernel_rfl)⟩
                · show ((((s.Edges.length : Int))) - (v4 + 1)).toNat < n1; omega
                · exact ⟨(by show 0 ≤ (v4 + 1); first | trivial | omega | (simp only [List.length_append, List.length_cons, List.length_nil]; omega) | (simp only [List.length_set, List.length_append, List.length_cons, List.length_nil]; omega) | (simp only [W64_def]; omega) | (simp; omega) | simp), (by show ((v4 + 1) ≤ ((s.Edges.length : Int)) ∨ (v4 + 1) = 0); first | trivial | omega | (simp only [List.length_append, List.length_cons, List.length_nil]; omega) | (simp only [List.length_set, List.length_append, List.length_cons, List.length_nil]; omega) | (simp only [W64_def]; omega) | (simp; omega) | simp)⟩
            · have g5 := of_decide_eq_false h5
              refine aw_exit ?_
              refine ath_e ?_
              refine ath_e ?_
              refine abl_hit ?_
              refine ath_n ?_
              refine aw_seq ?_
              refine aw_region eqok [] [] [(41, cchainR s.Edges)] [1, 6] [1] [Same (cchainR s.Edges).2.1] ⟨[(1, tP 1 0), (6, tB (FchainR s.Edges))], [(1, .cells (TShape.c s) 26)]⟩ (.cons (okchainR s.Edges (by first | assumption | decide | omega | (simp only [List.length_cons, List.length_nil, List.length_append]; omega))) .nil) (by kernel_rfl) (.cons rfl .nil) ?_
              refine ath_n ?_
              refine aw_seq ?_
              refine aw_draw mixed eqok [] [] [] [1, 6, 7] [1] [0 ≤ (0 : Int) ∧ (0 : Int) < ((s.Edges.length : Nat) : Int), 0 ≤ (W64 (((s.Edges.length : Int)) - 1) : Int) ∧ (W64 (((s.Edges.length : Int)) - 1) : Int) < ((s.Edges.length : Nat) : Int)] ⟨[(1, tP 1 0), (6, tB (FchainR s.Edges)), (7, tB ((decide ((((s.Edges.getD 0 default).A).X) = ((wCheckR_0 s).X)) && (decide ((((s.Edges.getD 0 default).A).Y) = ((wCheckR_0 s).Y)) && true))))], [(1, .cells (TShape.c s) 26)]⟩ .nil (by kernel_rfl) (by kernel_rfl) (.cons (by first | decide | omega | exact idx_tmod (by first | omega | (simp only [W64_def]; omega)) (by omega) | (simp only [W64_def]; omega) | (constructor <;> omega) | (simp only [List.length_append, List.length_cons, List.length_nil]; omega) | (simp only [List.length_append, List.length_cons, List.length_nil, List.length_drop, List.length_take] at *; omega)) (.cons (by first | decide | omega | exact idx_tmod (by first | omega | (simp only [W64_def]; omega)) (by omega) | (simp only [W64_def]; omega) | (constructor <;> omega) | (simp only [List.length_append, List.length_cons, List.length_nil]; omega) | (simp only [List.length_append, List.length_cons, List.length_nil, List.length_drop, List.length_take] at *; omega)) .nil)) ?_
              refine ath_n ?_
              refine aw_seq ?_
              refine aw_seq ?_
              refine aw_region eqok [] [] [] [1, 67] [1] [((!(FchainR s.Edges)) = false) → ((!(FchainR s.Edges)) = false), ((!(FchainR s.Edges)) = false) → ((!(FchainR s.Edges)) = false), ((!(FchainR s.Edges)) = false) → ((!(FchainR s.Edges)) = false), (((!(FchainR s.Edges)) = false) ∧ (decide ((s.Kind : Int) = 2)) = true) → (((!(FchainR s.Edges)) = false) ∧ (decide ((s.Kind : Int) = 2)) = true), ((!(FchainR s.Edges)) = false) → ((!(FchainR s.Edges)) = false), ((!(FchainR s.Edges)) = false) → ((decide ((s.Kind : Int) = 2)) = true → (((!(FchainR s.Edges)) = false) ∧ (decide ((s.Kind : Int) = 2)) = true)), (!(FchainR s.Edges)) = false → ((!(FchainR s.Edges)) = false)] ⟨[(1, tP 1 0), (67, tB (bif !(FchainR s.Edges) then true else bif decide ((s.Kind : Int) = 2) then !((decide ((((s.Edges.getD 0 default).A).X) = ((wCheckR_0 s).X)) && (decide ((((s.Edges.getD 0 default).A).Y) = ((wCheckR_0 s).Y)) && true))) else false))], [(1, .cells (TShape.c s) 26)]⟩ .nil (by kernel_rfl) (.cons id (.cons id (.cons id (.cons id (.cons id (.cons (by intros; first | assumption | exact ⟨by assumption, by assumption⟩ | simp_all) (.cons id .nil))))))) ?_
              refine ath_n ?_
              refine aw_cond (bif !(FchainR s.Edges) then true else bif decide ((s.Kind : Int) = 2) then !((decide ((((s.Edges.getD 0 default).A).X) = ((wCheckR_0 s).X)) && (decide ((((s.Edges.getD 0 default).A).Y) = ((wCheckR_0 s).Y)) && true))) else false) (by kernel_rfl) (fun h6 => ?_) (fun h6 => ?_)
              · refine aw_seq ?_
                refine aw_region eqok [] [] [] [2] [] [] ⟨[(2, tI 12)], []⟩ .nil (by kernel_rfl) .nil ?_
                refine ath_n ?_
                refine aw_ret ?_
                refine ath_r ?_
                exact ⟨_, Cv.refl _, .inl rfl, .av (.one (.i 12)), by kernel_rfl, tve_eq (by rw [← hF1]; first | (simp only [FCheckR_l0, h5, h6, cond_true, cond_false]; done) | (simp only [FCheckR_l0, h5, h6, cond_true, cond_false]; rfl))⟩
              · refine aw_skip ?_
                refine ath_n ?_
                refine aw_seq ?_
                refine aw_seq ?_
                refine aw_region eqok [] [] [] [85] [] [((decide ((s.Kind : Int) = 2)) = true) → ((decide ((s.Kind : Int) = 2)) = true), ((decide ((s.Kind : Int) = 2)) = true) → ((decide ((s.Kind : Int) = 2)) = true), (decide ((s.Kind : Int) = 2)) = true → ((decide ((s.Kind : Int) = 2)) = true), ((bif decide ((s.Kind : Int) = 2) then !decide ((s.R : Int) = 0) else false) = false) → ((bif decide ((s.Kind : Int) = 2) then !decide ((s.R : Int) = 0) else false) = false), ((bif decide ((s.Kind : Int) = 2) then !decide ((s.R : Int) = 0) else false) = false) → ((bif decide ((s.Kind : Int) = 2) then !decide ((s.R : Int) = 0) else false) = false), (bif decide ((s.Kind : Int) = 2) then !decide ((s.R : Int) = 0) else false) = false → ((bif decide ((s.Kind : Int) = 2) then !decide ((s.R : Int) = 0) else false) = false), ((bif bif decide ((s.Kind : Int) = 2) then !decide ((s.R : Int) = 0) else false then true else decide ((s.R : Int) < 0)) = false) → ((bif bif decide ((s.Kind : Int) = 2) then !decide ((s.R : Int) = 0) else false then true else decide ((s.R : Int) < 0)) = false), ((bif bif decide ((s.Kind : Int) = 2) then !decide ((s.R : Int) = 0) else false then true else decide ((s.R : Int) < 0)) = false) → ((bif bif decide ((s.Kind : Int) = 2) then !decide ((s.R : Int) = 0) else false then true else decide ((s.R : Int) < 0)) = false), (bif bif decide ((s.Kind : Int) = 2) then !decide ((s.R : Int) = 0) else false then true else decide ((s.R : Int) < 0)) = false → ((bif bif decide ((s.Kind : Int) = 2) then !decide ((s.R : Int) = 0) else false then true else decide ((s.R : Int) < 0)) = false)] ⟨[(85, tB (bif bif bif decide ((s.Kind : Int) = 2) then !decide ((s.R : Int) = 0) else false then true else decide ((s.R : Int) < 0) then true else decide ((4194304 : Int) < s.R)))], []⟩ .nil (by kernel_rfl) (.cons id (.cons id (.cons id (.cons id (.cons id (.cons id (.cons id (.cons id (.cons id .nil))))))))) ?_
                refine ath_n ?_
                refine aw_cond (bif bif bif decide ((s.Kind : Int) = 2) then !decide ((s.R : Int) = 0) else false then true else decide ((s.R : Int) < 0) then true else decide ((4194304 : Int) < s.R)) (by kernel_rfl) (fun h7 => ?_) (fun h7 => ?_)
                · refine aw_seq ?_
                  refine aw_region eqok [] [] [] [2] [] [] ⟨[(2, tI 3)], []⟩ .nil (by kernel_rfl) .nil ?_
                  refine ath_n ?_
                  refine aw_ret ?_
                  refine ath_r ?_
                  exact ⟨_, Cv.refl _, .inl rfl, .av (.one (.i 3)), by kernel_rfl, tve_eq (by rw [← hF1]; first | (simp only [FCheckR_l0, h5, h6, h7, cond_true, cond_false]; done) | (simp only [FCheckR_l0, h5, h6, h7, cond_true, cond_false]; rfl))⟩
                · refine aw_skip ?_
                  refine ath_n ?_
                  refine aw_seq ?_
                  refine aw_region eqok [] [] [] [2] [] [] ⟨[(2, tI 0)], []⟩ .nil (by kernel_rfl) .nil ?_
                  refine ath_n ?_
                  refine aw_ret ?_
                  exact ⟨_, Cv.refl _, .inl rfl, .av (.one (.i 0)), by kernel_rfl, tve_eq (by rw [← hF1]; first | (simp only [FCheckR_l0, h5, h6, h7, cond_true, cond_false]; done) | (simp only [FCheckR_l0, h5, h6, h7, cond_true, cond_false]; rfl))⟩
    · have g2 := of_decide_eq_false h2
      refine aw_seq ?_
      refine aw_region eqok [] [] [] [2] [] [] ⟨[(2, tI 12)], []⟩ .nil (by kernel_rfl) .nil ?_
      refine ath_n ?_
      refine aw_ret ?_
      refine abl_r ?_
      refine ath_r ?_
      exact ⟨_, Cv.refl _, .inl rfl, .av (.one (.i 12)), by kernel_rfl, tve_eq (by first | (simp only [FCheckR, h1, h2, cond_true, cond_false]; done) | (simp only [FCheckR, h1, h2, cond_true, cond_false]; rfl))⟩
theorem okCheckR (s : TShape) (hl : (s.Edges.length : Int) ≤ 1000000) : CallOk Try.prog (cCheckR s).1 (cCheckR s).2.1 (cCheckR s).2.2 := callOk_pure (fun _ _ => by kernel_rfl) fun _ => pCheckR s hl
def FWithinR (x0 : TRect) (x1 : TPoint) : Bool := bif bif bif decide ((x0.X0 : Int) ≤ x1.X) then decide ((x1.X : Int) ≤ x0.X1) else false then decide ((x0.Y0 : Int) ≤ x1.Y) else false then decide ((x1.Y : Int) ≤ x0.Y1) else false
def cWithinR (x0 : TRect) (x1 : TPoint) : FuncId × List Av × Ef := (49, [.agg (TRect.c x0), .agg (TPoint.c x1)], .val [] (.av (.one (.b (FWithinR x0 x1)))))
set_option maxRecDepth 100000 in
theorem pWithinR (x0 : TRect) (x1 : TPoint) : Pure Try.prog 49 (cWithinR x0 x1).2.1 (.av (.one (.b (FWithinR x0 x1)))) := by
  refine pure_of_awF Try.func49 rfl (by kernel_rfl) (by kernel_rfl) fun W0 M0 => ?_
  refine aw_seq ?_
  refine aw_region eqok [] [] [] [2, 3] [2, 3] [] ⟨[(2, tP 2 0), (3, tP 3 0)], [(2, .cells (TRect.c x0) 54), (3, .cells (TPoint.c x1) 29)]⟩ .nil (by kernel_rfl) .nil ?_
  refine ath_n ?_
  refine aw_seq ?_
  refine aw_region eqok [] [] [] [4] [] [((decide ((x0.X0 : Int) ≤ x1.X)) = true) → ((decide ((x0.X0 : Int) ≤ x1.X)) = true), ((decide ((x0.X0 : Int) ≤ x1.X)) = true) → ((decide ((x0.X0 : Int) ≤ x1.X)) = true), ((decide ((x0.X0 : Int) ≤ x1.X)) = true) → ((decide ((x0.X0 : Int) ≤ x1.X)) = true), ((decide ((x0.X0 : Int) ≤ x1.X)) = true) → ((decide ((x0.X0 : Int) ≤ x1.X)) = true), (decide ((x0.X0 : Int) ≤ x1.X)) = true → ((decide ((x0.X0 : Int) ≤ x1.X)) = true), ((bif decide ((x0.X0 : Int) ≤ x1.X) then decide ((x1.X : Int) ≤ x0.X1) else false) = true) → ((bif decide ((x0.X0 : Int) ≤ x1.X) then decide ((x1.X : Int) ≤ x0.X1) else false) = true), ((bif decide ((x0.X0 : Int) ≤ x1.X) then decide ((x1.X : Int) ≤ x0.X1) else false) = true) → ((bif decide ((x0.X0 : Int) ≤ x1.X) then decide ((x1.X : Int) ≤ x0.X1) else false) = true), ((bif decide ((x0.X0 : Int) ≤ x1.X) then decide ((x1.X : Int) ≤ x0.X1) else false) = true) → ((bif decide ((x0.X0 : Int) ≤ x1.X) then decide ((x1.X : Int) ≤ x0.X1) else false) = true), ((bif decide ((x0.X0 : Int) ≤ x1.X) then decide ((x1.X : Int) ≤ x0.X1) else false) = true) → ((bif decide ((x0.X0 : Int) ≤ x1.X) then decide ((x1.X : Int) ≤ x0.X1) else false) = true), (bif decide ((x0.X0 : Int) ≤ x1.X) then decide ((x1.X : Int) ≤ x0.X1) else false) = true → ((bif decide ((x0.X0 : Int) ≤ x1.X) then decide ((x1.X : Int) ≤ x0.X1) else false) = true), ((bif bif decide ((x0.X0 : Int) ≤ x1.X) then decide ((x1.X : Int) ≤ x0.X1) else false then decide ((x0.Y0 : Int) ≤ x1.Y) else false) = true) → ((bif bif decide ((x0.X0 : Int) ≤ x1.X) then decide ((x1.X : Int) ≤ x0.X1) else false then decide ((x0.Y0 : Int) ≤ x1.Y) else false) = true), ((bif bif decide ((x0.X0 : Int) ≤ x1.X) then decide ((x1.X : Int) ≤ x0.X1) else false then decide ((x0.Y0 : Int) ≤ x1.Y) else false) = true) → ((bif bif decide ((x0.X0 : Int) ≤ x1.X) then decide ((x1.X : Int) ≤ x0.X1) else false then decide ((x0.Y0 : Int) ≤ x1.Y) else false) = true), ((bif bif decide ((x0.X0 : Int) ≤ x1.X) then decide ((x1.X : Int) ≤ x0.X1) else false then decide ((x0.Y0 : Int) ≤ x1.Y) else false) = true) → ((bif bif decide ((x0.X0 : Int) ≤ x1.X) then decide ((x1.X : Int) ≤ x0.X1) else false then decide ((x0.Y0 : Int) ≤ x1.Y) else false) = true), ((bif bif decide ((x0.X0 : Int) ≤ x1.X) then decide ((x1.X : Int) ≤ x0.X1) else false then decide ((x0.Y0 : Int) ≤ x1.Y) else false) = true) → ((bif bif decide ((x0.X0 : Int) ≤ x1.X) then decide ((x1.X : Int) ≤ x0.X1) else false then decide ((x0.Y0 : Int) ≤ x1.Y) else false) = true), (bif bif decide ((x0.X0 : Int) ≤ x1.X) then decide ((x1.X : Int) ≤ x0.X1) else false then decide ((x0.Y0 : Int) ≤ x1.Y) else false) = true → ((bif bif decide ((x0.X0 : Int) ≤ x1.X) then decide ((x1.X : Int) ≤ x0.X1) else false then decide ((x0.Y0 : Int) ≤ x1.Y) else false) = true)] ⟨[(4, tB (bif bif bif decide ((x0.X0 : Int) ≤ x1.X) then decide ((x1.X : Int) ≤ x0.X1) else false then decide ((x0.Y0 : Int) ≤ x1.Y) else false then decide ((x1.Y : Int) ≤ x0.Y1) else false))], []⟩ .nil (by kernel_rfl) (.cons id (.cons id (.cons id (.cons id (.cons id (.cons id (.cons id (.cons id (.cons id (.cons id (.cons id (.cons id (.cons id (.cons id (.cons id .nil))))))))))))))) ?_
  refine ath_n ?_
  refine aw_ret ?_
  exact ⟨_, Cv.refl _, .inl rfl, .av (.one (.b (bif bif bif decide ((x0.X0 : Int) ≤ x1.X) then decide ((x1.X : Int) ≤ x0.X1) else false then decide ((x0.Y0 : Int) ≤ x1.Y) else false then decide ((x1.Y : Int) ≤ x0.Y1) else false))), by kernel_rfl, tve_eq (by rfl)⟩
theorem okWithinR (x0 : TRect) (x1 : TPoint) : CallOk Try.prog (cWithinR x0 x1).1 (cWithinR x0 x1).2.1 (cWithinR x0 x1).2.2 := callOk_pure (fun _ _ => by kernel_rfl) fun _ => pWithinR x0 x1 
def FfarR (x0 : TPoint) (x1 : TPoint) : Int := Fref05Dot (Fref05Sub x0 x1) (Fref05Sub x0 x1)
def cfarR (x0 : TPoint) (x1 : TPoint) : FuncId × List Av × Ef := (91, [.agg (TPoint.c x0), .agg (TPoint.c x1)], .val [] (.av (.one (.i (FfarR x0 x1)))))
set_option maxRecDepth 100000 in
theorem pfarR (x0 : TPoint) (x1 : TPoint) : Pure Try.prog 91 (cfarR x0 x1).2.1 (.av (.one (.i (FfarR x0 x1)))) := by
  refine pure_of_awF Try.func91 rfl (by kernel_rfl) (by kernel_rfl) fun W0 M0 => ?_
  refine aw_seq ?_
  refine aw_region eqok [] [] [] [2, 3] [2, 3] [] ⟨[(2, tP 2 0), (3, tP 3 0)], [(2, .cells (TPoint.c x0) 29), (3, .cells (TPoint.c x1) 29)]⟩ .nil (by kernel_rfl) .nil ?_
  refine ath_n ?_
  refine aw_seq ?_
  refine aw_region eqok [] [] [(8, cref05Sub x0 x1)] [5] [5] [Same (cref05Sub x0 x1).2.1] ⟨[(5, tP 5 0)], [(5, .cells (TPoint.c (Fref05Sub x0 x1)) 29)]⟩ (.cons (okref05Sub x0 x1) .nil) (by kernel_rfl) (.cons rfl .nil) ?_
  refine ath_n ?_
  refine aw_seq ?_
  refine aw_region eqok [] [] [(11, cref05Dot (Fref05Sub x0 x1) (Fref05Sub x0 x1))] [4] [] [Same (cref05Dot (Fref05Sub x0 x1) (Fref05Sub x0 x1)).2.1] ⟨[(4, tI (Fref05Dot (Fref05Sub x0 x1) (Fref05Sub x0 x1)))], []⟩ (.cons (okref05Dot (Fref05Sub x0 x1) (Fref05Sub x0 x1)) .nil) (by kernel_rfl) (.cons rfl .nil) ?_
  refine ath_n ?_
  refine aw_ret ?_
  exact ⟨_, Cv.refl _, .inl rfl, .av (.one (.i (Fref05Dot (Fref05Sub x0 x1) (Fref05Sub x0 x1)))), by kernel_rfl, tve_eq (by rfl)⟩
theorem okfarR (x0 : TPoint) (x1 : TPoint) : CallOk Try.prog (cfarR x0 x1).1 (cfarR x0 x1).2.1 (cfarR x0 x1).2.2 := callOk_pure (fun _ _ => by kernel_rfl) fun _ => pfarR x0 x1 
end Go.Proofs.Ytpnlegfdkkcnlaa
