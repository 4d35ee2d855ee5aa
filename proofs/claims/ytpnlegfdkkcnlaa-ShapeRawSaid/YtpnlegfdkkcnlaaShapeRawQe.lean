/-
  No statement is proved in this text. It holds a part of what the proof of ShapeRaw needs.
-/
import Derived.Test.YtpnlegfdkkcnlaaShapeRawQd
namespace Go.Proofs.Ytpnlegfdkkcnlaa
set_option maxRecDepth 100000
open Go.RowKit
set_option linter.unusedVariables false
set_option linter.unusedSimpArgs false
def wMoveR9_0 (s : TShape) (k : Int) (m : TMotion) : TEdge := Fref06Move (s.Edges.getD k.toNat default) m
def FMoveR9_l0 (s : TShape) (m : TMotion) : Nat → List TEdge → Int → TShape
  | 0, _, _ => default
  | n0 + 1, out_1, k => bif decide ((k : Int) < ((s.Edges.length : Int))) then ((FMoveR9_l0 s m n0) (out_1 ++ [wMoveR9_0 s k m]) (k + 1)) else (TShape.mk s.Kind out_1 s.R)
def FMoveR9 (s : TShape) (m : TMotion) : TShape := FMoveR9_l0 s m (((((s.Edges.length : Int))) - 0).toNat + 1) (([] : List TEdge)) 0
def cMoveR9 (s : TShape) (m : TMotion) : FuncId × List Av × Ef := (34, [.agg (TShape.c s), .agg (TMotion.c m)], .val [] (.av (.agg (TShape.c (FMoveR9 s m)))))
theorem pMoveR9 (s : TShape) (m : TMotion) (h0 : (s.Edges.length : Int) ≤ 1000000) : Pure Try.prog 34 (cMoveR9 s m).2.1 (.av (.agg (TShape.c (FMoveR9 s m)))) := by
  refine pure_of_awF Try.func34 rfl (by kernel_rfl) (by kernel_rfl) fun W0 M0 => ?_
  refine aw_seq ?_
  refine aw_region eqok [] [] [] [2, 3, 4] [2, 3, 4] [] ⟨[(2, tP 2 0), (3, tP 3 0), (4, tP 4 0)], [(2, .cells (TShape.c s) 26), (3, .cells (TMotion.c m) 39), (4, .cells [.i 0, .val (.slice none 0 0), .i 0] 26)]⟩ .nil (by kernel_rfl) .nil <| ath_n <| aw_seq ?_
  refine aw_region eqok [] [] [] [2, 3, 4, 5] [2, 3, 4, 5] [] ⟨[(2, tP 2 0), (3, tP 3 0), (4, tP 4 0), (5, tP 5 0)], [(2, .cells (TShape.c s) 26), (3, .cells (TMotion.c m) 39), (4, .cells [.i 0, .val (.slice none 0 0), .i 0] 26), (5, .cells [.i s.Kind, .val (.slice none 0 0), .i s.R] 26)]⟩ .nil (by kernel_rfl) .nil <| ath_n ?_
  refine aw_seq <| aw_seq ?_
  refine aw_region eqok [] [] [] [2, 3, 4, 5, 6] [2, 3, 4, 5] [] ⟨[(2, tP 2 0), (3, tP 3 0), (4, tP 4 0), (5, tP 5 0), (6, tI 0)], [(2, .cells (TShape.c s) 26), (3, .cells (TMotion.c m) 39), (4, .cells [.i 0, .val (.slice none 0 0), .i 0] 26), (5, .cells [.i s.Kind, .val (.slice none 0 0), .i s.R] 26)]⟩ .nil (by kernel_rfl) .nil <| ath_n <| aw_block ?_
  refine aw_cv (Cv.trans (cv_ghost (⟨[(2, tP 2 0), (3, tP 3 0), (4, tP 4 0), (5, tP 5 0), (6, tI 0)], [(100000, .row 7 0 (fun _ _ => default) 35), (2, .cells (TShape.c s) 26), (3, .cells (TMotion.c m) 39), (4, .cells [.i 0, .val (.slice none 0 0), .i 0] 26), (5, .cells [.i s.Kind, .own 100000 7 0, .i s.R] 26)]⟩) 100000 7 (fun _ _ => default) 35 [] [(5, [1])] (K := none) (fun k x h => by cases h) rfl (by kernel_rfl) (by kernel_rfl)) (Cv.trans (cv_ce (⟨[(2, tP 2 0), (3, tP 3 0), (4, tP 4 0), (5, tP 5 0), (6, tI 0)], [(100000, .row 7 ((([] : List TEdge)).length) (rowF TEdge.c (([] : List TEdge))) 35), (2, .cells (TShape.c s) 26), (3, .cells (TMotion.c m) 39), (4, .cells [.i 0, .val (.slice none 0 0), .i 0] 26), (5, .cells [.i s.Kind, .own 100000 7 ((([] : List TEdge)).length), .i s.R] 26)]⟩) (.cons ⟨rfl, .refl _⟩ (.cons ⟨rfl, .refl _⟩ (.cons ⟨rfl, .refl _⟩ (.cons ⟨rfl, .refl _⟩ (.cons ⟨rfl, .refl _⟩ .nil))))) (.cons ⟨rfl, bke_told 35 (told_nil 7 (fun _ _ => default) TEdge.c)⟩ (.cons ⟨rfl, .refl _⟩ (.cons ⟨rfl, .refl _⟩ (.cons ⟨rfl, .refl _⟩ (.cons ⟨rfl, .cells _ (.cons (.refl _) (.cons (.own _ _ au3) (.cons (.refl _) .nil)))⟩ .nil)))))) (Cv.trans (cv_keep [2, 3, 4, 5, 6] [2, 3, 4, 5, 100000] (⟨[(2, tP 2 0), (3, tP 3 0), (4, tP 4 0), (5, tP 5 0), (6, tI 0)], [(2, .cells (TShape.c s) 26), (3, .cells (TMotion.c m) 39), (4, .cells [.i 0, .val (.slice none 0 0), .i 0] 26), (5, .cells [.i s.Kind, .own 100000 7 ((([] : List TEdge)).length), .i s.R] 26), (100000, .row 7 ((([] : List TEdge)).length) (rowF TEdge.c (([] : List TEdge))) 35)]⟩) (by kernel_rfl)) (Cv.refl _)))) ?_
  refine aw_loopC (ι := Nat × List TEdge × Int) (fun x => ⟨[(2, tP 2 0), (3, tP 3 0), (4, tP 4 0), (5, tP 5 0), (6, tI x.2.2)], [(2, .cells (TShape.c s) 26), (3, .cells (TMotion.c m) 39), (4, .cells [.i 0, .val (.slice none 0 0), .i 0] 26), (5, .cells [.i s.Kind, .own 100000 7 x.2.1.length, .i s.R] 26), (100000, .row 7 x.2.1.length (rowF TEdge.c x.2.1) 35)]⟩) (fun x => ((((s.Edges.length : Int))) - x.2.2).toNat < x.1 ∧ (0 ≤ x.2.2 ∧ (x.2.2 ≤ ((s.Edges.length : Int)) ∨ x.2.2 = 0) ∧ (x.2.1.length : Int) ≤ 0 + 1 * (x.2.2 - 0)) ∧ FMoveR9_l0 s m x.1 x.2.1 x.2.2 = FMoveR9 s m) (fun x => x.1) ?_ (((((s.Edges.length : Int))) - 0).toNat + 1, ([] : List TEdge), 0) ⟨Nat.lt_succ_self _, ⟨(by show 0 ≤ 0; first | trivial | omega | (simp only [List.length_append, List.length_cons, List.length_nil]; omega) | (simp only [List.length_set, List.length_append, List.length_cons, List.length_nil]; omega) | (simp only [W64_def]; omega) | (simp; omega) | simp), (by show (0 ≤ ((s.Edges.length : Int)) ∨ 0 = 0); first | trivial | omega | (simp only [List.length_append, List.length_cons, List.length_nil]; omega) | (simp only [List.length_set, List.length_append, List.length_cons, List.length_nil]; omega) | (simp only [W64_def]; omega) | (simp; omega) | simp), (by show ((([] : List TEdge)).length : Int) ≤ 0 + 1 * (0 - 0); first | trivial | omega | (simp only [List.length_append, List.length_cons, List.length_nil]; omega) | (simp only [List.length_set, List.length_append, List.length_cons, List.length_nil]; omega) | (simp only [W64_def]; omega) | (simp; omega) | simp)⟩, (by simp only [FMoveR9, cond_true, cond_false])⟩
  rintro ⟨n0, out_1, k⟩ ⟨hn, hinv, hF⟩
  have hm0 : ((((s.Edges.length : Int))) - k).toNat < n0 := hn; have hinv0 : 0 ≤ k ∧ (k ≤ ((s.Edges.length : Int)) ∨ k = 0) ∧ (out_1.length : Int) ≤ 0 + 1 * (k - 0) := hinv; have hF0 : FMoveR9_l0 s m n0 out_1 k = FMoveR9 s m := hF; clear hn hinv hF
  cases n0 with
  | zero => exact absurd hm0 (Nat.not_lt_zero _)
  | succ n0 =>
    refine aw_seq <| aw_seq ?_
    refine aw_region eqok [] [] [] [2, 3, 4, 5, 6, 16] [2, 3, 4, 5, 100000] [] ⟨[(2, tP 2 0), (3, tP 3 0), (4, tP 4 0), (5, tP 5 0), (6, tI k), (16, tB (decide ((k : Int) < ((s.Edges.length : Int)))))], [(2, .cells (TShape.c s) 26), (3, .cells (TMotion.c m) 39), (4, .cells [.i 0, .val (.slice none 0 0), .i 0] 26), (5, .cells [.i s.Kind, .own 100000 7 out_1.length, .i s.R] 26), (100000, .row 7 out_1.length (rowF TEdge.c out_1) 35)]⟩ .nil (by kernel_rfl) .nil <| ath_n ?_
    refine aw_cond (decide ((k : Int) < ((s.Edges.length : Int)))) (by kernel_rfl) (fun h1 => ?_) (fun h1 => ?_)
    · have g1 := of_decide_eq_true h1
      refine aw_skip <| ath_n ?_
      refine aw_seq <| aw_block ?_
      refine aw_draw mixed eqok [] [] [(27, cref06Move (s.Edges.getD k.toNat default) m)] [2, 3, 4, 5, 6] [2, 3, 4, 5, 29] [0 ≤ (k : Int) ∧ (k : Int) < ((s.Edges.length : Nat) : Int), Same (cref06Move (s.Edges.getD k.toNat default) m).2.1, out_1.length = out_1.length, out_1.length + 1 ≤ maxLen, (out_1.length + 1) * 56 ≤ 140737488355328] ⟨[(2, tP 2 0), (3, tP 3 0), (4, tP 4 0), (5, tP 5 0), (6, tI k)], [(2, .cells (TShape.c s) 26), (3, .cells (TMotion.c m) 39), (4, .cells [.i 0, .val (.slice none 0 0), .i 0] 26), (5, .cells [.i s.Kind, .own 29 7 (out_1.length + 1), .i s.R] 26), (29, .row 7 (out_1.length + 1) (fun i j => if i < out_1.length then (rowF TEdge.c out_1) i j else (colsC 7 1 [.i ((wMoveR9_0 s k m).Kind), .i (((wMoveR9_0 s k m).A).X), .i (((wMoveR9_0 s k m).A).Y), .i (((wMoveR9_0 s k m).B).X), .i (((wMoveR9_0 s k m).B).Y), .i (((wMoveR9_0 s k m).C).X), .i (((wMoveR9_0 s k m).C).Y)]) (i - out_1.length) j) 35)]⟩ (.cons (okref06Move (s.Edges.getD k.toNat default) m) .nil) (by kernel_rfl) (by kernel_rfl) (.cons au1 (.cons rfl (.cons rfl (.cons au2 (.cons au2 .nil))))) <| abl_n <| ath_n ?_
      refine aw_cv (Cv.trans (cv_ce (⟨[(2, tP 2 0), (3, tP 3 0), (4, tP 4 0), (5, tP 5 0), (6, tI k)], [(2, .cells (TShape.c s) 26), (3, .cells (TMotion.c m) 39), (4, .cells [.i 0, .val (.slice none 0 0), .i 0] 26), (5, .cells [.i s.Kind, .own 29 7 ((out_1 ++ [wMoveR9_0 s k m]).length), .i s.R] 26), (29, .row 7 ((out_1 ++ [wMoveR9_0 s k m]).length) (rowF TEdge.c (out_1 ++ [wMoveR9_0 s k m])) 35)]⟩) (.cons ⟨rfl, .refl _⟩ (.cons ⟨rfl, .refl _⟩ (.cons ⟨rfl, .refl _⟩ (.cons ⟨rfl, .refl _⟩ (.cons ⟨rfl, .refl _⟩ .nil))))) (.cons ⟨rfl, .refl _⟩ (.cons ⟨rfl, .refl _⟩ (.cons ⟨rfl, .refl _⟩ (.cons ⟨rfl, .cells _ (.cons (.refl _) (.cons (.own _ _ au3) (.cons (.refl _) .nil)))⟩ (.cons ⟨rfl, bke_told 35 (told_app (told_rfl 7 TEdge.c out_1) (told_lit (c := TEdge.c) (xs := ([wMoveR9_0 s k m] : List TEdge)) rfl (by kernel_rfl)))⟩ .nil)))))) (Cv.refl _)) ?_
      refine aw_region eqok [] [] [] [2, 3, 4, 5, 6] [2, 3, 4, 5, 29] [] ⟨[(2, tP 2 0), (3, tP 3 0), (4, tP 4 0), (5, tP 5 0), (6, tI (W64 (k + 1)))], [(2, .cells (TShape.c s) 26), (3, .cells (TMotion.c m) 39), (4, .cells [.i 0, .val (.slice none 0 0), .i 0] 26), (5, .cells [.i s.Kind, .own 29 7 ((out_1 ++ [wMoveR9_0 s k m]).length), .i s.R] 26), (29, .row 7 ((out_1 ++ [wMoveR9_0 s k m]).length) (rowF TEdge.c (out_1 ++ [wMoveR9_0 s k m])) 35)]⟩ .nil (by kernel_rfl) .nil ?_
      (try rw [(show W64 (k + 1) = k + 1 from W64_id (by omega) au4)])
      refine ath_n ?_
      refine ⟨(n0, out_1 ++ [wMoveR9_0 s k m], k + 1), ⟨?_, ?_, (by rw [← hF0]; simp only [FMoveR9_l0, h1, cond_true, cond_false])⟩, Nat.lt_succ_self _, Cv.trans (cv_ren (⟨[(2, tP 2 0), (3, tP 3 0), (4, tP 4 0), (5, tP 5 0), (6, tI (k + 1))], [(2, .cells (TShape.c s) 26), (3, .cells (TMotion.c m) 39), (4, .cells [.i 0, .val (.slice none 0 0), .i 0] 26), (5, .cells [.i s.Kind, .own 100000 7 ((out_1 ++ [wMoveR9_0 s k m]).length), .i s.R] 26), (100000, .row 7 ((out_1 ++ [wMoveR9_0 s k m]).length) (rowF TEdge.c (out_1 ++ [wMoveR9_0 s k m])) 35)]⟩) 29 100000 (K := none) (fun k x h => by cases h) rfl rfl (by kernel_rfl) (by kernel_rfl)) (cv_eq (by kernel_rfl))⟩
      · show ((((s.Edges.length : Int))) - (k + 1)).toNat < n0; omega
      · exact ⟨(by show 0 ≤ (k + 1); first | trivial | omega | (simp only [List.length_append, List.length_cons, List.length_nil]; omega) | (simp only [List.length_set, List.length_append, List.length_cons, List.length_nil]; omega) | (simp only [W64_def]; omega) | (simp; omega) | simp), (by show ((k + 1) ≤ ((s.Edges.length : Int)) ∨ (k + 1) = 0); first | trivial | omega | (simp only [List.length_append, List.length_cons, List.length_nil]; omega) | (simp only [List.length_set, List.length_append, List.length_cons, List.length_nil]; omega) | (simp only [W64_def]; omega) | (simp; omega) | simp), (by show ((out_1 ++ [wMoveR9_0 s k m]).length : Int) ≤ 0 + 1 * ((k + 1) - 0); first | trivial | omega | (simp only [List.length_append, List.length_cons, List.length_nil]; omega) | (simp only [List.length_set, List.length_append, List.length_cons, List.length_nil]; omega) | (simp only [W64_def]; omega) | (simp; omega) | simp)⟩
    · have g1 := of_decide_eq_false h1
      refine aw_exit <| ath_e ?_
      refine ath_e <| abl_hit ?_
      refine ath_n <| aw_seq ?_
      refine aw_region eqok [] [] [] [4] [4, 100000] [] ⟨[(4, tP 4 0)], [(4, .cells [.i s.Kind, .own 100000 7 out_1.length, .i s.R] 26), (100000, .row 7 out_1.length (rowF TEdge.c out_1) 35)]⟩ .nil (by kernel_rfl) .nil <| ath_n <| aw_ret ?_
      exact ⟨_, Cv.trans (cv_fz (⟨[(4, tP 4 0)], [(4, .cells [.i s.Kind, lst 7 TEdge.c out_1, .i s.R] 26)]⟩) 100000 7 out_1.length (rowF TEdge.c out_1) 35 (K := none) (fun k x h => by cases h) (by kernel_rfl) (by kernel_rfl) (.cons ⟨rfl, rfl⟩ .nil) (by kernel_rfl)) (Cv.refl _), .inl rfl, .av (.agg [.i s.Kind, lst 7 TEdge.c out_1, .i s.R]), by kernel_rfl, tve_eq (by rw [← hF0]; first | (simp only [FMoveR9_l0, h1, cond_true, cond_false]; done) | (simp only [FMoveR9_l0, h1, cond_true, cond_false]; rfl))⟩
theorem okMoveR9 (s : TShape) (m : TMotion) (h0 : (s.Edges.length : Int) ≤ 1000000) : CallOk Try.prog (cMoveR9 s m).1 (cMoveR9 s m).2.1 (cMoveR9 s m).2.2 := callOk_pure (fun _ _ => by kernel_rfl) fun _ => pMoveR9 s m h0
end Go.Proofs.Ytpnlegfdkkcnlaa
namespace Go.Proofs.Ytpnlegfdkkcnlaa
set_option maxRecDepth 100000
open Go.RowKit
set_option linter.unusedVariables false
set_option linter.unusedSimpArgs false
def FDiscS (x0 : TPoint) (x1 : Int) : TShape := TShape.mk 1 [TEdge.mk 1 x0 x0 (TPoint.mk 0 0)] x1
def cDiscS (x0 : TPoint) (x1 : Int) : FuncId × List Av × Ef := (30, [.agg (TPoint.c x0), .one (.i x1)], .val [] (.av (.agg (TShape.c (FDiscS x0 x1)))))
theorem pDiscS (x0 : TPoint) (x1 : Int) : Pure Try.prog 30 (cDiscS x0 x1).2.1 (.av (.agg (TShape.c (FDiscS x0 x1)))) := by
  refine pure_of_awF Try.func30 rfl (by kernel_rfl) (by kernel_rfl) fun W0 M0 => ?_
  refine aw_seq ?_
  refine aw_region eqok [] [] [] [1, 2, 4] [2, 4] [] ⟨[(1, tI x1), (2, tP 2 0), (4, tP 4 0)], [(2, .cells (TPoint.c x0) 29), (4, .cells [.i 0, .val (.slice none 0 0), .i 0] 26)]⟩ .nil (by kernel_rfl) .nil <| ath_n <| aw_seq ?_
  refine aw_region eqok [] [] [] [4] [4] [] ⟨[(4, tP 4 0)], [(4, .cells [.i 1, .list true 7 1 (colsC 7 1 [.i 1, .i x0.X, .i x0.Y, .i x0.X, .i x0.Y, .i 0, .i 0]), .i x1] 26)]⟩ .nil (by kernel_rfl) .nil <| ath_n <| aw_ret ?_
  exact ⟨_, Cv.refl _, .inl rfl, .av (.agg [.i 1, .list true 7 1 (colsC 7 1 [.i 1, .i x0.X, .i x0.Y, .i x0.X, .i x0.Y, .i 0, .i 0]), .i x1]), by kernel_rfl, tve_of (y := .av (.agg [.i 1, lst 7 TEdge.c [TEdge.mk 1 x0 x0 (TPoint.mk 0 0)], .i x1])) (.av (.agg (.cons (.refl _) (.cons (cle_told true (told_lit (c := TEdge.c) (xs := ([TEdge.mk 1 x0 x0 (TPoint.mk 0 0)] : List TEdge)) rfl (by kernel_rfl))) (.cons (.refl _) .nil))))) (by rfl)⟩
theorem okDiscS (x0 : TPoint) (x1 : Int) : CallOk Try.prog (cDiscS x0 x1).1 (cDiscS x0 x1).2.1 (cDiscS x0 x1).2.2 := callOk_pure (fun _ _ => by kernel_rfl) fun _ => pDiscS x0 x1
def FRectS (x0 : TRect) : TShape := TShape.mk 2 ((([TEdge.mk 1 (TPoint.mk x0.X0 x0.Y0) (TPoint.mk x0.X1 x0.Y0) (TPoint.mk 0 0)] ++ [TEdge.mk 1 (TPoint.mk x0.X1 x0.Y0) (TPoint.mk x0.X1 x0.Y1) (TPoint.mk 0 0)]) ++ [TEdge.mk 1 (TPoint.mk x0.X1 x0.Y1) (TPoint.mk x0.X0 x0.Y1) (TPoint.mk 0 0)]) ++ [TEdge.mk 1 (TPoint.mk x0.X0 x0.Y1) (TPoint.mk x0.X0 x0.Y0) (TPoint.mk 0 0)]) 0
def cRectS (x0 : TRect) : FuncId × List Av × Ef := (31, [.agg (TRect.c x0)], .val [] (.av (.agg (TShape.c (FRectS x0)))))
theorem pRectS (x0 : TRect) : Pure Try.prog 31 (cRectS x0).2.1 (.av (.agg (TShape.c (FRectS x0)))) := by
  refine pure_of_awF Try.func31 rfl (by kernel_rfl) (by kernel_rfl) fun W0 M0 => ?_
  refine aw_seq ?_
  refine aw_region eqok [] [] [] [1, 2] [1, 2] [] ⟨[(1, tP 1 0), (2, tP 2 0)], [(1, .cells (TRect.c x0) 54), (2, .cells [.i 0, .val (.slice none 0 0), .i 0] 26)]⟩ .nil (by kernel_rfl) .nil <| ath_n <| aw_seq ?_
  refine aw_region eqok [] [] [] [2, 3] [2, 3] [] ⟨[(2, tP 2 0), (3, tP 3 0)], [(2, .cells [.i 0, .val (.slice none 0 0), .i 0] 26), (3, .cells [.i x0.X0, .i x0.Y0, .i x0.X1, .i x0.Y0, .i x0.X1, .i x0.Y1, .i x0.X0, .i x0.Y1] 97)]⟩ .nil (by kernel_rfl) .nil <| ath_n <| aw_seq ?_
  refine aw_region eqok [] [] [] [2, 3, 4] [2, 3, 4] [] ⟨[(2, tP 2 0), (3, tP 3 0), (4, tP 4 0)], [(2, .cells [.i 0, .val (.slice none 0 0), .i 0] 26), (3, .cells [.i x0.X0, .i x0.Y0, .i x0.X1, .i x0.Y0, .i x0.X1, .i x0.Y1, .i x0.X0, .i x0.Y1] 97), (4, .cells [.i 2, .val (.slice none 0 0), .i 0] 26)]⟩ .nil (by kernel_rfl) .nil <| ath_n ?_
  refine aw_seq <| aw_seq ?_
  refine aw_region eqok [] [] [] [2, 3, 4, 28] [2, 3, 4] [] ⟨[(2, tP 2 0), (3, tP 3 0), (4, tP 4 0), (28, tI 0)], [(2, .cells [.i 0, .val (.slice none 0 0), .i 0] 26), (3, .cells [.i x0.X0, .i x0.Y0, .i x0.X1, .i x0.Y0, .i x0.X1, .i x0.Y1, .i x0.X0, .i x0.Y1] 97), (4, .cells [.i 2, .val (.slice none 0 0), .i 0] 26)]⟩ .nil (by kernel_rfl) .nil <| ath_n <| aw_block ?_
  refine aw_unroll 5 ?_
  refine aw_round <| aw_seq ?_
  refine aw_region eqok [] [] [] [2, 3, 4, 28, 29] [2, 3, 4] [] ⟨[(2, tP 2 0), (3, tP 3 0), (4, tP 4 0), (28, tI 0), (29, tB true)], [(2, .cells [.i 0, .val (.slice none 0 0), .i 0] 26), (3, .cells [.i x0.X0, .i x0.Y0, .i x0.X1, .i x0.Y0, .i x0.X1, .i x0.Y1, .i x0.X0, .i x0.Y1] 97), (4, .cells [.i 2, .val (.slice none 0 0), .i 0] 26)]⟩ .nil (by kernel_rfl) .nil <| ath_n <| aw_seq ?_
  refine aw_cond_t (by kernel_rfl) <| aw_skip ?_
  refine ath_n <| aw_seq ?_
  refine aw_block <| aw_seq ?_
  refine aw_region eqok [] [] [] [2, 3, 4, 5, 28] [2, 3, 4] [] ⟨[(2, tP 2 0), (3, tP 3 0), (4, tP 4 0), (5, tI 0), (28, tI 0)], [(2, .cells [.i 0, .val (.slice none 0 0), .i 0] 26), (3, .cells [.i x0.X0, .i x0.Y0, .i x0.X1, .i x0.Y0, .i x0.X1, .i x0.Y1, .i x0.X0, .i x0.Y1] 97), (4, .cells [.i 2, .val (.slice none 0 0), .i 0] 26)]⟩ .nil (by kernel_rfl) .nil <| ath_n ?_
  refine aw_draw mixed eqok [] [] [] [2, 3, 4, 28] [2, 3, 4, 43] [0 ≤ (0 : Int) ∧ (0 : Int) < (4 : Int), (4 : Int) ≠ 0, 0 ≤ (1 : Int) ∧ (1 : Int) < (4 : Int), 1 ≤ maxLen, 1 * 56 ≤ 140737488355328] ⟨[(2, tP 2 0), (3, tP 3 0), (4, tP 4 0), (28, tI 0)], [(2, .cells [.i 0, .val (.slice none 0 0), .i 0] 26), (3, .cells [.i x0.X0, .i x0.Y0, .i x0.X1, .i x0.Y0, .i x0.X1, .i x0.Y1, .i x0.X0, .i x0.Y1] 97), (4, .cells [.i 2, .own 43 7 1, .i 0] 26), (43, .row 7 1 (colsC 7 1 [.i 1, .i x0.X0, .i x0.Y0, .i x0.X1, .i x0.Y0, .i 0, .i 0]) 35)]⟩ .nil (by kernel_rfl) (by kernel_rfl) (.cons (by decide) (.cons au5 (.cons (by decide) (.cons au2 (.cons au2 .nil))))) <| abl_n <| ath_n ?_
  refine aw_cv (Cv.trans (cv_ce (⟨[(2, tP 2 0), (3, tP 3 0), (4, tP 4 0), (28, tI 0)], [(2, .cells [.i 0, .val (.slice none 0 0), .i 0] 26), (3, .cells [.i x0.X0, .i x0.Y0, .i x0.X1, .i x0.Y0, .i x0.X1, .i x0.Y1, .i x0.X0, .i x0.Y1] 97), (4, .cells [.i 2, .own 43 7 ([TEdge.mk 1 (TPoint.mk x0.X0 x0.Y0) (TPoint.mk x0.X1 x0.Y0) (TPoint.mk 0 0)].length), .i 0] 26), (43, .row 7 ([TEdge.mk 1 (TPoint.mk x0.X0 x0.Y0) (TPoint.mk x0.X1 x0.Y0) (TPoint.mk 0 0)].length) (rowF TEdge.c [TEdge.mk 1 (TPoint.mk x0.X0 x0.Y0) (TPoint.mk x0.X1 x0.Y0) (TPoint.mk 0 0)]) 35)]⟩) (.cons ⟨rfl, .refl _⟩ (.cons ⟨rfl, .refl _⟩ (.cons ⟨rfl, .refl _⟩ (.cons ⟨rfl, .refl _⟩ .nil)))) (.cons ⟨rfl, .refl _⟩ (.cons ⟨rfl, .refl _⟩ (.cons ⟨rfl, .cells _ (.cons (.refl _) (.cons (.own _ _ au3) (.cons (.refl _) .nil)))⟩ (.cons ⟨rfl, bke_told 35 (told_lit (c := TEdge.c) (xs := ([TEdge.mk 1 (TPoint.mk x0.X0 x0.Y0) (TPoint.mk x0.X1 x0.Y0) (TPoint.mk 0 0)] : List TEdge)) rfl (by kernel_rfl))⟩ .nil))))) (Cv.refl _)) ?_
  refine aw_region eqok [] [] [] [2, 3, 4, 28] [2, 3, 4, 43] [] ⟨[(2, tP 2 0), (3, tP 3 0), (4, tP 4 0), (28, tI 1)], [(2, .cells [.i 0, .val (.slice none 0 0), .i 0] 26), (3, .cells [.i x0.X0, .i x0.Y0, .i x0.X1, .i x0.Y0, .i x0.X1, .i x0.Y1, .i x0.X0, .i x0.Y1] 97), (4, .cells [.i 2, .own 43 7 ([TEdge.mk 1 (TPoint.mk x0.X0 x0.Y0) (TPoint.mk x0.X1 x0.Y0) (TPoint.mk 0 0)].length), .i 0] 26), (43, .row 7 ([TEdge.mk 1 (TPoint.mk x0.X0 x0.Y0) (TPoint.mk x0.X1 x0.Y0) (TPoint.mk 0 0)].length) (rowF TEdge.c [TEdge.mk 1 (TPoint.mk x0.X0 x0.Y0) (TPoint.mk x0.X1 x0.Y0) (TPoint.mk 0 0)]) 35)]⟩ .nil (by kernel_rfl) .nil <| ath_n ?_
  refine aw_round ?_
  refine aw_cv (Cv.trans (cv_ren (⟨[(2, tP 2 0), (3, tP 3 0), (4, tP 4 0), (28, tI 1)], [(2, .cells [.i 0, .val (.slice none 0 0), .i 0] 26), (3, .cells [.i x0.X0, .i x0.Y0, .i x0.X1, .i x0.Y0, .i x0.X1, .i x0.Y1, .i x0.X0, .i x0.Y1] 97), (4, .cells [.i 2, .own 100000 7 ([TEdge.mk 1 (TPoint.mk x0.X0 x0.Y0) (TPoint.mk x0.X1 x0.Y0) (TPoint.mk 0 0)].length), .i 0] 26), (100000, .row 7 ([TEdge.mk 1 (TPoint.mk x0.X0 x0.Y0) (TPoint.mk x0.X1 x0.Y0) (TPoint.mk 0 0)].length) (rowF TEdge.c [TEdge.mk 1 (TPoint.mk x0.X0 x0.Y0) (TPoint.mk x0.X1 x0.Y0) (TPoint.mk 0 0)]) 35)]⟩) 43 100000 (K := none) (fun k x h => by cases h) rfl rfl (by kernel_rfl) (by kernel_rfl)) (Cv.refl _)) <| aw_seq ?_
  refine aw_region eqok [] [] [] [2, 3, 4, 28, 29] [2, 3, 4, 100000] [] ⟨[(2, tP 2 0), (3, tP 3 0), (4, tP 4 0), (28, tI 1), (29, tB true)], [(2, .cells [.i 0, .val (.slice none 0 0), .i 0] 26), (3, .cells [.i x0.X0, .i x0.Y0, .i x0.X1, .i x0.Y0, .i x0.X1, .i x0.Y1, .i x0.X0, .i x0.Y1] 97), (4, .cells [.i 2, .own 100000 7 ([TEdge.mk 1 (TPoint.mk x0.X0 x0.Y0) (TPoint.mk x0.X1 x0.Y0) (TPoint.mk 0 0)].length), .i 0] 26), (100000, .row 7 ([TEdge.mk 1 (TPoint.mk x0.X0 x0.Y0) (TPoint.mk x0.X1 x0.Y0) (TPoint.mk 0 0)].length) (rowF TEdge.c [TEdge.mk 1 (TPoint.mk x0.X0 x0.Y0) (TPoint.mk x0.X1 x0.Y0) (TPoint.mk 0 0)]) 35)]⟩ .nil (by kernel_rfl) .nil <| ath_n <| aw_seq ?_
  refine aw_cond_t (by kernel_rfl) <| aw_skip ?_
  refine ath_n <| aw_seq ?_
  refine aw_block <| aw_seq ?_
  refine aw_region eqok [] [] [] [2, 3, 4, 5, 28] [2, 3, 4, 100000] [] ⟨[(2, tP 2 0), (3, tP 3 0), (4, tP 4 0), (5, tI 1), (28, tI 1)], [(2, .cells [.i 0, .val (.slice none 0 0), .i 0] 26), (3, .cells [.i x0.X0, .i x0.Y0, .i x0.X1, .i x0.Y0, .i x0.X1, .i x0.Y1, .i x0.X0, .i x0.Y1] 97), (4, .cells [.i 2, .own 100000 7 ([TEdge.mk 1 (TPoint.mk x0.X0 x0.Y0) (TPoint.mk x0.X1 x0.Y0) (TPoint.mk 0 0)].length), .i 0] 26), (100000, .row 7 ([TEdge.mk 1 (TPoint.mk x0.X0 x0.Y0) (TPoint.mk x0.X1 x0.Y0) (TPoint.mk 0 0)].length) (rowF TEdge.c [TEdge.mk 1 (TPoint.mk x0.X0 x0.Y0) (TPoint.mk x0.X1 x0.Y0) (TPoint.mk 0 0)]) 35)]⟩ .nil (by kernel_rfl) .nil <| ath_n ?_
  refine aw_draw mixed eqok [] [] [] [2, 3, 4, 28] [2, 3, 4, 43] [0 ≤ (1 : Int) ∧ (1 : Int) < (4 : Int), (4 : Int) ≠ 0, 0 ≤ (2 : Int) ∧ (2 : Int) < (4 : Int), [TEdge.mk 1 (TPoint.mk x0.X0 x0.Y0) (TPoint.mk x0.X1 x0.Y0) (TPoint.mk 0 0)].length = [TEdge.mk 1 (TPoint.mk x0.X0 x0.Y0) (TPoint.mk x0.X1 x0.Y0) (TPoint.mk 0 0)].length, ([TEdge.mk 1 (TPoint.mk x0.X0 x0.Y0) (TPoint.mk x0.X1 x0.Y0) (TPoint.mk 0 0)].length) + 1 ≤ maxLen, (([TEdge.mk 1 (TPoint.mk x0.X0 x0.Y0) (TPoint.mk x0.X1 x0.Y0) (TPoint.mk 0 0)].length) + 1) * 56 ≤ 140737488355328] ⟨[(2, tP 2 0), (3, tP 3 0), (4, tP 4 0), (28, tI 1)], [(2, .cells [.i 0, .val (.slice none 0 0), .i 0] 26), (3, .cells [.i x0.X0, .i x0.Y0, .i x0.X1, .i x0.Y0, .i x0.X1, .i x0.Y1, .i x0.X0, .i x0.Y1] 97), (4, .cells [.i 2, .own 43 7 (([TEdge.mk 1 (TPoint.mk x0.X0 x0.Y0) (TPoint.mk x0.X1 x0.Y0) (TPoint.mk 0 0)].length) + 1), .i 0] 26), (43, .row 7 (([TEdge.mk 1 (TPoint.mk x0.X0 x0.Y0) (TPoint.mk x0.X1 x0.Y0) (TPoint.mk 0 0)].length) + 1) (fun i j => if i < ([TEdge.mk 1 (TPoint.mk x0.X0 x0.Y0) (TPoint.mk x0.X1 x0.Y0) (TPoint.mk 0 0)].length) then (rowF TEdge.c [TEdge.mk 1 (TPoint.mk x0.X0 x0.Y0) (TPoint.mk x0.X1 x0.Y0) (TPoint.mk 0 0)]) i j else (colsC 7 1 [.i 1, .i x0.X1, .i x0.Y0, .i x0.X1, .i x0.Y1, .i 0, .i 0]) (i - ([TEdge.mk 1 (TPoint.mk x0.X0 x0.Y0) (TPoint.mk x0.X1 x0.Y0) (TPoint.mk 0 0)].length)) j) 35)]⟩ .nil (by kernel_rfl) (by kernel_rfl) (.cons (by decide) (.cons au5 (.cons (by decide) (.cons rfl (.cons au2 (.cons au2 .nil)))))) <| abl_n <| ath_n ?_
  refine aw_cv (Cv.trans (cv_ce (⟨[(2, tP 2 0), (3, tP 3 0), (4, tP 4 0), (28, tI 1)], [(2, .cells [.i 0, .val (.slice none 0 0), .i 0] 26), (3, .cells [.i x0.X0, .i x0.Y0, .i x0.X1, .i x0.Y0, .i x0.X1, .i x0.Y1, .i x0.X0, .i x0.Y1] 97), (4, .cells [.i 2, .own 43 7 (([TEdge.mk 1 (TPoint.mk x0.X0 x0.Y0) (TPoint.mk x0.X1 x0.Y0) (TPoint.mk 0 0)] ++ [TEdge.mk 1 (TPoint.mk x0.X1 x0.Y0) (TPoint.mk x0.X1 x0.Y1) (TPoint.mk 0 0)]).length), .i 0] 26), (43, .row 7 (([TEdge.mk 1 (TPoint.mk x0.X0 x0.Y0) (TPoint.mk x0.X1 x0.Y0) (TPoint.mk 0 0)] ++ [TEdge.mk 1 (TPoint.mk x0.X1 x0.Y0) (TPoint.mk x0.X1 x0.Y1) (TPoint.mk 0 0)]).length) (rowF TEdge.c ([TEdge.mk 1 (TPoint.mk x0.X0 x0.Y0) (TPoint.mk x0.X1 x0.Y0) (TPoint.mk 0 0)] ++ [TEdge.mk 1 (TPoint.mk x0.X1 x0.Y0) (TPoint.mk x0.X1 x0.Y1) (TPoint.mk 0 0)])) 35)]⟩) (.cons ⟨rfl, .refl _⟩ (.cons ⟨rfl, .refl _⟩ (.cons ⟨rfl, .refl _⟩ (.cons ⟨rfl, .refl _⟩ .nil)))) (.cons ⟨rfl, .refl _⟩ (.cons ⟨rfl, .refl _⟩ (.cons ⟨rfl, .cells _ (.cons (.refl _) (.cons (.own _ _ au3) (.cons (.refl _) .nil)))⟩ (.cons ⟨rfl, bke_told 35 (told_app (told_rfl 7 TEdge.c [TEdge.mk 1 (TPoint.mk x0.X0 x0.Y0) (TPoint.mk x0.X1 x0.Y0) (TPoint.mk 0 0)]) (told_lit (c := TEdge.c) (xs := ([TEdge.mk 1 (TPoint.mk x0.X1 x0.Y0) (TPoint.mk x0.X1 x0.Y1) (TPoint.mk 0 0)] : List TEdge)) rfl (by kernel_rfl)))⟩ .nil))))) (Cv.refl _)) ?_
  refine aw_region eqok [] [] [] [2, 3, 4, 28] [2, 3, 4, 43] [] ⟨[(2, tP 2 0), (3, tP 3 0), (4, tP 4 0), (28, tI 2)], [(2, .cells [.i 0, .val (.slice none 0 0), .i 0] 26), (3, .cells [.i x0.X0, .i x0.Y0, .i x0.X1, .i x0.Y0, .i x0.X1, .i x0.Y1, .i x0.X0, .i x0.Y1] 97), (4, .cells [.i 2, .own 43 7 (([TEdge.mk 1 (TPoint.mk x0.X0 x0.Y0) (TPoint.mk x0.X1 x0.Y0) (TPoint.mk 0 0)] ++ [TEdge.mk 1 (TPoint.mk x0.X1 x0.Y0) (TPoint.mk x0.X1 x0.Y1) (TPoint.mk 0 0)]).length), .i 0] 26), (43, .row 7 (([TEdge.mk 1 (TPoint.mk x0.X0 x0.Y0) (TPoint.mk x0.X1 x0.Y0) (TPoint.mk 0 0)] ++ [TEdge.mk 1 (TPoint.mk x0.X1 x0.Y0) (TPoint.mk x0.X1 x0.Y1) (TPoint.mk 0 0)]).length) (rowF TEdge.c ([TEdge.mk 1 (TPoint.mk x0.X0 x0.Y0) (TPoint.mk x0.X1 x0.Y0) (TPoint.mk 0 0)] ++ [TEdge.mk 1 (TPoint.mk x0.X1 x0.Y0) (TPoint.mk x0.X1 x0.Y1) (TPoint.mk 0 0)])) 35)]⟩ .nil (by kernel_rfl) .nil <| ath_n ?_
  refine aw_round ?_
  refine aw_cv (Cv.trans (cv_ren (⟨[(2, tP 2 0), (3, tP 3 0), (4, tP 4 0), (28, tI 2)], [(2, .cells [.i 0, .val (.slice none 0 0), .i 0] 26), (3, .cells [.i x0.X0, .i x0.Y0, .i x0.X1, .i x0.Y0, .i x0.X1, .i x0.Y1, .i x0.X0, .i x0.Y1] 97), (4, .cells [.i 2, .own 100001 7 (([TEdge.mk 1 (TPoint.mk x0.X0 x0.Y0) (TPoint.mk x0.X1 x0.Y0) (TPoint.mk 0 0)] ++ [TEdge.mk 1 (TPoint.mk x0.X1 x0.Y0) (TPoint.mk x0.X1 x0.Y1) (TPoint.mk 0 0)]).length), .i 0] 26), (100001, .row 7 (([TEdge.mk 1 (TPoint.mk x0.X0 x0.Y0) (TPoint.mk x0.X1 x0.Y0) (TPoint.mk 0 0)] ++ [TEdge.mk 1 (TPoint.mk x0.X1 x0.Y0) (TPoint.mk x0.X1 x0.Y1) (TPoint.mk 0 0)]).length) (rowF TEdge.c ([TEdge.mk 1 (TPoint.mk x0.X0 x0.Y0) (TPoint.mk x0.X1 x0.Y0) (TPoint.mk 0 0)] ++ [TEdge.mk 1 (TPoint.mk x0.X1 x0.Y0) (TPoint.mk x0.X1 x0.Y1) (TPoint.mk 0 0)])) 35)]⟩) 43 100001 (K := none) (fun k x h => by cases h) rfl rfl (by kernel_rfl) (by kernel_rfl)) (Cv.refl _)) <| aw_seq ?_
  refine aw_region eqok [] [] [] [2, 3, 4, 28, 29] [2, 3, 4, 100001] [] ⟨[(2, tP 2 0), (3, tP 3 0), (4, tP 4 0), (28, tI 2), (29, tB true)], [(2, .cells [.i 0, .val (.slice none 0 0), .i 0] 26), (3, .cells [.i x0.X0, .i x0.Y0, .i x0.X1, .i x0.Y0, .i x0.X1, .i x0.Y1, .i x0.X0, .i x0.Y1] 97), (4, .cells [.i 2, .own 100001 7 (([TEdge.mk 1 (TPoint.mk x0.X0 x0.Y0) (TPoint.mk x0.X1 x0.Y0) (TPoint.mk 0 0)] ++ [TEdge.mk 1 (TPoint.mk x0.X1 x0.Y0) (TPoint.mk x0.X1 x0.Y1) (TPoint.mk 0 0)]).length), .i 0] 26), (100001, .row 7 (([TEdge.mk 1 (TPoint.mk x0.X0 x0.Y0) (TPoint.mk x0.X1 x0.Y0) (TPoint.mk 0 0)] ++ [TEdge.mk 1 (TPoint.mk x0.X1 x0.Y0) (TPoint.mk x0.X1 x0.Y1) (TPoint.mk 0 0)]).length) (rowF TEdge.c ([TEdge.mk 1 (TPoint.mk x0.X0 x0.Y0) (TPoint.mk x0.X1 x0.Y0) (TPoint.mk 0 0)] ++ [TEdge.mk 1 (TPoint.mk x0.X1 x0.Y0) (TPoint.mk x0.X1 x0.Y1) (TPoint.mk 0 0)])) 35)]⟩ .nil (by kernel_rfl) .nil <| ath_n <| aw_seq ?_
  refine aw_cond_t (by kernel_rfl) <| aw_skip ?_
  refine ath_n <| aw_seq ?_
  refine aw_block <| aw_seq ?_
  refine aw_region eqok [] [] [] [2, 3, 4, 5, 28] [2, 3, 4, 100001] [] ⟨[(2, tP 2 0), (3, tP 3 0), (4, tP 4 0), (5, tI 2), (28, tI 2)], [(2, .cells [.i 0, .val (.slice none 0 0), .i 0] 26), (3, .cells [.i x0.X0, .i x0.Y0, .i x0.X1, .i x0.Y0, .i x0.X1, .i x0.Y1, .i x0.X0, .i x0.Y1] 97), (4, .cells [.i 2, .own 100001 7 (([TEdge.mk 1 (TPoint.mk x0.X0 x0.Y0) (TPoint.mk x0.X1 x0.Y0) (TPoint.mk 0 0)] ++ [TEdge.mk 1 (TPoint.mk x0.X1 x0.Y0) (TPoint.mk x0.X1 x0.Y1) (TPoint.mk 0 0)]).length), .i 0] 26), (100001, .row 7 (([TEdge.mk 1 (TPoint.mk x0.X0 x0.Y0) (TPoint.mk x0.X1 x0.Y0) (TPoint.mk 0 0)] ++ [TEdge.mk 1 (TPoint.mk x0.X1 x0.Y0) (TPoint.mk x0.X1 x0.Y1) (TPoint.mk 0 0)]).length) (rowF TEdge.c ([TEdge.mk 1 (TPoint.mk x0.X0 x0.Y0) (TPoint.mk x0.X1 x0.Y0) (TPoint.mk 0 0)] ++ [TEdge.mk 1 (TPoint.mk x0.X1 x0.Y0) (TPoint.mk x0.X1 x0.Y1) (TPoint.mk 0 0)])) 35)]⟩ .nil (by kernel_rfl) .nil <| ath_n ?_
  refine aw_draw mixed eqok [] [] [] [2, 3, 4, 28] [2, 3, 4, 43] [0 ≤ (2 : Int) ∧ (2 : Int) < (4 : Int), (4 : Int) ≠ 0, 0 ≤ (3 : Int) ∧ (3 : Int) < (4 : Int), ([TEdge.mk 1 (TPoint.mk x0.X0 x0.Y0) (TPoint.mk x0.X1 x0.Y0) (TPoint.mk 0 0)] ++ [TEdge.mk 1 (TPoint.mk x0.X1 x0.Y0) (TPoint.mk x0.X1 x0.Y1) (TPoint.mk 0 0)]).length = ([TEdge.mk 1 (TPoint.mk x0.X0 x0.Y0) (TPoint.mk x0.X1 x0.Y0) (TPoint.mk 0 0)] ++ [TEdge.mk 1 (TPoint.mk x0.X1 x0.Y0) (TPoint.mk x0.X1 x0.Y1) (TPoint.mk 0 0)]).length, (([TEdge.mk 1 (TPoint.mk x0.X0 x0.Y0) (TPoint.mk x0.X1 x0.Y0) (TPoint.mk 0 0)] ++ [TEdge.mk 1 (TPoint.mk x0.X1 x0.Y0) (TPoint.mk x0.X1 x0.Y1) (TPoint.mk 0 0)]).length) + 1 ≤ maxLen, ((([TEdge.mk 1 (TPoint.mk x0.X0 x0.Y0) (TPoint.mk x0.X1 x0.Y0) (TPoint.mk 0 0)] ++ [TEdge.mk 1 (TPoint.mk x0.X1 x0.Y0) (TPoint.mk x0.X1 x0.Y1) (TPoint.mk 0 0)]).length) + 1) * 56 ≤ 140737488355328] ⟨[(2, tP 2 0), (3, tP 3 0), (4, tP 4 0), (28, tI 2)], [(2, .cells [.i 0, .val (.slice none 0 0), .i 0] 26), (3, .cells [.i x0.X0, .i x0.Y0, .i x0.X1, .i x0.Y0, .i x0.X1, .i x0.Y1, .i x0.X0, .i x0.Y1] 97), (4, .cells [.i 2, .own 43 7 ((([TEdge.mk 1 (TPoint.mk x0.X0 x0.Y0) (TPoint.mk x0.X1 x0.Y0) (TPoint.mk 0 0)] ++ [TEdge.mk 1 (TPoint.mk x0.X1 x0.Y0) (TPoint.mk x0.X1 x0.Y1) (TPoint.mk 0 0)]).length) + 1), .i 0] 26), (43, .row 7 ((([TEdge.mk 1 (TPoint.mk x0.X0 x0.Y0) (TPoint.mk x0.X1 x0.Y0) (TPoint.mk 0 0)] ++ [TEdge.mk 1 (TPoint.mk x0.X1 x0.Y0) (TPoint.mk x0.X1 x0.Y1) (TPoint.mk 0 0)]).length) + 1) (fun i j => if i < (([TEdge.mk 1 (TPoint.mk x0.X0 x0.Y0) (TPoint.mk x0.X1 x0.Y0) (TPoint.mk 0 0)] ++ [TEdge.mk 1 (TPoint.mk x0.X1 x0.Y0) (TPoint.mk x0.X1 x0.Y1) (TPoint.mk 0 0)]).length) then (rowF TEdge.c ([TEdge.mk 1 (TPoint.mk x0.X0 x0.Y0) (TPoint.mk x0.X1 x0.Y0) (TPoint.mk 0 0)] ++ [TEdge.mk 1 (TPoint.mk x0.X1 x0.Y0) (TPoint.mk x0.X1 x0.Y1) (TPoint.mk 0 0)])) i j else (colsC 7 1 [.i 1, .i x0.X1, .i x0.Y1, .i x0.X0, .i x0.Y1, .i 0, .i 0]) (i - (([TEdge.mk 1 (TPoint.mk x0.X0 x0.Y0) (TPoint.mk x0.X1 x0.Y0) (TPoint.mk 0 0)] ++ [TEdge.mk 1 (TPoint.mk x0.X1 x0.Y0) (TPoint.mk x0.X1 x0.Y1) (TPoint.mk 0 0)]).length)) j) 35)]⟩ .nil (by kernel_rfl) (by kernel_rfl) (.cons (by decide) (.cons au5 (.cons (by decide) (.cons rfl (.cons au2 (.cons au2 .nil)))))) <| abl_n <| ath_n ?_
  refine aw_cv (Cv.trans (cv_ce (⟨[(2, tP 2 0), (3, tP 3 0), (4, tP 4 0), (28, tI 2)], [(2, .cells [.i 0, .val (.slice none 0 0), .i 0] 26), (3, .cells [.i x0.X0, .i x0.Y0, .i x0.X1, .i x0.Y0, .i x0.X1, .i x0.Y1, .i x0.X0, .i x0.Y1] 97), (4, .cells [.i 2, .own 43 7 ((([TEdge.mk 1 (TPoint.mk x0.X0 x0.Y0) (TPoint.mk x0.X1 x0.Y0) (TPoint.mk 0 0)] ++ [TEdge.mk 1 (TPoint.mk x0.X1 x0.Y0) (TPoint.mk x0.X1 x0.Y1) (TPoint.mk 0 0)]) ++ [TEdge.mk 1 (TPoint.mk x0.X1 x0.Y1) (TPoint.mk x0.X0 x0.Y1) (TPoint.mk 0 0)]).length), .i 0] 26), (43, .row 7 ((([TEdge.mk 1 (TPoint.mk x0.X0 x0.Y0) (TPoint.mk x0.X1 x0.Y0) (TPoint.mk 0 0)] ++ [TEdge.mk 1 (TPoint.mk x0.X1 x0.Y0) (TPoint.mk x0.X1 x0.Y1) (TPoint.mk 0 0)]) ++ [TEdge.mk 1 (TPoint.mk x0.X1 x0.Y1) (TPoint.mk x0.X0 x0.Y1) (TPoint.mk 0 0)]).length) (rowF TEdge.c (([TEdge.mk 1 (TPoint.mk x0.X0 x0.Y0) (TPoint.mk x0.X1 x0.Y0) (TPoint.mk 0 0)] ++ [TEdge.mk 1 (TPoint.mk x0.X1 x0.Y0) (TPoint.mk x0.X1 x0.Y1) (TPoint.mk 0 0)]) ++ [TEdge.mk 1 (TPoint.mk x0.X1 x0.Y1) (TPoint.mk x0.X0 x0.Y1) (TPoint.mk 0 0)])) 35)]⟩) (.cons ⟨rfl, .refl _⟩ (.cons ⟨rfl, .refl _⟩ (.cons ⟨rfl, .refl _⟩ (.cons ⟨rfl, .refl _⟩ .nil)))) (.cons ⟨rfl, .refl _⟩ (.cons ⟨rfl, .refl _⟩ (.cons ⟨rfl, .cells _ (.cons (.refl _) (.cons (.own _ _ au3) (.cons (.refl _) .nil)))⟩ (.cons ⟨rfl, bke_told 35 (told_app (told_rfl 7 TEdge.c ([TEdge.mk 1 (TPoint.mk x0.X0 x0.Y0) (TPoint.mk x0.X1 x0.Y0) (TPoint.mk 0 0)] ++ [TEdge.mk 1 (TPoint.mk x0.X1 x0.Y0) (TPoint.mk x0.X1 x0.Y1) (TPoint.mk 0 0)])) (told_lit (c := TEdge.c) (xs := ([TEdge.mk 1 (TPoint.mk x0.X1 x0.Y1) (TPoint.mk x0.X0 x0.Y1) (TPoint.mk 0 0)] : List TEdge)) rfl (by kernel_rfl)))⟩ .nil))))) (Cv.refl _)) ?_
  refine aw_region eqok [] [] [] [2, 3, 4, 28] [2, 3, 4, 43] [] ⟨[(2, tP 2 0), (3, tP 3 0), (4, tP 4 0), (28, tI 3)], [(2, .cells [.i 0, .val (.slice none 0 0), .i 0] 26), (3, .cells [.i x0.X0, .i x0.Y0, .i x0.X1, .i x0.Y0, .i x0.X1, .i x0.Y1, .i x0.X0, .i x0.Y1] 97), (4, .cells [.i 2, .own 43 7 ((([TEdge.mk 1 (TPoint.mk x0.X0 x0.Y0) (TPoint.mk x0.X1 x0.Y0) (TPoint.mk 0 0)] ++ [TEdge.mk 1 (TPoint.mk x0.X1 x0.Y0) (TPoint.mk x0.X1 x0.Y1) (TPoint.mk 0 0)]) ++ [TEdge.mk 1 (TPoint.mk x0.X1 x0.Y1) (TPoint.mk x0.X0 x0.Y1) (TPoint.mk 0 0)]).length), .i 0] 26), (43, .row 7 ((([TEdge.mk 1 (TPoint.mk x0.X0 x0.Y0) (TPoint.mk x0.X1 x0.Y0) (TPoint.mk 0 0)] ++ [TEdge.mk 1 (TPoint.mk x0.X1 x0.Y0) (TPoint.mk x0.X1 x0.Y1) (TPoint.mk 0 0)]) ++ [TEdge.mk 1 (TPoint.mk x0.X1 x0.Y1) (TPoint.mk x0.X0 x0.Y1) (TPoint.mk 0 0)]).length) (rowF TEdge.c (([TEdge.mk 1 (TPoint.mk x0.X0 x0.Y0) (TPoint.mk x0.X1 x0.Y0) (TPoint.mk 0 0)] ++ [TEdge.mk 1 (TPoint.mk x0.X1 x0.Y0) (TPoint.mk x0.X1 x0.Y1) (TPoint.mk 0 0)]) ++ [TEdge.mk 1 (TPoint.mk x0.X1 x0.Y1) (TPoint.mk x0.X0 x0.Y1) (TPoint.mk 0 0)])) 35)]⟩ .nil (by kernel_rfl) .nil <| ath_n ?_
  refine aw_round ?_
  refine aw_cv (Cv.trans (cv_ren (⟨[(2, tP 2 0), (3, tP 3 0), (4, tP 4 0), (28, tI 3)], [(2, .cells [.i 0, .val (.slice none 0 0), .i 0] 26), (3, .cells [.i x0.X0, .i x0.Y0, .i x0.X1, .i x0.Y0, .i x0.X1, .i x0.Y1, .i x0.X0, .i x0.Y1] 97), (4, .cells [.i 2, .own 100002 7 ((([TEdge.mk 1 (TPoint.mk x0.X0 x0.Y0) (TPoint.mk x0.X1 x0.Y0) (TPoint.mk 0 0)] ++ [TEdge.mk 1 (TPoint.mk x0.X1 x0.Y0) (TPoint.mk x0.X1 x0.Y1) (TPoint.mk 0 0)]) ++ [TEdge.mk 1 (TPoint.mk x0.X1 x0.Y1) (TPoint.mk x0.X0 x0.Y1) (TPoint.mk 0 0)]).length), .i 0] 26), (100002, .row 7 ((([TEdge.mk 1 (TPoint.mk x0.X0 x0.Y0) (TPoint.mk x0.X1 x0.Y0) (TPoint.mk 0 0)] ++ [TEdge.mk 1 (TPoint.mk x0.X1 x0.Y0) (TPoint.mk x0.X1 x0.Y1) (TPoint.mk 0 0)]) ++ [TEdge.mk 1 (TPoint.mk x0.X1 x0.Y1) (TPoint.mk x0.X0 x0.Y1) (TPoint.mk 0 0)]).length) (rowF TEdge.c (([TEdge.mk 1 (TPoint.mk x0.X0 x0.Y0) (TPoint.mk x0.X1 x0.Y0) (TPoint.mk 0 0)] ++ [TEdge.mk 1 (TPoint.mk x0.X1 x0.Y0) (TPoint.mk x0.X1 x0.Y1) (TPoint.mk 0 0)]) ++ [TEdge.mk 1 (TPoint.mk x0.X1 x0.Y1) (TPoint.mk x0.X0 x0.Y1) (TPoint.mk 0 0)])) 35)]⟩) 43 100002 (K := none) (fun k x h => by cases h) rfl rfl (by kernel_rfl) (by kernel_rfl)) (Cv.refl _)) <| aw_seq ?_
  refine aw_region eqok [] [] [] [2, 3, 4, 28, 29] [2, 3, 4, 100002] [] ⟨[(2, tP 2 0), (3, tP 3 0), (4, tP 4 0), (28, tI 3), (29, tB true)], [(2, .cells [.i 0, .val (.slice none 0 0), .i 0] 26), (3, .cells [.i x0.X0, .i x0.Y0, .i x0.X1, .i x0.Y0, .i x0.X1, .i x0.Y1, .i x0.X0, .i x0.Y1] 97), (4, .cells [.i 2, .own 100002 7 ((([TEdge.mk 1 (TPoint.mk x0.X0 x0.Y0) (TPoint.mk x0.X1 x0.Y0) (TPoint.mk 0 0)] ++ [TEdge.mk 1 (TPoint.mk x0.X1 x0.Y0) (TPoint.mk x0.X1 x0.Y1) (TPoint.mk 0 0)]) ++ [TEdge.mk 1 (TPoint.mk x0.X1 x0.Y1) (TPoint.mk x0.X0 x0.Y1) (TPoint.mk 0 0)]).length), .i 0] 26), (100002, .row 7 ((([TEdge.mk 1 (TPoint.mk x0.X0 x0.Y0) (TPoint.mk x0.X1 x0.Y0) (TPoint.mk 0 0)] ++ [TEdge.mk 1 (TPoint.mk x0.X1 x0.Y0) (TPoint.mk x0.X1 x0.Y1) (TPoint.mk 0 0)]) ++ [TEdge.mk 1 (TPoint.mk x0.X1 x0.Y1) (TPoint.mk x0.X0 x0.Y1) (TPoint.mk 0 0)]).length) (rowF TEdge.c (([TEdge.mk 1 (TPoint.mk x0.X0 x0.Y0) (TPoint.mk x0.X1 x0.Y0) (TPoint.mk 0 0)] ++ [TEdge.mk 1 (TPoint.mk x0.X1 x0.Y0) (TPoint.mk x0.X1 x0.Y1) (TPoint.mk 0 0)]) ++ [TEdge.mk 1 (TPoint.mk x0.X1 x0.Y1) (TPoint.mk x0.X0 x0.Y1) (TPoint.mk 0 0)])) 35)]⟩ .nil (by kernel_rfl) .nil <| ath_n <| aw_seq ?_
  refine aw_cond_t (by kernel_rfl) <| aw_skip ?_
  refine ath_n <| aw_seq ?_
  refine aw_block <| aw_seq ?_
  refine aw_region eqok [] [] [] [2, 3, 4, 5, 28] [2, 3, 4, 100002] [] ⟨[(2, tP 2 0), (3, tP 3 0), (4, tP 4 0), (5, tI 3), (28, tI 3)], [(2, .cells [.i 0, .val (.slice none 0 0), .i 0] 26), (3, .cells [.i x0.X0, .i x0.Y0, .i x0.X1, .i x0.Y0, .i x0.X1, .i x0.Y1, .i x0.X0, .i x0.Y1] 97), (4, .cells [.i 2, .own 100002 7 ((([TEdge.mk 1 (TPoint.mk x0.X0 x0.Y0) (TPoint.mk x0.X1 x0.Y0) (TPoint.mk 0 0)] ++ [TEdge.mk 1 (TPoint.mk x0.X1 x0.Y0) (TPoint.mk x0.X1 x0.Y1) (TPoint.mk 0 0)]) ++ [TEdge.mk 1 (TPoint.mk x0.X1 x0.Y1) (TPoint.mk x0.X0 x0.Y1) (TPoint.mk 0 0)]).length), .i 0] 26), (100002, .row 7 ((([TEdge.mk 1 (TPoint.mk x0.X0 x0.Y0) (TPoint.mk x0.X1 x0.Y0) (TPoint.mk 0 0)] ++ [TEdge.mk 1 (TPoint.mk x0.X1 x0.Y0) (TPoint.mk x0.X1 x0.Y1) (TPoint.mk 0 0)]) ++ [TEdge.mk 1 (TPoint.mk x0.X1 x0.Y1) (TPoint.mk x0.X0 x0.Y1) (TPoint.mk 0 0)]).length) (rowF TEdge.c (([TEdge.mk 1 (TPoint.mk x0.X0 x0.Y0) (TPoint.mk x0.X1 x0.Y0) (TPoint.mk 0 0)] ++ [TEdge.mk 1 (TPoint.mk x0.X1 x0.Y0) (TPoint.mk x0.X1 x0.Y1) (TPoint.mk 0 0)]) ++ [TEdge.mk 1 (TPoint.mk x0.X1 x0.Y1) (TPoint.mk x0.X0 x0.Y1) (TPoint.mk 0 0)])) 35)]⟩ .nil (by kernel_rfl) .nil <| ath_n ?_
  refine aw_draw mixed eqok [] [] [] [2, 3, 4, 28] [2, 3, 4, 43] [0 ≤ (3 : Int) ∧ (3 : Int) < (4 : Int), (4 : Int) ≠ 0, 0 ≤ (0 : Int) ∧ (0 : Int) < (4 : Int), (([TEdge.mk 1 (TPoint.mk x0.X0 x0.Y0) (TPoint.mk x0.X1 x0.Y0) (TPoint.mk 0 0)] ++ [TEdge.mk 1 (TPoint.mk x0.X1 x0.Y0) (TPoint.mk x0.X1 x0.Y1) (TPoint.mk 0 0)]) ++ [TEdge.mk 1 (TPoint.mk x0.X1 x0.Y1) (TPoint.mk x0.X0 x0.Y1) (TPoint.mk 0 0)]).length = (([TEdge.mk 1 (TPoint.mk x0.X0 x0.Y0) (TPoint.mk x0.X1 x0.Y0) (TPoint.mk 0 0)] ++ [TEdge.mk 1 (TPoint.mk x0.X1 x0.Y0) (TPoint.mk x0.X1 x0.Y1) (TPoint.mk 0 0)]) ++ [TEdge.mk 1 (TPoint.mk x0.X1 x0.Y1) (TPoint.mk x0.X0 x0.Y1) (TPoint.mk 0 0)]).length, ((([TEdge.mk 1 (TPoint.mk x0.X0 x0.Y0) (TPoint.mk x0.X1 x0.Y0) (TPoint.mk 0 0)] ++ [TEdge.mk 1 (TPoint.mk x0.X1 x0.Y0) (TPoint.mk x0.X1 x0.Y1) (TPoint.mk 0 0)]) ++ [TEdge.mk 1 (TPoint.mk x0.X1 x0.Y1) (TPoint.mk x0.X0 x0.Y1) (TPoint.mk 0 0)]).length) + 1 ≤ maxLen, (((([TEdge.mk 1 (TPoint.mk x0.X0 x0.Y0) (TPoint.mk x0.X1 x0.Y0) (TPoint.mk 0 0)] ++ [TEdge.mk 1 (TPoint.mk x0.X1 x0.Y0) (TPoint.mk x0.X1 x0.Y1) (TPoint.mk 0 0)]) ++ [TEdge.mk 1 (TPoint.mk x0.X1 x0.Y1) (TPoint.mk x0.X0 x0.Y1) (TPoint.mk 0 0)]).length) + 1) * 56 ≤ 140737488355328] ⟨[(2, tP 2 0), (3, tP 3 0), (4, tP 4 0), (28, tI 3)], [(2, .cells [.i 0, .val (.slice none 0 0), .i 0] 26), (3, .cells [.i x0.X0, .i x0.Y0, .i x0.X1, .i x0.Y0, .i x0.X1, .i x0.Y1, .i x0.X0, .i x0.Y1] 97), (4, .cells [.i 2, .own 43 7 (((([TEdge.mk 1 (TPoint.mk x0.X0 x0.Y0) (TPoint.mk x0.X1 x0.Y0) (TPoint.mk 0 0)] ++ [TEdge.mk 1 (TPoint.mk x0.X1 x0.Y0) (TPoint.mk x0.X1 x0.Y1) (TPoint.mk 0 0)]) ++ [TEdge.mk 1 (TPoint.mk x0.X1 x0.Y1) (TPoint.mk x0.X0 x0.Y1) (TPoint.mk 0 0)]).length) + 1), .i 0] 26), (43, .row 7 (((([TEdge.mk 1 (TPoint.mk x0.X0 x0.Y0) (TPoint.mk x0.X1 x0.Y0) (TPoint.mk 0 0)] ++ [TEdge.mk 1 (TPoint.mk x0.X1 x0.Y0) (TPoint.mk x0.X1 x0.Y1) (TPoint.mk 0 0)]) ++ [TEdge.mk 1 (TPoint.mk x0.X1 x0.Y1) (TPoint.mk x0.X0 x0.Y1) (TPoint.mk 0 0)]).length) + 1) (fun i j => if i < ((([TEdge.mk 1 (TPoint.mk x0.X0 x0.Y0) (TPoint.mk x0.X1 x0.Y0) (TPoint.mk 0 0)] ++ [TEdge.mk 1 (TPoint.mk x0.X1 x0.Y0) (TPoint.mk x0.X1 x0.Y1) (TPoint.mk 0 0)]) ++ [TEdge.mk 1 (TPoint.mk x0.X1 x0.Y1) (TPoint.mk x0.X0 x0.Y1) (TPoint.mk 0 0)]).length) then (rowF TEdge.c (([TEdge.mk 1 (TPoint.mk x0.X0 x0.Y0) (TPoint.mk x0.X1 x0.Y0) (TPoint.mk 0 0)] ++ [TEdge.mk 1 (TPoint.mk x0.X1 x0.Y0) (TPoint.mk x0.X1 x0.Y1) (TPoint.mk 0 0)]) ++ [TEdge.mk 1 (TPoint.mk x0.X1 x0.Y1) (TPoint.mk x0.X0 x0.Y1) (TPoint.mk 0 0)])) i j else (colsC 7 1 [.i 1, .i x0.X0, .i x0.Y1, .i x0.X0, .i x0.Y0, .i 0, .i 0]) (i - ((([TEdge.mk 1 (TPoint.mk x0.X0 x0.Y0) (TPoint.mk x0.X1 x0.Y0) (TPoint.mk 0 0)] ++ [TEdge.mk 1 (TPoint.mk x0.X1 x0.Y0) (TPoint.mk x0.X1 x0.Y1) (TPoint.mk 0 0)]) ++ [TEdge.mk 1 (TPoint.mk x0.X1 x0.Y1) (TPoint.mk x0.X0 x0.Y1) (TPoint.mk 0 0)]).length)) j) 35)]⟩ .nil (by kernel_rfl) (by kernel_rfl) (.cons (by decide) (.cons au5 (.cons (by decide) (.cons rfl (.cons au2 (.cons au2 .nil)))))) <| abl_n <| ath_n ?_
  refine aw_cv (Cv.trans (cv_ce (⟨[(2, tP 2 0), (3, tP 3 0), (4, tP 4 0), (28, tI 3)], [(2, .cells [.i 0, .val (.slice none 0 0), .i 0] 26), (3, .cells [.i x0.X0, .i x0.Y0, .i x0.X1, .i x0.Y0, .i x0.X1, .i x0.Y1, .i x0.X0, .i x0.Y1] 97), (4, .cells [.i 2, .own 43 7 (((([TEdge.mk 1 (TPoint.mk x0.X0 x0.Y0) (TPoint.mk x0.X1 x0.Y0) (TPoint.mk 0 0)] ++ [TEdge.mk 1 (TPoint.mk x0.X1 x0.Y0) (TPoint.mk x0.X1 x0.Y1) (TPoint.mk 0 0)]) ++ [TEdge.mk 1 (TPoint.mk x0.X1 x0.Y1) (TPoint.mk x0.X0 x0.Y1) (TPoint.mk 0 0)]) ++ [TEdge.mk 1 (TPoint.mk x0.X0 x0.Y1) (TPoint.mk x0.X0 x0.Y0) (TPoint.mk 0 0)]).length), .i 0] 26), (43, .row 7 (((([TEdge.mk 1 (TPoint.mk x0.X0 x0.Y0) (TPoint.mk x0.X1 x0.Y0) (TPoint.mk 0 0)] ++ [TEdge.mk 1 (TPoint.mk x0.X1 x0.Y0) (TPoint.mk x0.X1 x0.Y1) (TPoint.mk 0 0)]) ++ [TEdge.mk 1 (TPoint.mk x0.X1 x0.Y1) (TPoint.mk x0.X0 x0.Y1) (TPoint.mk 0 0)]) ++ [TEdge.mk 1 (TPoint.mk x0.X0 x0.Y1) (TPoint.mk x0.X0 x0.Y0) (TPoint.mk 0 0)]).length) (rowF TEdge.c ((([TEdge.mk 1 (TPoint.mk x0.X0 x0.Y0) (TPoint.mk x0.X1 x0.Y0) (TPoint.mk 0 0)] ++ [TEdge.mk 1 (TPoint.mk x0.X1 x0.Y0) (TPoint.mk x0.X1 x0.Y1) (TPoint.mk 0 0)]) ++ [TEdge.mk 1 (TPoint.mk x0.X1 x0.Y1) (TPoint.mk x0.X0 x0.Y1) (TPoint.mk 0 0)]) ++ [TEdge.mk 1 (TPoint.mk x0.X0 x0.Y1) (TPoint.mk x0.X0 x0.Y0) (TPoint.mk 0 0)])) 35)]⟩) (.cons ⟨rfl, .refl _⟩ (.cons ⟨rfl, .refl _⟩ (.cons ⟨rfl, .refl _⟩ (.cons ⟨rfl, .refl _⟩ .nil)))) (.cons ⟨rfl, .refl _⟩ (.cons ⟨rfl, .refl _⟩ (.cons ⟨rfl, .cells _ (.cons (.refl _) (.cons (.own _ _ au3) (.cons (.refl _) .nil)))⟩ (.cons ⟨rfl, bke_told 35 (told_app (told_rfl 7 TEdge.c (([TEdge.mk 1 (TPoint.mk x0.X0 x0.Y0) (TPoint.mk x0.X1 x0.Y0) (TPoint.mk 0 0)] ++ [TEdge.mk 1 (TPoint.mk x0.X1 x0.Y0) (TPoint.mk x0.X1 x0.Y1) (TPoint.mk 0 0)]) ++ [TEdge.mk 1 (TPoint.mk x0.X1 x0.Y1) (TPoint.mk x0.X0 x0.Y1) (TPoint.mk 0 0)])) (told_lit (c := TEdge.c) (xs := ([TEdge.mk 1 (TPoint.mk x0.X0 x0.Y1) (TPoint.mk x0.X0 x0.Y0) (TPoint.mk 0 0)] : List TEdge)) rfl (by kernel_rfl)))⟩ .nil))))) (Cv.refl _)) ?_
  refine aw_region eqok [] [] [] [2, 3, 4, 28] [2, 3, 4, 43] [] ⟨[(2, tP 2 0), (3, tP 3 0), (4, tP 4 0), (28, tI 4)], [(2, .cells [.i 0, .val (.slice none 0 0), .i 0] 26), (3, .cells [.i x0.X0, .i x0.Y0, .i x0.X1, .i x0.Y0, .i x0.X1, .i x0.Y1, .i x0.X0, .i x0.Y1] 97), (4, .cells [.i 2, .own 43 7 (((([TEdge.mk 1 (TPoint.mk x0.X0 x0.Y0) (TPoint.mk x0.X1 x0.Y0) (TPoint.mk 0 0)] ++ [TEdge.mk 1 (TPoint.mk x0.X1 x0.Y0) (TPoint.mk x0.X1 x0.Y1) (TPoint.mk 0 0)]) ++ [TEdge.mk 1 (TPoint.mk x0.X1 x0.Y1) (TPoint.mk x0.X0 x0.Y1) (TPoint.mk 0 0)]) ++ [TEdge.mk 1 (TPoint.mk x0.X0 x0.Y1) (TPoint.mk x0.X0 x0.Y0) (TPoint.mk 0 0)]).length), .i 0] 26), (43, .row 7 (((([TEdge.mk 1 (TPoint.mk x0.X0 x0.Y0) (TPoint.mk x0.X1 x0.Y0) (TPoint.mk 0 0)] ++ [TEdge.mk 1 (TPoint.mk x0.X1 x0.Y0) (TPoint.mk x0.X1 x0.Y1) (TPoint.mk 0 0)]) ++ [TEdge.mk 1 (TPoint.mk x0.X1 x0.Y1) (TPoint.mk x0.X0 x0.Y1) (TPoint.mk 0 0)]) ++ [TEdge.mk 1 (TPoint.mk x0.X0 x0.Y1) (TPoint.mk x0.X0 x0.Y0) (TPoint.mk 0 0)]).length) (rowF TEdge.c ((([TEdge.mk 1 (TPoint.mk x0.X0 x0.Y0) (TPoint.mk x0.X1 x0.Y0) (TPoint.mk 0 0)] ++ [TEdge.mk 1 (TPoint.mk x0.X1 x0.Y0) (TPoint.mk x0.X1 x0.Y1) (TPoint.mk 0 0)]) ++ [TEdge.mk 1 (TPoint.mk x0.X1 x0.Y1) (TPoint.mk x0.X0 x0.Y1) (TPoint.mk 0 0)]) ++ [TEdge.mk 1 (TPoint.mk x0.X0 x0.Y1) (TPoint.mk x0.X0 x0.Y0) (TPoint.mk 0 0)])) 35)]⟩ .nil (by kernel_rfl) .nil <| ath_n ?_
  refine aw_round ?_
  refine aw_cv (Cv.trans (cv_ren (⟨[(2, tP 2 0), (3, tP 3 0), (4, tP 4 0), (28, tI 4)], [(2, .cells [.i 0, .val (.slice none 0 0), .i 0] 26), (3, .cells [.i x0.X0, .i x0.Y0, .i x0.X1, .i x0.Y0, .i x0.X1, .i x0.Y1, .i x0.X0, .i x0.Y1] 97), (4, .cells [.i 2, .own 100003 7 (((([TEdge.mk 1 (TPoint.mk x0.X0 x0.Y0) (TPoint.mk x0.X1 x0.Y0) (TPoint.mk 0 0)] ++ [TEdge.mk 1 (TPoint.mk x0.X1 x0.Y0) (TPoint.mk x0.X1 x0.Y1) (TPoint.mk 0 0)]) ++ [TEdge.mk 1 (TPoint.mk x0.X1 x0.Y1) (TPoint.mk x0.X0 x0.Y1) (TPoint.mk 0 0)]) ++ [TEdge.mk 1 (TPoint.mk x0.X0 x0.Y1) (TPoint.mk x0.X0 x0.Y0) (TPoint.mk 0 0)]).length), .i 0] 26), (100003, .row 7 (((([TEdge.mk 1 (TPoint.mk x0.X0 x0.Y0) (TPoint.mk x0.X1 x0.Y0) (TPoint.mk 0 0)] ++ [TEdge.mk 1 (TPoint.mk x0.X1 x0.Y0) (TPoint.mk x0.X1 x0.Y1) (TPoint.mk 0 0)]) ++ [TEdge.mk 1 (TPoint.mk x0.X1 x0.Y1) (TPoint.mk x0.X0 x0.Y1) (TPoint.mk 0 0)]) ++ [TEdge.mk 1 (TPoint.mk x0.X0 x0.Y1) (TPoint.mk x0.X0 x0.Y0) (TPoint.mk 0 0)]).length) (rowF TEdge.c ((([TEdge.mk 1 (TPoint.mk x0.X0 x0.Y0) (TPoint.mk x0.X1 x0.Y0) (TPoint.mk 0 0)] ++ [TEdge.mk 1 (TPoint.mk x0.X1 x0.Y0) (TPoint.mk x0.X1 x0.Y1) (TPoint.mk 0 0)]) ++ [TEdge.mk 1 (TPoint.mk x0.X1 x0.Y1) (TPoint.mk x0.X0 x0.Y1) (TPoint.mk 0 0)]) ++ [TEdge.mk 1 (TPoint.mk x0.X0 x0.Y1) (TPoint.mk x0.X0 x0.Y0) (TPoint.mk 0 0)])) 35)]⟩) 43 100003 (K := none) (fun k x h => by cases h) rfl rfl (by kernel_rfl) (by kernel_rfl)) (Cv.refl _)) <| aw_seq ?_
  refine aw_region eqok [] [] [] [2, 3, 4, 28, 29] [2, 3, 4, 100003] [] ⟨[(2, tP 2 0), (3, tP 3 0), (4, tP 4 0), (28, tI 4), (29, tB false)], [(2, .cells [.i 0, .val (.slice none 0 0), .i 0] 26), (3, .cells [.i x0.X0, .i x0.Y0, .i x0.X1, .i x0.Y0, .i x0.X1, .i x0.Y1, .i x0.X0, .i x0.Y1] 97), (4, .cells [.i 2, .own 100003 7 (((([TEdge.mk 1 (TPoint.mk x0.X0 x0.Y0) (TPoint.mk x0.X1 x0.Y0) (TPoint.mk 0 0)] ++ [TEdge.mk 1 (TPoint.mk x0.X1 x0.Y0) (TPoint.mk x0.X1 x0.Y1) (TPoint.mk 0 0)]) ++ [TEdge.mk 1 (TPoint.mk x0.X1 x0.Y1) (TPoint.mk x0.X0 x0.Y1) (TPoint.mk 0 0)]) ++ [TEdge.mk 1 (TPoint.mk x0.X0 x0.Y1) (TPoint.mk x0.X0 x0.Y0) (TPoint.mk 0 0)]).length), .i 0] 26), (100003, .row 7 (((([TEdge.mk 1 (TPoint.mk x0.X0 x0.Y0) (TPoint.mk x0.X1 x0.Y0) (TPoint.mk 0 0)] ++ [TEdge.mk 1 (TPoint.mk x0.X1 x0.Y0) (TPoint.mk x0.X1 x0.Y1) (TPoint.mk 0 0)]) ++ [TEdge.mk 1 (TPoint.mk x0.X1 x0.Y1) (TPoint.mk x0.X0 x0.Y1) (TPoint.mk 0 0)]) ++ [TEdge.mk 1 (TPoint.mk x0.X0 x0.Y1) (TPoint.mk x0.X0 x0.Y0) (TPoint.mk 0 0)]).length) (rowF TEdge.c ((([TEdge.mk 1 (TPoint.mk x0.X0 x0.Y0) (TPoint.mk x0.X1 x0.Y0) (TPoint.mk 0 0)] ++ [TEdge.mk 1 (TPoint.mk x0.X1 x0.Y0) (TPoint.mk x0.X1 x0.Y1) (TPoint.mk 0 0)]) ++ [TEdge.mk 1 (TPoint.mk x0.X1 x0.Y1) (TPoint.mk x0.X0 x0.Y1) (TPoint.mk 0 0)]) ++ [TEdge.mk 1 (TPoint.mk x0.X0 x0.Y1) (TPoint.mk x0.X0 x0.Y0) (TPoint.mk 0 0)])) 35)]⟩ .nil (by kernel_rfl) .nil <| ath_n <| aw_seq ?_
  refine aw_cond_f (by kernel_rfl) <| aw_exit ?_
  refine ath_e <| ath_e ?_
  refine abl_hit <| ath_n <| aw_seq ?_
  refine aw_region eqok [] [] [] [2] [2, 100003] [] ⟨[(2, tP 2 0)], [(2, .cells [.i 2, .own 100003 7 (((([TEdge.mk 1 (TPoint.mk x0.X0 x0.Y0) (TPoint.mk x0.X1 x0.Y0) (TPoint.mk 0 0)] ++ [TEdge.mk 1 (TPoint.mk x0.X1 x0.Y0) (TPoint.mk x0.X1 x0.Y1) (TPoint.mk 0 0)]) ++ [TEdge.mk 1 (TPoint.mk x0.X1 x0.Y1) (TPoint.mk x0.X0 x0.Y1) (TPoint.mk 0 0)]) ++ [TEdge.mk 1 (TPoint.mk x0.X0 x0.Y1) (TPoint.mk x0.X0 x0.Y0) (TPoint.mk 0 0)]).length), .i 0] 26), (100003, .row 7 (((([TEdge.mk 1 (TPoint.mk x0.X0 x0.Y0) (TPoint.mk x0.X1 x0.Y0) (TPoint.mk 0 0)] ++ [TEdge.mk 1 (TPoint.mk x0.X1 x0.Y0) (TPoint.mk x0.X1 x0.Y1) (TPoint.mk 0 0)]) ++ [TEdge.mk 1 (TPoint.mk x0.X1 x0.Y1) (TPoint.mk x0.X0 x0.Y1) (TPoint.mk 0 0)]) ++ [TEdge.mk 1 (TPoint.mk x0.X0 x0.Y1) (TPoint.mk x0.X0 x0.Y0) (TPoint.mk 0 0)]).length) (rowF TEdge.c ((([TEdge.mk 1 (TPoint.mk x0.X0 x0.Y0) (TPoint.mk x0.X1 x0.Y0) (TPoint.mk 0 0)] ++ [TEdge.mk 1 (TPoint.mk x0.X1 x0.Y0) (TPoint.mk x0.X1 x0.Y1) (TPoint.mk 0 0)]) ++ [TEdge.mk 1 (TPoint.mk x0.X1 x0.Y1) (TPoint.mk x0.X0 x0.Y1) (TPoint.mk 0 0)]) ++ [TEdge.mk 1 (TPoint.mk x0.X0 x0.Y1) (TPoint.mk x0.X0 x0.Y0) (TPoint.mk 0 0)])) 35)]⟩ .nil (by kernel_rfl) .nil <| ath_n <| aw_ret ?_
  exact ⟨_, Cv.trans (cv_fz (⟨[(2, tP 2 0)], [(2, .cells [.i 2, lst 7 TEdge.c ((([TEdge.mk 1 (TPoint.mk x0.X0 x0.Y0) (TPoint.mk x0.X1 x0.Y0) (TPoint.mk 0 0)] ++ [TEdge.mk 1 (TPoint.mk x0.X1 x0.Y0) (TPoint.mk x0.X1 x0.Y1) (TPoint.mk 0 0)]) ++ [TEdge.mk 1 (TPoint.mk x0.X1 x0.Y1) (TPoint.mk x0.X0 x0.Y1) (TPoint.mk 0 0)]) ++ [TEdge.mk 1 (TPoint.mk x0.X0 x0.Y1) (TPoint.mk x0.X0 x0.Y0) (TPoint.mk 0 0)]), .i 0] 26)]⟩) 100003 7 (((([TEdge.mk 1 (TPoint.mk x0.X0 x0.Y0) (TPoint.mk x0.X1 x0.Y0) (TPoint.mk 0 0)] ++ [TEdge.mk 1 (TPoint.mk x0.X1 x0.Y0) (TPoint.mk x0.X1 x0.Y1) (TPoint.mk 0 0)]) ++ [TEdge.mk 1 (TPoint.mk x0.X1 x0.Y1) (TPoint.mk x0.X0 x0.Y1) (TPoint.mk 0 0)]) ++ [TEdge.mk 1 (TPoint.mk x0.X0 x0.Y1) (TPoint.mk x0.X0 x0.Y0) (TPoint.mk 0 0)]).length) (rowF TEdge.c ((([TEdge.mk 1 (TPoint.mk x0.X0 x0.Y0) (TPoint.mk x0.X1 x0.Y0) (TPoint.mk 0 0)] ++ [TEdge.mk 1 (TPoint.mk x0.X1 x0.Y0) (TPoint.mk x0.X1 x0.Y1) (TPoint.mk 0 0)]) ++ [TEdge.mk 1 (TPoint.mk x0.X1 x0.Y1) (TPoint.mk x0.X0 x0.Y1) (TPoint.mk 0 0)]) ++ [TEdge.mk 1 (TPoint.mk x0.X0 x0.Y1) (TPoint.mk x0.X0 x0.Y0) (TPoint.mk 0 0)])) 35 (K := none) (fun k x h => by cases h) (by kernel_rfl) (by kernel_rfl) (.cons ⟨rfl, rfl⟩ .nil) (by kernel_rfl)) (Cv.refl _), .inl rfl, .av (.agg [.i 2, lst 7 TEdge.c ((([TEdge.mk 1 (TPoint.mk x0.X0 x0.Y0) (TPoint.mk x0.X1 x0.Y0) (TPoint.mk 0 0)] ++ [TEdge.mk 1 (TPoint.mk x0.X1 x0.Y0) (TPoint.mk x0.X1 x0.Y1) (TPoint.mk 0 0)]) ++ [TEdge.mk 1 (TPoint.mk x0.X1 x0.Y1) (TPoint.mk x0.X0 x0.Y1) (TPoint.mk 0 0)]) ++ [TEdge.mk 1 (TPoint.mk x0.X0 x0.Y1) (TPoint.mk x0.X0 x0.Y0) (TPoint.mk 0 0)]), .i 0]), by kernel_rfl, tve_eq (by rfl)⟩
theorem okRectS (x0 : TRect) : CallOk Try.prog (cRectS x0).1 (cRectS x0).2.1 (cRectS x0).2.2 := callOk_pure (fun _ _ => by kernel_rfl) fun _ => pRectS x0
end Go.Proofs.Ytpnlegfdkkcnlaa
namespace Go.Proofs.Ytpnlegfdkkcnlaa
set_option maxRecDepth 100000
open Go.RowKit
set_option linter.unusedVariables false
set_option linter.unusedSimpArgs false
def wBoxR_0 (s : TShape) (v4 : Int) : TRect := Fref06Box (s.Edges.getD v4.toNat default)
def FBoxR_l0 (s : TShape) : Nat → TRect → Int → TRect
  | 0, _, _ => default
  | n0 + 1, v3, v4 => bif decide ((v4 : Int) < ((s.Edges.length : Int))) then ((FBoxR_l0 s n0) (TRect.mk (min v3.X0 ((wBoxR_0 s v4).X0)) (min v3.Y0 ((wBoxR_0 s v4).Y0)) (max v3.X1 ((wBoxR_0 s v4).X1)) (max v3.Y1 ((wBoxR_0 s v4).Y1))) (v4 + 1)) else (TRect.mk (W64 (v3.X0 - s.R)) (W64 (v3.Y0 - s.R)) (W64 (v3.X1 + s.R)) (W64 (v3.Y1 + s.R)))
def FBoxR (s : TShape) : TRect := bif decide ((((s.Edges.length : Int)) : Int) = 0) then (TRect.mk 0 0 0 0) else (FBoxR_l0 s (((((s.Edges.length : Int))) - 1).toNat + 1) (Fref06Box (s.Edges.getD 0 default)) 1)
def cBoxR (s : TShape) : FuncId × List Av × Ef := (26, [.agg (TShape.c s)], .val [] (.av (.agg (TRect.c (FBoxR s)))))
theorem pBoxR (s : TShape) (h0 : (s.Edges.length : Int) ≤ 1000000) : Pure Try.prog 26 (cBoxR s).2.1 (.av (.agg (TRect.c (FBoxR s)))) := by
  refine pure_of_awF Try.func26 rfl (by kernel_rfl) (by kernel_rfl) fun W0 M0 => ?_
  refine aw_seq ?_
  refine aw_region eqok [] [] [] [1, 2] [1, 2] [] ⟨[(1, tP 1 0), (2, tP 2 0)], [(1, .cells (TShape.c s) 26), (2, .cells [.i 0, .i 0, .i 0, .i 0] 54)]⟩ .nil (by kernel_rfl) .nil <| ath_n ?_
  refine aw_seq <| aw_seq ?_
  refine aw_region eqok [] [] [] [1, 2, 9] [1, 2] [] ⟨[(1, tP 1 0), (2, tP 2 0), (9, tB (decide ((((s.Edges.length : Int)) : Int) = 0)))], [(1, .cells (TShape.c s) 26), (2, .cells [.i 0, .i 0, .i 0, .i 0] 54)]⟩ .nil (by kernel_rfl) .nil <| ath_n ?_
  refine aw_cond (decide ((((s.Edges.length : Int)) : Int) = 0)) (by kernel_rfl) (fun h1 => ?_) (fun h1 => ?_)
  · have g1 := of_decide_eq_true h1
    refine aw_seq ?_
    refine aw_region eqok [] [] [] [2] [2] [] ⟨[(2, tP 2 0)], [(2, .cells [.i 0, .i 0, .i 0, .i 0] 54)]⟩ .nil (by kernel_rfl) .nil <| ath_n ?_
    refine aw_ret <| ath_r ?_
    exact ⟨_, Cv.refl _, .inl rfl, .av (.agg [.i 0, .i 0, .i 0, .i 0]), by kernel_rfl, tve_eq (by first | (simp only [FBoxR, h1, cond_true, cond_false]; done) | (simp only [FBoxR, h1, cond_true, cond_false]; rfl))⟩
  · have g1 := of_decide_eq_false h1
    refine aw_skip <| ath_n <| aw_seq ?_
    refine aw_region eqok [] [] [(15, cref06Box (s.Edges.getD 0 default))] [1, 2, 3] [1, 2, 3] [0 ≤ (0 : Int) ∧ (0 : Int) < ((s.Edges.length : Nat) : Int), Same (cref06Box (s.Edges.getD 0 default)).2.1] ⟨[(1, tP 1 0), (2, tP 2 0), (3, tP 3 0)], [(1, .cells (TShape.c s) 26), (2, .cells [.i 0, .i 0, .i 0, .i 0] 54), (3, .cells (TRect.c (Fref06Box (s.Edges.getD 0 default))) 54)]⟩ (.cons (okref06Box (s.Edges.getD 0 default)) .nil) (by kernel_rfl) (.cons au1 (.cons rfl .nil)) <| ath_n ?_
    refine aw_seq <| aw_seq ?_
    refine aw_region eqok [] [] [] [1, 2, 3, 4] [1, 2, 3] [] ⟨[(1, tP 1 0), (2, tP 2 0), (3, tP 3 0), (4, tI 1)], [(1, .cells (TShape.c s) 26), (2, .cells [.i 0, .i 0, .i 0, .i 0] 54), (3, .cells (TRect.c (Fref06Box (s.Edges.getD 0 default))) 54)]⟩ .nil (by kernel_rfl) .nil <| ath_n <| aw_block ?_
    refine aw_loopC (ι := Nat × TRect × Int) (fun x => ⟨[(1, tP 1 0), (2, tP 2 0), (3, tP 3 0), (4, tI x.2.2)], [(1, .cells (TShape.c s) 26), (2, .cells [.i 0, .i 0, .i 0, .i 0] 54), (3, .cells (TRect.c x.2.1) 54)]⟩) (fun x => ((((s.Edges.length : Int))) - x.2.2).toNat < x.1 ∧ (1 ≤ x.2.2 ∧ (x.2.2 ≤ ((s.Edges.length : Int)) ∨ x.2.2 = 1)) ∧ FBoxR_l0 s x.1 x.2.1 x.2.2 = FBoxR s) (fun x => x.1) ?_ (((((s.Edges.length : Int))) - 1).toNat + 1, Fref06Box (s.Edges.getD 0 default), 1) ⟨Nat.lt_succ_self _, ⟨(by show 1 ≤ 1; first | trivial | omega | (simp only [List.length_append, List.length_cons, List.length_nil]; omega) | (simp only [List.length_set, List.length_append, List.length_cons, List.length_nil]; omega) | (simp only [W64_def]; omega) | (simp; omega) | simp), (by show (1 ≤ ((s.Edges.length : Int)) ∨ 1 = 1); first | trivial | omega | (simp only [List.length_append, List.length_cons, List.length_nil]; omega) | (simp only [List.length_set, List.length_append, List.length_cons, List.length_nil]; omega) | (simp only [W64_def]; omega) | (simp; omega) | simp)⟩, (by simp only [FBoxR, h1, cond_true, cond_false])⟩
    rintro ⟨n0, v3, v4⟩ ⟨hn, hinv, hF⟩
    have hm0 : ((((s.Edges.length : Int))) - v4).toNat < n0 := hn; have hinv0 : 1 ≤ v4 ∧ (v4 ≤ ((s.Edges.length : Int)) ∨ v4 = 1) := hinv; have hF0 : FBoxR_l0 s n0 v3 v4 = FBoxR s := hF; clear hn hinv hF
    cases n0 with
    | zero => exact absurd hm0 (Nat.not_lt_zero _)
    | succ n0 =>
      refine aw_seq <| aw_seq ?_
      refine aw_region eqok [] [] [] [1, 2, 3, 4, 20] [1, 2, 3] [] ⟨[(1, tP 1 0), (2, tP 2 0), (3, tP 3 0), (4, tI v4), (20, tB (decide ((v4 : Int) < ((s.Edges.length : Int)))))], [(1, .cells (TShape.c s) 26), (2, .cells [.i 0, .i 0, .i 0, .i 0] 54), (3, .cells (TRect.c v3) 54)]⟩ .nil (by kernel_rfl) .nil <| ath_n ?_
      refine aw_cond (decide ((v4 : Int) < ((s.Edges.length : Int)))) (by kernel_rfl) (fun h2 => ?_) (fun h2 => ?_)
      · have g2 := of_decide_eq_true h2
        refine aw_skip <| ath_n ?_
        refine aw_seq <| aw_block <| aw_seq ?_
        refine aw_region eqok [] [] [(28, cref06Box (s.Edges.getD v4.toNat default))] [1, 2, 3, 4, 5] [1, 2, 3, 5] [0 ≤ (v4 : Int) ∧ (v4 : Int) < ((s.Edges.length : Nat) : Int), Same (cref06Box (s.Edges.getD v4.toNat default)).2.1] ⟨[(1, tP 1 0), (2, tP 2 0), (3, tP 3 0), (4, tI v4), (5, tP 5 0)], [(1, .cells (TShape.c s) 26), (2, .cells [.i 0, .i 0, .i 0, .i 0] 54), (3, .cells (TRect.c v3) 54), (5, .cells (TRect.c (wBoxR_0 s v4)) 54)]⟩ (.cons (okref06Box (s.Edges.getD v4.toNat default)) .nil) (by kernel_rfl) (.cons au1 (.cons rfl .nil)) <| ath_n ?_
        refine aw_region eqok [] [] [] [1, 2, 3, 4] [1, 2, 3] [] ⟨[(1, tP 1 0), (2, tP 2 0), (3, tP 3 0), (4, tI v4)], [(1, .cells (TShape.c s) 26), (2, .cells [.i 0, .i 0, .i 0, .i 0] 54), (3, .cells [.i (min v3.X0 ((wBoxR_0 s v4).X0)), .i (min v3.Y0 ((wBoxR_0 s v4).Y0)), .i (max v3.X1 ((wBoxR_0 s v4).X1)), .i (max v3.Y1 ((wBoxR_0 s v4).Y1))] 54)]⟩ .nil (by kernel_rfl) .nil <| abl_n <| ath_n ?_
        refine aw_region eqok [] [] [] [1, 2, 3, 4] [1, 2, 3] [] ⟨[(1, tP 1 0), (2, tP 2 0), (3, tP 3 0), (4, tI (W64 (v4 + 1)))], [(1, .cells (TShape.c s) 26), (2, .cells [.i 0, .i 0, .i 0, .i 0] 54), (3, .cells [.i (min v3.X0 ((wBoxR_0 s v4).X0)), .i (min v3.Y0 ((wBoxR_0 s v4).Y0)), .i (max v3.X1 ((wBoxR_0 s v4).X1)), .i (max v3.Y1 ((wBoxR_0 s v4).Y1))] 54)]⟩ .nil (by kernel_rfl) .nil ?_
        (try rw [(show W64 (v4 + 1) = v4 + 1 from W64_id (by omega) au4)])
        refine ath_n ?_
        refine ⟨(n0, TRect.mk (min v3.X0 ((wBoxR_0 s v4).X0)) (min v3.Y0 ((wBoxR_0 s v4).Y0)) (max v3.X1 ((wBoxR_0 s v4).X1)) (max v3.Y1 ((wBoxR_0 s v4).Y1)), v4 + 1), ⟨?_, ?_, (by rw [← hF0]; simp only [FBoxR_l0, h2, cond_true, cond_false])⟩, Nat.lt_succ_self _, cv_eq (by kernel_rfl)⟩
        · show ((((s.Edges.length : Int))) - (v4 + 1)).toNat < n0; omega
        · exact ⟨(by show 1 ≤ (v4 + 1); first | trivial | omega | (simp only [List.length_append, List.length_cons, List.length_nil]; omega) | (simp only [List.length_set, List.length_append, List.length_cons, List.length_nil]; omega) | (simp only [W64_def]; omega) | (simp; omega) | simp), (by show ((v4 + 1) ≤ ((s.Edges.length : Int)) ∨ (v4 + 1) = 1); first | trivial | omega | (simp only [List.length_append, List.length_cons, List.length_nil]; omega) | (simp only [List.length_set, List.length_append, List.length_cons, List.length_nil]; omega) | (simp only [W64_def]; omega) | (simp; omega) | simp)⟩
      · have g2 := of_decide_eq_false h2
        refine aw_exit <| ath_e ?_
        refine ath_e <| abl_hit ?_
        refine ath_n <| aw_seq ?_
        refine aw_region eqok [] [] [] [2] [2] [] ⟨[(2, tP 2 0)], [(2, .cells [.i (W64 (v3.X0 - s.R)), .i (W64 (v3.Y0 - s.R)), .i (W64 (v3.X1 + s.R)), .i (W64 (v3.Y1 + s.R))] 54)]⟩ .nil (by kernel_rfl) .nil <| ath_n <| aw_ret ?_
        exact ⟨_, Cv.refl _, .inl rfl, .av (.agg [.i (W64 (v3.X0 - s.R)), .i (W64 (v3.Y0 - s.R)), .i (W64 (v3.X1 + s.R)), .i (W64 (v3.Y1 + s.R))]), by kernel_rfl, tve_eq (by rw [← hF0]; first | (simp only [FBoxR_l0, h2, cond_true, cond_false]; done) | (simp only [FBoxR_l0, h2, cond_true, cond_false]; rfl))⟩
theorem okBoxR (s : TShape) (h0 : (s.Edges.length : Int) ≤ 1000000) : CallOk Try.prog (cBoxR s).1 (cBoxR s).2.1 (cBoxR s).2.2 := callOk_pure (fun _ _ => by kernel_rfl) fun _ => pBoxR s h0
def FchainR_l0 (l : (List TEdge)) : Nat → Int → Bool
  | 0, _ => default
  | n0 + 1, k => bif decide ((k : Int) < ((l.length : Int))) then (bif !(decide ((((l.getD k.toNat default).A).X) = (((l.getD ((W64 (k - 1)).toNat) default).B).X)) && (decide ((((l.getD k.toNat default).A).Y) = (((l.getD ((W64 (k - 1)).toNat) default).B).Y)) && true)) then (false) else ((FchainR_l0 l n0) (k + 1))) else (true)
def FchainR (l : (List TEdge)) : Bool := FchainR_l0 l (((((l.length : Int))) - 1).toNat + 1) 1
def cchainR (l : (List TEdge)) : FuncId × List Av × Ef := (58, [.one (lst 7 TEdge.c l)], .val [] (.av (.one (.b (FchainR l)))))
theorem pchainR (l : (List TEdge)) (h0 : (l.length : Int) ≤ 1000000) : Pure Try.prog 58 (cchainR l).2.1 (.av (.one (.b (FchainR l)))) := by
  refine pure_of_awF Try.func58 rfl (by kernel_rfl) (by kernel_rfl) fun W0 M0 => ?_
  refine aw_seq ?_
  refine aw_region eqok [] [] [] [0] [] [] ⟨[(0, .av (.one (lst 7 TEdge.c l)))], []⟩ .nil (by kernel_rfl) .nil <| ath_n ?_
  refine aw_seq <| aw_seq ?_
  refine aw_region eqok [] [] [] [0, 3] [] [] ⟨[(0, .av (.one (lst 7 TEdge.c l))), (3, tI 1)], []⟩ .nil (by kernel_rfl) .nil <| ath_n <| aw_block ?_
  refine aw_loopC (ι := Nat × Int) (fun x => ⟨[(0, .av (.one (lst 7 TEdge.c l))), (3, tI x.2)], []⟩) (fun x => ((((l.length : Int))) - x.2).toNat < x.1 ∧ (1 ≤ x.2 ∧ (x.2 ≤ ((l.length : Int)) ∨ x.2 = 1)) ∧ FchainR_l0 l x.1 x.2 = FchainR l) (fun x => x.1) ?_ (((((l.length : Int))) - 1).toNat + 1, 1) ⟨Nat.lt_succ_self _, ⟨(by show 1 ≤ 1; first | trivial | omega | (simp only [List.length_append, List.length_cons, List.length_nil]; omega) | (simp only [List.length_set, List.length_append, List.length_cons, List.length_nil]; omega) | (simp only [W64_def]; omega) | (simp; omega) | simp), (by show (1 ≤ ((l.length : Int)) ∨ 1 = 1); first | trivial | omega | (simp only [List.length_append, List.length_cons, List.length_nil]; omega) | (simp only [List.length_set, List.length_append, List.length_cons, List.length_nil]; omega) | (simp only [W64_def]; omega) | (simp; omega) | simp)⟩, (by simp only [FchainR, cond_true, cond_false])⟩
  rintro ⟨n0, k⟩ ⟨hn, hinv, hF⟩
  have hm0 : ((((l.length : Int))) - k).toNat < n0 := hn; have hinv0 : 1 ≤ k ∧ (k ≤ ((l.length : Int)) ∨ k = 1) := hinv; have hF0 : FchainR_l0 l n0 k = FchainR l := hF; clear hn hinv hF
  cases n0 with
  | zero => exact absurd hm0 (Nat.not_lt_zero _)
  | succ n0 =>
    refine aw_seq <| aw_seq ?_
    refine aw_region eqok [] [] [] [0, 3, 7] [] [] ⟨[(0, .av (.one (lst 7 TEdge.c l))), (3, tI k), (7, tB (decide ((k : Int) < ((l.length : Int)))))], []⟩ .nil (by kernel_rfl) .nil <| ath_n ?_
    refine aw_cond (decide ((k : Int) < ((l.length : Int)))) (by kernel_rfl) (fun h1 => ?_) (fun h1 => ?_)
    · have g1 := of_decide_eq_true h1
      refine aw_skip <| ath_n ?_
      refine aw_seq <| aw_block <| aw_seq ?_
      refine aw_draw mixed eqok [] [] [] [0, 3, 21] [] [0 ≤ (k : Int) ∧ (k : Int) < ((l.length : Nat) : Int), 0 ≤ (W64 (k - 1) : Int) ∧ (W64 (k - 1) : Int) < ((l.length : Nat) : Int)] ⟨[(0, .av (.one (lst 7 TEdge.c l))), (3, tI k), (21, tB (!(decide ((((l.getD k.toNat default).A).X) = (((l.getD ((W64 (k - 1)).toNat) default).B).X)) && (decide ((((l.getD k.toNat default).A).Y) = (((l.getD ((W64 (k - 1)).toNat) default).B).Y)) && true))))], []⟩ .nil (by kernel_rfl) (by kernel_rfl) (.cons au1 (.cons au1 .nil)) <| ath_n ?_
      refine aw_cond (!(decide ((((l.getD k.toNat default).A).X) = (((l.getD ((W64 (k - 1)).toNat) default).B).X)) && (decide ((((l.getD k.toNat default).A).Y) = (((l.getD ((W64 (k - 1)).toNat) default).B).Y)) && true))) (by kernel_rfl) (fun h2 => ?_) (fun h2 => ?_)
      · refine aw_seq ?_
        refine aw_region eqok [] [] [] [2] [] [] ⟨[(2, tB false)], []⟩ .nil (by kernel_rfl) .nil <| ath_n ?_
        refine aw_ret <| abl_r ?_
        refine ath_r <| ath_r ?_
        refine abl_r <| ath_r ?_
        exact ⟨_, Cv.refl _, .inl rfl, .av (.one (.b false)), by kernel_rfl, tve_eq (by rw [← hF0]; first | (simp only [FchainR_l0, h1, h2, cond_true, cond_false]; done) | (simp only [FchainR_l0, h1, h2, cond_true, cond_false]; rfl))⟩
      · refine aw_skip <| abl_n <| ath_n ?_
        refine aw_region eqok [] [] [] [0, 3] [] [] ⟨[(0, .av (.one (lst 7 TEdge.c l))), (3, tI (W64 (k + 1)))], []⟩ .nil (by kernel_rfl) .nil ?_
        (try rw [(show W64 (k + 1) = k + 1 from W64_id (by omega) au4)])
        refine ath_n ?_
        refine ⟨(n0, k + 1), ⟨?_, ?_, (by rw [← hF0]; simp only [FchainR_l0, h1, h2, cond_true, cond_false])⟩, Nat.lt_succ_self _, cv_eq (by kernel_rfl)⟩
        · show ((((l.length : Int))) - (k + 1)).toNat < n0; omega
        · exact ⟨(by show 1 ≤ (k + 1); first | trivial | omega | (simp only [List.length_append, List.length_cons, List.length_nil]; omega) | (simp only [List.length_set, List.length_append, List.length_cons, List.length_nil]; omega) | (simp only [W64_def]; omega) | (simp; omega) | simp), (by show ((k + 1) ≤ ((l.length : Int)) ∨ (k + 1) = 1); first | trivial | omega | (simp only [List.length_append, List.length_cons, List.length_nil]; omega) | (simp only [List.length_set, List.length_append, List.length_cons, List.length_nil]; omega) | (simp only [W64_def]; omega) | (simp; omega) | simp)⟩
    · have g1 := of_decide_eq_false h1
      refine aw_exit <| ath_e ?_
      refine ath_e <| abl_hit ?_
      refine ath_n <| aw_seq ?_
      refine aw_region eqok [] [] [] [2] [] [] ⟨[(2, tB true)], []⟩ .nil (by kernel_rfl) .nil <| ath_n <| aw_ret ?_
      exact ⟨_, Cv.refl _, .inl rfl, .av (.one (.b true)), by kernel_rfl, tve_eq (by rw [← hF0]; first | (simp only [FchainR_l0, h1, cond_true, cond_false]; done) | (simp only [FchainR_l0, h1, cond_true, cond_false]; rfl))⟩
theorem okchainR (l : (List TEdge)) (h0 : (l.length : Int) ≤ 1000000) : CallOk Try.prog (cchainR l).1 (cchainR l).2.1 (cchainR l).2.2 := callOk_pure (fun _ _ => by kernel_rfl) fun _ => pchainR l h0
def wCheckR_0 (s : TShape) : TPoint := (s.Edges.getD ((W64 (((s.Edges.length : Int)) - 1)).toNat) default).B
def FCheckR_l0 (s : TShape) : Nat → Int → Int
  | 0, _ => default
  | n0 + 1, v4 => bif decide ((v4 : Int) < ((s.Edges.length : Int))) then (bif !decide (((Fref06Check (s.Edges.getD v4.toNat default)) : Int) = 0) then (Fref06Check (s.Edges.getD v4.toNat default)) else ((FCheckR_l0 s n0) (v4 + 1))) else (bif bif !(FchainR s.Edges) then true else bif decide ((s.Kind : Int) = 2) then !((decide ((((s.Edges.getD 0 default).A).X) = ((wCheckR_0 s).X)) && (decide ((((s.Edges.getD 0 default).A).Y) = ((wCheckR_0 s).Y)) && true))) else false then (12) else (bif bif bif bif decide ((s.Kind : Int) = 2) then !decide ((s.R : Int) = 0) else false then true else decide ((s.R : Int) < 0) then true else decide ((4194304 : Int) < s.R) then (3) else (0)))
def FCheckR (s : TShape) : Int := bif decide ((s.Kind : Int) = 1) then (bif decide ((((s.Edges.length : Int)) : Int) < 1) then (12) else (bif decide ((40 : Int) < ((s.Edges.length : Int))) then (2) else (FCheckR_l0 s (((((s.Edges.length : Int))) - 0).toNat + 1) 0))) else (bif decide ((s.Kind : Int) = 2) then (bif decide ((((s.Edges.length : Int)) : Int) < 2) then (12) else (bif decide ((40 : Int) < ((s.Edges.length : Int))) then (2) else (FCheckR_l0 s (((((s.Edges.length : Int))) - 0).toNat + 1) 0))) else (12))
def cCheckR (s : TShape) : FuncId × List Av × Ef := (24, [.agg (TShape.c s)], .val [] (.av (.one (.i (FCheckR s)))))
theorem pCheckR (s : TShape) (hl : (s.Edges.length : Int) ≤ 1000000) : Pure Try.prog 24 (cCheckR s).2.1 (.av (.one (.i (FCheckR s)))) := by
  refine pure_of_awF Try.func24 rfl (by kernel_rfl) (by kernel_rfl) fun W0 M0 => ?_
  refine aw_seq ?_
  refine aw_region eqok [] [] [] [1] [1] [] ⟨[(1, tP 1 0)], [(1, .cells (TShape.c s) 26)]⟩ .nil (by kernel_rfl) .nil <| ath_n <| aw_seq ?_
  refine aw_region eqok [] [] [] [1, 3] [1] [] ⟨[(1, tP 1 0), (3, tI 1)], [(1, .cells (TShape.c s) 26)]⟩ .nil (by kernel_rfl) .nil <| ath_n ?_
  refine aw_seq <| aw_seq ?_
  refine aw_region eqok [] [] [] [1, 3, 9] [1] [] ⟨[(1, tP 1 0), (3, tI 1), (9, tI s.Kind)], [(1, .cells (TShape.c s) 26)]⟩ .nil (by kernel_rfl) .nil <| ath_n ?_
  refine aw_block <| aw_seq ?_
  refine aw_region eqok [] [] [] [1, 3, 9, 10] [1] [] ⟨[(1, tP 1 0), (3, tI 1), (9, tI s.Kind), (10, tB (decide ((s.Kind : Int) = 1)))], [(1, .cells (TShape.c s) 26)]⟩ .nil (by kernel_rfl) .nil <| ath_n ?_
  refine aw_cond (decide ((s.Kind : Int) = 1)) (by kernel_rfl) (fun h1 => ?_) (fun h1 => ?_)
  · have g1 := of_decide_eq_true h1
    refine aw_skip <| abl_n ?_
    refine ath_n <| aw_seq <| aw_seq ?_
    refine aw_region eqok [] [] [] [1, 18] [1] [] ⟨[(1, tP 1 0), (18, tB (decide ((((s.Edges.length : Int)) : Int) < 1)))], [(1, .cells (TShape.c s) 26)]⟩ .nil (by kernel_rfl) .nil <| ath_n ?_
    refine aw_cond (decide ((((s.Edges.length : Int)) : Int) < 1)) (by kernel_rfl) (fun h2 => ?_) (fun h2 => ?_)
    · have g2 := of_decide_eq_true h2
      refine aw_seq ?_
      refine aw_region eqok [] [] [] [2] [] [] ⟨[(2, tI 12)], []⟩ .nil (by kernel_rfl) .nil <| ath_n ?_
      refine aw_ret <| ath_r ?_
      exact ⟨_, Cv.refl _, .inl rfl, .av (.one (.i 12)), by kernel_rfl, tve_eq (by first | (simp only [FCheckR, h1, h2, cond_true, cond_false]; done) | (simp only [FCheckR, h1, h2, cond_true, cond_false]; rfl))⟩
    · have g2 := of_decide_eq_false h2
      refine aw_skip <| ath_n ?_
      refine aw_seq <| aw_seq ?_
      refine aw_region eqok [] [] [] [1, 22] [1] [] ⟨[(1, tP 1 0), (22, tB (decide ((40 : Int) < ((s.Edges.length : Int)))))], [(1, .cells (TShape.c s) 26)]⟩ .nil (by kernel_rfl) .nil <| ath_n ?_
      refine aw_cond (decide ((40 : Int) < ((s.Edges.length : Int)))) (by kernel_rfl) (fun h3 => ?_) (fun h3 => ?_)
      · have g3 := of_decide_eq_true h3
        refine aw_seq ?_
        refine aw_region eqok [] [] [] [2] [] [] ⟨[(2, tI 2)], []⟩ .nil (by kernel_rfl) .nil <| ath_n ?_
        refine aw_ret <| ath_r ?_
        exact ⟨_, Cv.refl _, .inl rfl, .av (.one (.i 2)), by kernel_rfl, tve_eq (by first | (simp only [FCheckR, h1, h2, h3, cond_true, cond_false]; done) | (simp only [FCheckR, h1, h2, h3, cond_true, cond_false]; rfl))⟩
      · have g3 := of_decide_eq_false h3
        refine aw_skip <| ath_n ?_
        refine aw_seq <| aw_seq ?_
        refine aw_region eqok [] [] [] [1, 4] [1] [] ⟨[(1, tP 1 0), (4, tI 0)], [(1, .cells (TShape.c s) 26)]⟩ .nil (by kernel_rfl) .nil <| ath_n <| aw_block ?_
        refine aw_loopC (ι := Nat × Int) (fun x => ⟨[(1, tP 1 0), (4, tI x.2)], [(1, .cells (TShape.c s) 26)]⟩) (fun x => ((((s.Edges.length : Int))) - x.2).toNat < x.1 ∧ (0 ≤ x.2 ∧ (x.2 ≤ ((s.Edges.length : Int)) ∨ x.2 = 0)) ∧ FCheckR_l0 s x.1 x.2 = FCheckR s) (fun x => x.1) ?_ (((((s.Edges.length : Int))) - 0).toNat + 1, 0) ⟨Nat.lt_succ_self _, ⟨(by show 0 ≤ 0; first | trivial | omega | (simp only [List.length_append, List.length_cons, List.length_nil]; omega) | (simp only [List.length_set, List.length_append, List.length_cons, List.length_nil]; omega) | (simp only [W64_def]; omega) | (simp; omega) | simp), (by show (0 ≤ ((s.Edges.length : Int)) ∨ 0 = 0); first | trivial | omega | (simp only [List.length_append, List.length_cons, List.length_nil]; omega) | (simp only [List.length_set, List.length_append, List.length_cons, List.length_nil]; omega) | (simp only [W64_def]; omega) | (simp; omega) | simp)⟩, (by simp only [FCheckR, h1, h2, h3, cond_true, cond_false])⟩
        rintro ⟨n0, v4⟩ ⟨hn, hinv, hF⟩
        have hm0 : ((((s.Edges.length : Int))) - v4).toNat < n0 := hn; have hinv0 : 0 ≤ v4 ∧ (v4 ≤ ((s.Edges.length : Int)) ∨ v4 = 0) := hinv; have hF0 : FCheckR_l0 s n0 v4 = FCheckR s := hF; clear hn hinv hF
        cases n0 with
        | zero => exact absurd hm0 (Nat.not_lt_zero _)
        | succ n0 =>
          refine aw_seq <| aw_seq ?_
          refine aw_region eqok [] [] [] [1, 4, 27] [1] [] ⟨[(1, tP 1 0), (4, tI v4), (27, tB (decide ((v4 : Int) < ((s.Edges.length : Int)))))], [(1, .cells (TShape.c s) 26)]⟩ .nil (by kernel_rfl) .nil <| ath_n ?_
          refine aw_cond (decide ((v4 : Int) < ((s.Edges.length : Int)))) (by kernel_rfl) (fun h4 => ?_) (fun h4 => ?_)
          · have g4 := of_decide_eq_true h4
            refine aw_skip <| ath_n ?_
            refine aw_seq <| aw_block <| aw_seq ?_
            refine aw_region eqok [] [] [(35, cref06Check (s.Edges.getD v4.toNat default))] [1, 4, 5] [1] [0 ≤ (v4 : Int) ∧ (v4 : Int) < ((s.Edges.length : Nat) : Int), Same (cref06Check (s.Edges.getD v4.toNat default)).2.1] ⟨[(1, tP 1 0), (4, tI v4), (5, tI (Fref06Check (s.Edges.getD v4.toNat default)))], [(1, .cells (TShape.c s) 26)]⟩ (.cons (okref06Check (s.Edges.getD v4.toNat default)) .nil) (by kernel_rfl) (.cons au1 (.cons rfl .nil)) <| ath_n <| aw_seq ?_
            refine aw_region eqok [] [] [] [1, 4, 5, 37] [1] [] ⟨[(1, tP 1 0), (4, tI v4), (5, tI (Fref06Check (s.Edges.getD v4.toNat default))), (37, tB (!decide (((Fref06Check (s.Edges.getD v4.toNat default)) : Int) = 0)))], [(1, .cells (TShape.c s) 26)]⟩ .nil (by kernel_rfl) .nil <| ath_n ?_
            refine aw_cond (!decide (((Fref06Check (s.Edges.getD v4.toNat default)) : Int) = 0)) (by kernel_rfl) (fun h5 => ?_) (fun h5 => ?_)
            · have g5 := of_not_decide_true h5
              refine aw_seq ?_
              refine aw_region eqok [] [] [] [2] [] [] ⟨[(2, tI (Fref06Check (s.Edges.getD v4.toNat default)))], []⟩ .nil (by kernel_rfl) .nil <| ath_n ?_
              refine aw_ret <| abl_r ?_
              refine ath_r <| ath_r ?_
              refine abl_r <| ath_r ?_
              exact ⟨_, Cv.refl _, .inl rfl, .av (.one (.i (Fref06Check (s.Edges.getD v4.toNat default)))), by kernel_rfl, tve_eq (by rw [← hF0]; first | (simp only [FCheckR_l0, h4, h5, cond_true, cond_false]; done) | (simp only [FCheckR_l0, h4, h5, cond_true, cond_false]; rfl))⟩
            · have g5 := of_not_decide_false h5
              refine aw_skip <| abl_n <| ath_n ?_
              refine aw_region eqok [] [] [] [1, 4] [1] [] ⟨[(1, tP 1 0), (4, tI (W64 (v4 + 1)))], [(1, .cells (TShape.c s) 26)]⟩ .nil (by kernel_rfl) .nil ?_
              (try rw [(show W64 (v4 + 1) = v4 + 1 from W64_id (by omega) au4)])
              refine ath_n ?_
              refine ⟨(n0, v4 + 1), ⟨?_, ?_, (by rw [← hF0]; simp only [FCheckR_l0, h4, h5, cond_true, cond_false])⟩, Nat.lt_succ_self _, cv_eq (by kernel_rfl)⟩
              · show ((((s.Edges.length : Int))) - (v4 + 1)).toNat < n0; omega
              · exact ⟨(by show 0 ≤ (v4 + 1); first | trivial | omega | (simp only [List.length_append, List.length_cons, List.length_nil]; omega) | (simp only [List.length_set, List.length_append, List.length_cons, List.length_nil]; omega) | (simp only [W64_def]; omega) | (simp; omega) | simp), (by show ((v4 + 1) ≤ ((s.Edges.length : Int)) ∨ (v4 + 1) = 0); first | trivial | omega | (simp only [List.length_append, List.length_cons, List.length_nil]; omega) | (simp only [List.length_set, List.length_append, List.length_cons, List.length_nil]; omega) | (simp only [W64_def]; omega) | (simp; omega) | simp)⟩
          · have g4 := of_decide_eq_false h4
            refine aw_exit <| ath_e ?_
            refine ath_e <| abl_hit ?_
            refine ath_n <| aw_seq ?_
            refine aw_region eqok [] [] [(41, cchainR s.Edges)] [1, 6] [1] [Same (cchainR s.Edges).2.1] ⟨[(1, tP 1 0), (6, tB (FchainR s.Edges))], [(1, .cells (TShape.c s) 26)]⟩ (.cons (okchainR s.Edges au0) .nil) (by kernel_rfl) (.cons rfl .nil) <| ath_n <| aw_seq ?_
            refine aw_draw mixed eqok [] [] [] [1, 6, 7] [1] [0 ≤ (0 : Int) ∧ (0 : Int) < ((s.Edges.length : Nat) : Int), 0 ≤ (W64 (((s.Edges.length : Int)) - 1) : Int) ∧ (W64 (((s.Edges.length : Int)) - 1) : Int) < ((s.Edges.length : Nat) : Int)] ⟨[(1, tP 1 0), (6, tB (FchainR s.Edges)), (7, tB ((decide ((((s.Edges.getD 0 default).A).X) = ((wCheckR_0 s).X)) && (decide ((((s.Edges.getD 0 default).A).Y) = ((wCheckR_0 s).Y)) && true))))], [(1, .cells (TShape.c s) 26)]⟩ .nil (by kernel_rfl) (by kernel_rfl) (.cons au1 (.cons au1 .nil)) <| ath_n ?_
            refine aw_seq <| aw_seq ?_
            refine aw_region eqok [] [] [] [1, 67] [1] [((!(FchainR s.Edges)) = false) → ((!(FchainR s.Edges)) = false), ((!(FchainR s.Edges)) = false) → ((!(FchainR s.Edges)) = false), ((!(FchainR s.Edges)) = false) → ((!(FchainR s.Edges)) = false), (((!(FchainR s.Edges)) = false) ∧ (decide ((s.Kind : Int) = 2)) = true) → (((!(FchainR s.Edges)) = false) ∧ (decide ((s.Kind : Int) = 2)) = true), ((!(FchainR s.Edges)) = false) → ((!(FchainR s.Edges)) = false), ((!(FchainR s.Edges)) = false) → ((decide ((s.Kind : Int) = 2)) = true → (((!(FchainR s.Edges)) = false) ∧ (decide ((s.Kind : Int) = 2)) = true)), (!(FchainR s.Edges)) = false → ((!(FchainR s.Edges)) = false)] ⟨[(1, tP 1 0), (67, tB (bif !(FchainR s.Edges) then true else bif decide ((s.Kind : Int) = 2) then !((decide ((((s.Edges.getD 0 default).A).X) = ((wCheckR_0 s).X)) && (decide ((((s.Edges.getD 0 default).A).Y) = ((wCheckR_0 s).Y)) && true))) else false))], [(1, .cells (TShape.c s) 26)]⟩ .nil (by kernel_rfl) (.cons id (.cons id (.cons id (.cons id (.cons id (.cons (by intros; first | assumption | exact ⟨by assumption, by assumption⟩ | simp_all) (.cons id .nil))))))) <| ath_n ?_
            refine aw_cond (bif !(FchainR s.Edges) then true else bif decide ((s.Kind : Int) = 2) then !((decide ((((s.Edges.getD 0 default).A).X) = ((wCheckR_0 s).X)) && (decide ((((s.Edges.getD 0 default).A).Y) = ((wCheckR_0 s).Y)) && true))) else false) (by kernel_rfl) (fun h5 => ?_) (fun h5 => ?_)
            · refine aw_seq ?_
              refine aw_region eqok [] [] [] [2] [] [] ⟨[(2, tI 12)], []⟩ .nil (by kernel_rfl) .nil <| ath_n ?_
              refine aw_ret <| ath_r ?_
              exact ⟨_, Cv.refl _, .inl rfl, .av (.one (.i 12)), by kernel_rfl, tve_eq (by rw [← hF0]; first | (simp only [FCheckR_l0, h4, h5, cond_true, cond_false]; done) | (simp only [FCheckR_l0, h4, h5, cond_true, cond_false]; rfl))⟩
            · refine aw_skip <| ath_n ?_
              refine aw_seq <| aw_seq ?_
              refine aw_region eqok [] [] [] [85] [] [((decide ((s.Kind : Int) = 2)) = true) → ((decide ((s.Kind : Int) = 2)) = true), ((decide ((s.Kind : Int) = 2)) = true) → ((decide ((s.Kind : Int) = 2)) = true), (decide ((s.Kind : Int) = 2)) = true → ((decide ((s.Kind : Int) = 2)) = true), ((bif decide ((s.Kind : Int) = 2) then !decide ((s.R : Int) = 0) else false) = false) → ((bif decide ((s.Kind : Int) = 2) then !decide ((s.R : Int) = 0) else false) = false), ((bif decide ((s.Kind : Int) = 2) then !decide ((s.R : Int) = 0) else false) = false) → ((bif decide ((s.Kind : Int) = 2) then !decide ((s.R : Int) = 0) else false) = false), (bif decide ((s.Kind : Int) = 2) then !decide ((s.R : Int) = 0) else false) = false → ((bif decide ((s.Kind : Int) = 2) then !decide ((s.R : Int) = 0) else false) = false), ((bif bif decide ((s.Kind : Int) = 2) then !decide ((s.R : Int) = 0) else false then true else decide ((s.R : Int) < 0)) = false) → ((bif bif decide ((s.Kind : Int) = 2) then !decide ((s.R : Int) = 0) else false then true else decide ((s.R : Int) < 0)) = false), ((bif bif decide ((s.Kind : Int) = 2) then !decide ((s.R : Int) = 0) else false then true else decide ((s.R : Int) < 0)) = false) → ((bif bif decide ((s.Kind : Int) = 2) then !decide ((s.R : Int) = 0) else false then true else decide ((s.R : Int) < 0)) = false), (bif bif decide ((s.Kind : Int) = 2) then !decide ((s.R : Int) = 0) else false then true else decide ((s.R : Int) < 0)) = false → ((bif bif decide ((s.Kind : Int) = 2) then !decide ((s.R : Int) = 0) else false then true else decide ((s.R : Int) < 0)) = false)] ⟨[(85, tB (bif bif bif decide ((s.Kind : Int) = 2) then !decide ((s.R : Int) = 0) else false then true else decide ((s.R : Int) < 0) then true else decide ((4194304 : Int) < s.R)))], []⟩ .nil (by kernel_rfl) (.cons id (.cons id (.cons id (.cons id (.cons id (.cons id (.cons id (.cons id (.cons id .nil))))))))) <| ath_n ?_
              refine aw_cond (bif bif bif decide ((s.Kind : Int) = 2) then !decide ((s.R : Int) = 0) else false then true else decide ((s.R : Int) < 0) then true else decide ((4194304 : Int) < s.R)) (by kernel_rfl) (fun h6 => ?_) (fun h6 => ?_)
              · refine aw_seq ?_
                refine aw_region eqok [] [] [] [2] [] [] ⟨[(2, tI 3)], []⟩ .nil (by kernel_rfl) .nil <| ath_n ?_
                refine aw_ret <| ath_r ?_
                exact ⟨_, Cv.refl _, .inl rfl, .av (.one (.i 3)), by kernel_rfl, tve_eq (by rw [← hF0]; first | (simp only [FCheckR_l0, h4, h5, h6, cond_true, cond_false]; done) | (simp only [FCheckR_l0, h4, h5, h6, cond_true, cond_false]; rfl))⟩
              · refine aw_skip <| ath_n <| aw_seq ?_
                refine aw_region eqok [] [] [] [2] [] [] ⟨[(2, tI 0)], []⟩ .nil (by kernel_rfl) .nil <| ath_n <| aw_ret ?_
                exact ⟨_, Cv.refl _, .inl rfl, .av (.one (.i 0)), by kernel_rfl, tve_eq (by rw [← hF0]; first | (simp only [FCheckR_l0, h4, h5, h6, cond_true, cond_false]; done) | (simp only [FCheckR_l0, h4, h5, h6, cond_true, cond_false]; rfl))⟩
  · have g1 := of_decide_eq_false h1
    refine aw_seq ?_
    refine aw_region eqok [] [] [] [1, 12] [1] [] ⟨[(1, tP 1 0), (12, tB (decide ((s.Kind : Int) = 2)))], [(1, .cells (TShape.c s) 26)]⟩ .nil (by kernel_rfl) .nil <| ath_n ?_
    refine aw_cond (decide ((s.Kind : Int) = 2)) (by kernel_rfl) (fun h2 => ?_) (fun h2 => ?_)
    · have g2 := of_decide_eq_true h2
      refine aw_region eqok [] [] [] [1, 3] [1] [] ⟨[(1, tP 1 0), (3, tI 2)], [(1, .cells (TShape.c s) 26)]⟩ .nil (by kernel_rfl) .nil <| abl_n ?_
      refine ath_n <| aw_seq <| aw_seq ?_
      refine aw_region eqok [] [] [] [1, 18] [1] [] ⟨[(1, tP 1 0), (18, tB (decide ((((s.Edges.length : Int)) : Int) < 2)))], [(1, .cells (TShape.c s) 26)]⟩ .nil (by kernel_rfl) .nil <| ath_n ?_
      refine aw_cond (decide ((((s.Edges.length : Int)) : Int) < 2)) (by kernel_rfl) (fun h3 => ?_) (fun h3 => ?_)
      · have g3 := of_decide_eq_true h3
        refine aw_seq ?_
        refine aw_region eqok [] [] [] [2] [] [] ⟨[(2, tI 12)], []⟩ .nil (by kernel_rfl) .nil <| ath_n ?_
        refine aw_ret <| ath_r ?_
        exact ⟨_, Cv.refl _, .inl rfl, .av (.one (.i 12)), by kernel_rfl, tve_eq (by first | (simp only [FCheckR, h1, h2, h3, cond_true, cond_false]; done) | (simp only [FCheckR, h1, h2, h3, cond_true, cond_false]; rfl))⟩
      · have g3 := of_decide_eq_false h3
        refine aw_skip <| ath_n ?_
        refine aw_seq <| aw_seq ?_
        refine aw_region eqok [] [] [] [1, 22] [1] [] ⟨[(1, tP 1 0), (22, tB (decide ((40 : Int) < ((s.Edges.length : Int)))))], [(1, .cells (TShape.c s) 26)]⟩ .nil (by kernel_rfl) .nil <| ath_n ?_
        refine aw_cond (decide ((40 : Int) < ((s.Edges.length : Int)))) (by kernel_rfl) (fun h4 => ?_) (fun h4 => ?_)
        · have g4 := of_decide_eq_true h4
          refine aw_seq ?_
          refine aw_region eqok [] [] [] [2] [] [] ⟨[(2, tI 2)], []⟩ .nil (by kernel_rfl) .nil <| ath_n ?_
          refine aw_ret <| ath_r ?_
          exact ⟨_, Cv.refl _, .inl rfl, .av (.one (.i 2)), by kernel_rfl, tve_eq (by first | (simp only [FCheckR, h1, h2, h3, h4, cond_true, cond_false]; done) | (simp only [FCheckR, h1, h2, h3, h4, cond_true, cond_false]; rfl))⟩
        · have g4 := of_decide_eq_false h4
          refine aw_skip <| ath_n ?_
          refine aw_seq <| aw_seq ?_
          refine aw_region eqok [] [] [] [1, 4] [1] [] ⟨[(1, tP 1 0), (4, tI 0)], [(1, .cells (TShape.c s) 26)]⟩ .nil (by kernel_rfl) .nil <| ath_n <| aw_block ?_
          refine aw_loopC (ι := Nat × Int) (fun x => ⟨[(1, tP 1 0), (4, tI x.2)], [(1, .cells (TShape.c s) 26)]⟩) (fun x => ((((s.Edges.length : Int))) - x.2).toNat < x.1 ∧ (0 ≤ x.2 ∧ (x.2 ≤ ((s.Edges.length : Int)) ∨ x.2 = 0)) ∧ FCheckR_l0 s x.1 x.2 = FCheckR s) (fun x => x.1) ?_ (((((s.Edges.length : Int))) - 0).toNat + 1, 0) ⟨Nat.lt_succ_self _, ⟨(by show 0 ≤ 0; first | trivial | omega | (simp only [List.length_append, List.length_cons, List.length_nil]; omega) | (simp only [List.length_set, List.length_append, List.length_cons, List.length_nil]; omega) | (simp only [W64_def]; omega) | (simp; omega) | simp), (by show (0 ≤ ((s.Edges.length : Int)) ∨ 0 = 0); first | trivial | omega | (simp only [List.length_append, List.length_cons, List.length_nil]; omega) | (simp only [List.length_set, List.length_append, List.length_cons, List.length_nil]; omega) | (simp only [W64_def]; omega) | (simp; omega) | simp)⟩, (by simp only [FCheckR, h1, h2, h3, h4, cond_true, cond_false])⟩
          rintro ⟨n1, v4⟩ ⟨hn, hinv, hF⟩
          have hm1 : ((((s.Edges.length : Int))) - v4).toNat < n1 := hn; have hinv1 : 0 ≤ v4 ∧ (v4 ≤ ((s.Edges.length : Int)) ∨ v4 = 0) := hinv; have hF1 : FCheckR_l0 s n1 v4 = FCheckR s := hF; clear hn hinv hF
          cases n1 with
          | zero => exact absurd hm1 (Nat.not_lt_zero _)
          | succ n1 =>
            refine aw_seq <| aw_seq ?_
            refine aw_region eqok [] [] [] [1, 4, 27] [1] [] ⟨[(1, tP 1 0), (4, tI v4), (27, tB (decide ((v4 : Int) < ((s.Edges.length : Int)))))], [(1, .cells (TShape.c s) 26)]⟩ .nil (by kernel_rfl) .nil <| ath_n ?_
            refine aw_cond (decide ((v4 : Int) < ((s.Edges.length : Int)))) (by kernel_rfl) (fun h5 => ?_) (fun h5 => ?_)
            · have g5 := of_decide_eq_true h5
              refine aw_skip <| ath_n ?_
              refine aw_seq <| aw_block <| aw_seq ?_
              refine aw_region eqok [] [] [(35, cref06Check (s.Edges.getD v4.toNat default))] [1, 4, 5] [1] [0 ≤ (v4 : Int) ∧ (v4 : Int) < ((s.Edges.length : Nat) : Int), Same (cref06Check (s.Edges.getD v4.toNat default)).2.1] ⟨[(1, tP 1 0), (4, tI v4), (5, tI (Fref06Check (s.Edges.getD v4.toNat default)))], [(1, .cells (TShape.c s) 26)]⟩ (.cons (okref06Check (s.Edges.getD v4.toNat default)) .nil) (by kernel_rfl) (.cons au1 (.cons rfl .nil)) <| ath_n <| aw_seq ?_
              refine aw_region eqok [] [] [] [1, 4, 5, 37] [1] [] ⟨[(1, tP 1 0), (4, tI v4), (5, tI (Fref06Check (s.Edges.getD v4.toNat default))), (37, tB (!decide (((Fref06Check (s.Edges.getD v4.toNat default)) : Int) = 0)))], [(1, .cells (TShape.c s) 26)]⟩ .nil (by kernel_rfl) .nil <| ath_n ?_
              refine aw_cond (!decide (((Fref06Check (s.Edges.getD v4.toNat default)) : Int) = 0)) (by kernel_rfl) (fun h6 => ?_) (fun h6 => ?_)
              · have g6 := of_not_decide_true h6
                refine aw_seq ?_
                refine aw_region eqok [] [] [] [2] [] [] ⟨[(2, tI (Fref06Check (s.Edges.getD v4.toNat default)))], []⟩ .nil (by kernel_rfl) .nil <| ath_n ?_
                refine aw_ret <| abl_r ?_
                refine ath_r <| ath_r ?_
                refine abl_r <| ath_r ?_
                exact ⟨_, Cv.refl _, .inl rfl, .av (.one (.i (Fref06Check (s.Edges.getD v4.toNat default)))), by kernel_rfl, tve_eq (by rw [← hF1]; first | (simp only [FCheckR_l0, h5, h6, cond_true, cond_false]; done) | (simp only [FCheckR_l0, h5, h6, cond_true, cond_false]; rfl))⟩
              · have g6 := of_not_decide_false h6
                refine aw_skip <| abl_n <| ath_n ?_
                refine aw_region eqok [] [] [] [1, 4] [1] [] ⟨[(1, tP 1 0), (4, tI (W64 (v4 + 1)))], [(1, .cells (TShape.c s) 26)]⟩ .nil (by kernel_rfl) .nil ?_
                (try rw [(show W64 (v4 + 1) = v4 + 1 from W64_id (by omega) au4)])
                refine ath_n ?_
                refine ⟨(n1, v4 + 1), ⟨?_, ?_, (by rw [← hF1]; simp only [FCheckR_l0, h5, h6, cond_true, cond_false])⟩, Nat.lt_succ_self _, cv_eq (by kernel_rfl)⟩
                · show ((((s.Edges.length : Int))) - (v4 + 1)).toNat < n1; omega
                · exact ⟨(by show 0 ≤ (v4 + 1); first | trivial | omega | (simp only [List.length_append, List.length_cons, List.length_nil]; omega) | (simp only [List.length_set, List.length_append, List.length_cons, List.length_nil]; omega) | (simp only [W64_def]; omega) | (simp; omega) | simp), (by show ((v4 + 1) ≤ ((s.Edges.length : Int)) ∨ (v4 + 1) = 0); first | trivial | omega | (simp only [List.length_append, List.length_cons, List.length_nil]; omega) | (simp only [List.length_set, List.length_append, List.length_cons, List.length_nil]; omega) | (simp only [W64_def]; omega) | (simp; omega) | simp)⟩
            · have g5 := of_decide_eq_false h5
              refine aw_exit <| ath_e ?_
              refine ath_e <| abl_hit ?_
              refine ath_n <| aw_seq ?_
              refine aw_region eqok [] [] [(41, cchainR s.Edges)] [1, 6] [1] [Same (cchainR s.Edges).2.1] ⟨[(1, tP 1 0), (6, tB (FchainR s.Edges))], [(1, .cells (TShape.c s) 26)]⟩ (.cons (okchainR s.Edges au0) .nil) (by kernel_rfl) (.cons rfl .nil) <| ath_n <| aw_seq ?_
              refine aw_draw mixed eqok [] [] [] [1, 6, 7] [1] [0 ≤ (0 : Int) ∧ (0 : Int) < ((s.Edges.length : Nat) : Int), 0 ≤ (W64 (((s.Edges.length : Int)) - 1) : Int) ∧ (W64 (((s.Edges.length : Int)) - 1) : Int) < ((s.Edges.length : Nat) : Int)] ⟨[(1, tP 1 0), (6, tB (FchainR s.Edges)), (7, tB ((decide ((((s.Edges.getD 0 default).A).X) = ((wCheckR_0 s).X)) && (decide ((((s.Edges.getD 0 default).A).Y) = ((wCheckR_0 s).Y)) && true))))], [(1, .cells (TShape.c s) 26)]⟩ .nil (by kernel_rfl) (by kernel_rfl) (.cons au1 (.cons au1 .nil)) <| ath_n ?_
              refine aw_seq <| aw_seq ?_
              refine aw_region eqok [] [] [] [1, 67] [1] [((!(FchainR s.Edges)) = false) → ((!(FchainR s.Edges)) = false), ((!(FchainR s.Edges)) = false) → ((!(FchainR s.Edges)) = false), ((!(FchainR s.Edges)) = false) → ((!(FchainR s.Edges)) = false), (((!(FchainR s.Edges)) = false) ∧ (decide ((s.Kind : Int) = 2)) = true) → (((!(FchainR s.Edges)) = false) ∧ (decide ((s.Kind : Int) = 2)) = true), ((!(FchainR s.Edges)) = false) → ((!(FchainR s.Edges)) = false), ((!(FchainR s.Edges)) = false) → ((decide ((s.Kind : Int) = 2)) = true → (((!(FchainR s.Edges)) = false) ∧ (decide ((s.Kind : Int) = 2)) = true)), (!(FchainR s.Edges)) = false → ((!(FchainR s.Edges)) = false)] ⟨[(1, tP 1 0), (67, tB (bif !(FchainR s.Edges) then true else bif decide ((s.Kind : Int) = 2) then !((decide ((((s.Edges.getD 0 default).A).X) = ((wCheckR_0 s).X)) && (decide ((((s.Edges.getD 0 default).A).Y) = ((wCheckR_0 s).Y)) && true))) else false))], [(1, .cells (TShape.c s) 26)]⟩ .nil (by kernel_rfl) (.cons id (.cons id (.cons id (.cons id (.cons id (.cons (by intros; first | assumption | exact ⟨by assumption, by assumption⟩ | simp_all) (.cons id .nil))))))) <| ath_n ?_
              refine aw_cond (bif !(FchainR s.Edges) then true else bif decide ((s.Kind : Int) = 2) then !((decide ((((s.Edges.getD 0 default).A).X) = ((wCheckR_0 s).X)) && (decide ((((s.Edges.getD 0 default).A).Y) = ((wCheckR_0 s).Y)) && true))) else false) (by kernel_rfl) (fun h6 => ?_) (fun h6 => ?_)
              · refine aw_seq ?_
                refine aw_region eqok [] [] [] [2] [] [] ⟨[(2, tI 12)], []⟩ .nil (by kernel_rfl) .nil <| ath_n ?_
                refine aw_ret <| ath_r ?_
                exact ⟨_, Cv.refl _, .inl rfl, .av (.one (.i 12)), by kernel_rfl, tve_eq (by rw [← hF1]; first | (simp only [FCheckR_l0, h5, h6, cond_true, cond_false]; done) | (simp only [FCheckR_l0, h5, h6, cond_true, cond_false]; rfl))⟩
              · refine aw_skip <| ath_n ?_
                refine aw_seq <| aw_seq ?_
                refine aw_region eqok [] [] [] [85] [] [((decide ((s.Kind : Int) = 2)) = true) → ((decide ((s.Kind : Int) = 2)) = true), ((decide ((s.Kind : Int) = 2)) = true) → ((decide ((s.Kind : Int) = 2)) = true), (decide ((s.Kind : Int) = 2)) = true → ((decide ((s.Kind : Int) = 2)) = true), ((bif decide ((s.Kind : Int) = 2) then !decide ((s.R : Int) = 0) else false) = false) → ((bif decide ((s.Kind : Int) = 2) then !decide ((s.R : Int) = 0) else false) = false), ((bif decide ((s.Kind : Int) = 2) then !decide ((s.R : Int) = 0) else false) = false) → ((bif decide ((s.Kind : Int) = 2) then !decide ((s.R : Int) = 0) else false) = false), (bif decide ((s.Kind : Int) = 2) then !decide ((s.R : Int) = 0) else false) = false → ((bif decide ((s.Kind : Int) = 2) then !decide ((s.R : Int) = 0) else false) = false), ((bif bif decide ((s.Kind : Int) = 2) then !decide ((s.R : Int) = 0) else false then true else decide ((s.R : Int) < 0)) = false) → ((bif bif decide ((s.Kind : Int) = 2) then !decide ((s.R : Int) = 0) else false then true else decide ((s.R : Int) < 0)) = false), ((bif bif decide ((s.Kind : Int) = 2) then !decide ((s.R : Int) = 0) else false then true else decide ((s.R : Int) < 0)) = false) → ((bif bif decide ((s.Kind : Int) = 2) then !decide ((s.R : Int) = 0) else false then true else decide ((s.R : Int) < 0)) = false), (bif bif decide ((s.Kind : Int) = 2) then !decide ((s.R : Int) = 0) else false then true else decide ((s.R : Int) < 0)) = false → ((bif bif decide ((s.Kind : Int) = 2) then !decide ((s.R : Int) = 0) else false then true else decide ((s.R : Int) < 0)) = false)] ⟨[(85, tB (bif bif bif decide ((s.Kind : Int) = 2) then !decide ((s.R : Int) = 0) else false then true else decide ((s.R : Int) < 0) then true else decide ((4194304 : Int) < s.R)))], []⟩ .nil (by kernel_rfl) (.cons id (.cons id (.cons id (.cons id (.cons id (.cons id (.cons id (.cons id (.cons id .nil))))))))) <| ath_n ?_
                refine aw_cond (bif bif bif decide ((s.Kind : Int) = 2) then !decide ((s.R : Int) = 0) else false then true else decide ((s.R : Int) < 0) then true else decide ((4194304 : Int) < s.R)) (by kernel_rfl) (fun h7 => ?_) (fun h7 => ?_)
                · refine aw_seq ?_
                  refine aw_region eqok [] [] [] [2] [] [] ⟨[(2, tI 3)], []⟩ .nil (by kernel_rfl) .nil <| ath_n ?_
                  refine aw_ret <| ath_r ?_
                  exact ⟨_, Cv.refl _, .inl rfl, .av (.one (.i 3)), by kernel_rfl, tve_eq (by rw [← hF1]; first | (simp only [FCheckR_l0, h5, h6, h7, cond_true, cond_false]; done) | (simp only [FCheckR_l0, h5, h6, h7, cond_true, cond_false]; rfl))⟩
                · refine aw_skip <| ath_n <| aw_seq ?_
                  refine aw_region eqok [] [] [] [2] [] [] ⟨[(2, tI 0)], []⟩ .nil (by kernel_rfl) .nil <| ath_n <| aw_ret ?_
                  exact ⟨_, Cv.refl _, .inl rfl, .av (.one (.i 0)), by kernel_rfl, tve_eq (by rw [← hF1]; first | (simp only [FCheckR_l0, h5, h6, h7, cond_true, cond_false]; done) | (simp only [FCheckR_l0, h5, h6, h7, cond_true, cond_false]; rfl))⟩
    · have g2 := of_decide_eq_false h2
      refine aw_seq ?_
      refine aw_region eqok [] [] [] [2] [] [] ⟨[(2, tI 12)], []⟩ .nil (by kernel_rfl) .nil <| ath_n ?_
      refine aw_ret <| abl_r <| ath_r ?_
      exact ⟨_, Cv.refl _, .inl rfl, .av (.one (.i 12)), by kernel_rfl, tve_eq (by first | (simp only [FCheckR, h1, h2, cond_true, cond_false]; done) | (simp only [FCheckR, h1, h2, cond_true, cond_false]; rfl))⟩
theorem okCheckR (s : TShape) (hl : (s.Edges.length : Int) ≤ 1000000) : CallOk Try.prog (cCheckR s).1 (cCheckR s).2.1 (cCheckR s).2.2 := callOk_pure (fun _ _ => by kernel_rfl) fun _ => pCheckR s hl
def FWithinR (x0 : TRect) (x1 : TPoint) : Bool := bif bif bif decide ((x0.X0 : Int) ≤ x1.X) then decide ((x1.X : Int) ≤ x0.X1) else false then decide ((x0.Y0 : Int) ≤ x1.Y) else false then decide ((x1.Y : Int) ≤ x0.Y1) else false
def cWithinR (x0 : TRect) (x1 : TPoint) : FuncId × List Av × Ef := (49, [.agg (TRect.c x0), .agg (TPoint.c x1)], .val [] (.av (.one (.b (FWithinR x0 x1)))))
theorem pWithinR (x0 : TRect) (x1 : TPoint) : Pure Try.prog 49 (cWithinR x0 x1).2.1 (.av (.one (.b (FWithinR x0 x1)))) := by
  refine pure_of_awF Try.func49 rfl (by kernel_rfl) (by kernel_rfl) fun W0 M0 => ?_
  refine aw_seq ?_
  refine aw_region eqok [] [] [] [2, 3] [2, 3] [] ⟨[(2, tP 2 0), (3, tP 3 0)], [(2, .cells (TRect.c x0) 54), (3, .cells (TPoint.c x1) 29)]⟩ .nil (by kernel_rfl) .nil <| ath_n <| aw_seq ?_
  refine aw_region eqok [] [] [] [4] [] [((decide ((x0.X0 : Int) ≤ x1.X)) = true) → ((decide ((x0.X0 : Int) ≤ x1.X)) = true), ((decide ((x0.X0 : Int) ≤ x1.X)) = true) → ((decide ((x0.X0 : Int) ≤ x1.X)) = true), ((decide ((x0.X0 : Int) ≤ x1.X)) = true) → ((decide ((x0.X0 : Int) ≤ x1.X)) = true), ((decide ((x0.X0 : Int) ≤ x1.X)) = true) → ((decide ((x0.X0 : Int) ≤ x1.X)) = true), (decide ((x0.X0 : Int) ≤ x1.X)) = true → ((decide ((x0.X0 : Int) ≤ x1.X)) = true), ((bif decide ((x0.X0 : Int) ≤ x1.X) then decide ((x1.X : Int) ≤ x0.X1) else false) = true) → ((bif decide ((x0.X0 : Int) ≤ x1.X) then decide ((x1.X : Int) ≤ x0.X1) else false) = true), ((bif decide ((x0.X0 : Int) ≤ x1.X) then decide ((x1.X : Int) ≤ x0.X1) else false) = true) → ((bif decide ((x0.X0 : Int) ≤ x1.X) then decide ((x1.X : Int) ≤ x0.X1) else false) = true), ((bif decide ((x0.X0 : Int) ≤ x1.X) then decide ((x1.X : Int) ≤ x0.X1) else false) = true) → ((bif decide ((x0.X0 : Int) ≤ x1.X) then decide ((x1.X : Int) ≤ x0.X1) else false) = true), ((bif decide ((x0.X0 : Int) ≤ x1.X) then decide ((x1.X : Int) ≤ x0.X1) else false) = true) → ((bif decide ((x0.X0 : Int) ≤ x1.X) then decide ((x1.X : Int) ≤ x0.X1) else false) = true), (bif decide ((x0.X0 : Int) ≤ x1.X) then decide ((x1.X : Int) ≤ x0.X1) else false) = true → ((bif decide ((x0.X0 : Int) ≤ x1.X) then decide ((x1.X : Int) ≤ x0.X1) else false) = true), ((bif bif decide ((x0.X0 : Int) ≤ x1.X) then decide ((x1.X : Int) ≤ x0.X1) else false then decide ((x0.Y0 : Int) ≤ x1.Y) else false) = true) → ((bif bif decide ((x0.X0 : Int) ≤ x1.X) then decide ((x1.X : Int) ≤ x0.X1) else false then decide ((x0.Y0 : Int) ≤ x1.Y) else false) = true), ((bif bif decide ((x0.X0 : Int) ≤ x1.X) then decide ((x1.X : Int) ≤ x0.X1) else false then decide ((x0.Y0 : Int) ≤ x1.Y) else false) = true) → ((bif bif decide ((x0.X0 : Int) ≤ x1.X) then decide ((x1.X : Int) ≤ x0.X1) else false then decide ((x0.Y0 : Int) ≤ x1.Y) else false) = true), ((bif bif decide ((x0.X0 : Int) ≤ x1.X) then decide ((x1.X : Int) ≤ x0.X1) else false then decide ((x0.Y0 : Int) ≤ x1.Y) else false) = true) → ((bif bif decide ((x0.X0 : Int) ≤ x1.X) then decide ((x1.X : Int) ≤ x0.X1) else false then decide ((x0.Y0 : Int) ≤ x1.Y) else false) = true), ((bif bif decide ((x0.X0 : Int) ≤ x1.X) then decide ((x1.X : Int) ≤ x0.X1) else false then decide ((x0.Y0 : Int) ≤ x1.Y) else false) = true) → ((bif bif decide ((x0.X0 : Int) ≤ x1.X) then decide ((x1.X : Int) ≤ x0.X1) else false then decide ((x0.Y0 : Int) ≤ x1.Y) else false) = true), (bif bif decide ((x0.X0 : Int) ≤ x1.X) then decide ((x1.X : Int) ≤ x0.X1) else false then decide ((x0.Y0 : Int) ≤ x1.Y) else false) = true → ((bif bif decide ((x0.X0 : Int) ≤ x1.X) then decide ((x1.X : Int) ≤ x0.X1) else false then decide ((x0.Y0 : Int) ≤ x1.Y) else false) = true)] ⟨[(4, tB (bif bif bif decide ((x0.X0 : Int) ≤ x1.X) then decide ((x1.X : Int) ≤ x0.X1) else false then decide ((x0.Y0 : Int) ≤ x1.Y) else false then decide ((x1.Y : Int) ≤ x0.Y1) else false))], []⟩ .nil (by kernel_rfl) (.cons id (.cons id (.cons id (.cons id (.cons id (.cons id (.cons id (.cons id (.cons id (.cons id (.cons id (.cons id (.cons id (.cons id (.cons id .nil))))))))))))))) <| ath_n <| aw_ret ?_
  exact ⟨_, Cv.refl _, .inl rfl, .av (.one (.b (bif bif bif decide ((x0.X0 : Int) ≤ x1.X) then decide ((x1.X : Int) ≤ x0.X1) else false then decide ((x0.Y0 : Int) ≤ x1.Y) else false then decide ((x1.Y : Int) ≤ x0.Y1) else false))), by kernel_rfl, tve_eq (by rfl)⟩
theorem okWithinR (x0 : TRect) (x1 : TPoint) : CallOk Try.prog (cWithinR x0 x1).1 (cWithinR x0 x1).2.1 (cWithinR x0 x1).2.2 := callOk_pure (fun _ _ => by kernel_rfl) fun _ => pWithinR x0 x1
def FfarR (x0 : TPoint) (x1 : TPoint) : Int := Fref05Dot (Fref05Sub x0 x1) (Fref05Sub x0 x1)
def cfarR (x0 : TPoint) (x1 : TPoint) : FuncId × List Av × Ef := (91, [.agg (TPoint.c x0), .agg (TPoint.c x1)], .val [] (.av (.one (.i (FfarR x0 x1)))))
theorem pfarR (x0 : TPoint) (x1 : TPoint) : Pure Try.prog 91 (cfarR x0 x1).2.1 (.av (.one (.i (FfarR x0 x1)))) := by
  refine pure_of_awF Try.func91 rfl (by kernel_rfl) (by kernel_rfl) fun W0 M0 => ?_
  refine aw_seq ?_
  refine aw_region eqok [] [] [] [2, 3] [2, 3] [] ⟨[(2, tP 2 0), (3, tP 3 0)], [(2, .cells (TPoint.c x0) 29), (3, .cells (TPoint.c x1) 29)]⟩ .nil (by kernel_rfl) .nil <| ath_n <| aw_seq ?_
  refine aw_region eqok [] [] [(8, cref05Sub x0 x1)] [5] [5] [Same (cref05Sub x0 x1).2.1] ⟨[(5, tP 5 0)], [(5, .cells (TPoint.c (Fref05Sub x0 x1)) 29)]⟩ (.cons (okref05Sub x0 x1) .nil) (by kernel_rfl) (.cons rfl .nil) <| ath_n <| aw_seq ?_
  refine aw_region eqok [] [] [(11, cref05Dot (Fref05Sub x0 x1) (Fref05Sub x0 x1))] [4] [] [Same (cref05Dot (Fref05Sub x0 x1) (Fref05Sub x0 x1)).2.1] ⟨[(4, tI (Fref05Dot (Fref05Sub x0 x1) (Fref05Sub x0 x1)))], []⟩ (.cons (okref05Dot (Fref05Sub x0 x1) (Fref05Sub x0 x1)) .nil) (by kernel_rfl) (.cons rfl .nil) <| ath_n <| aw_ret ?_
  exact ⟨_, Cv.refl _, .inl rfl, .av (.one (.i (Fref05Dot (Fref05Sub x0 x1) (Fref05Sub x0 x1)))), by kernel_rfl, tve_eq (by rfl)⟩
theorem okfarR (x0 : TPoint) (x1 : TPoint) : CallOk Try.prog (cfarR x0 x1).1 (cfarR x0 x1).2.1 (cfarR x0 x1).2.2 := callOk_pure (fun _ _ => by kernel_rfl) fun _ => pfarR x0 x1
end Go.Proofs.Ytpnlegfdkkcnlaa
namespace Go.Proofs.Ytpnlegfdkkcnlaa
set_option maxRecDepth 100000
open Go.RowKit
set_option linter.unusedVariables false
set_option linter.unusedSimpArgs false
def Ftrim_l0 (d : (List Int)) : Nat → List Int → (List Int)
  | 0, _ => default
  | n0 + 1, d' => bif bif decide ((0 : Int) < ((d'.length : Int))) then decide (((d'.getD ((((d'.length : Int)) - 1).toNat) default) : Int) = 0) else false then ((Ftrim_l0 d n0) (d'.take (W64 (((d'.length : Int)) - 1) : Int).toNat)) else (d')
def Ftrim (d : (List Int)) : (List Int) := Ftrim_l0 d (d.length + 1) d
def ctrim (d : (List Int)) : FuncId × List Av × Ef := (114, [.one (lst 1 (fun x => [.val (.int .u32 x)]) d)], .val [] (.av (.one (lst 1 (fun x => [.val (.int .u32 x)]) (Ftrim d)))))
theorem ptrim (d : (List Int)) (h0 : (d.length : Int) ≤ 1000000) : Pure Try.prog 114 (ctrim d).2.1 (.av (.one (lst 1 (fun x => [.val (.int .u32 x)]) (Ftrim d)))) := by
  refine pure_of_awF Try.func114 rfl (by kernel_rfl) (by kernel_rfl) fun W0 M0 => ?_
  refine aw_seq ?_
  refine aw_region eqok [] [] [] [0] [] [] ⟨[(0, .av (.one (lst 1 (fun x => [.val (.int .u32 x)]) d)))], []⟩ .nil (by kernel_rfl) .nil <| ath_n ?_
  refine aw_seq <| aw_block ?_
  refine aw_loopC (ι := Nat × List Int) (fun x => ⟨[(0, .av (.one (lst 1 (fun x => [.val (.int .u32 x)]) x.2)))], []⟩) (fun x => x.2.length < x.1 ∧ ((x.2.length : Int) ≤ 1000000) ∧ Ftrim_l0 d x.1 x.2 = Ftrim d) (fun x => x.1) ?_ (d.length + 1, d) ⟨Nat.lt_succ_self _, (by show (d.length : Int) ≤ 1000000; first | trivial | omega | (simp only [List.length_append, List.length_cons, List.length_nil]; omega) | (simp only [List.length_set, List.length_append, List.length_cons, List.length_nil]; omega) | (simp only [W64_def]; omega) | (simp; omega) | simp), (by simp only [Ftrim, cond_true, cond_false])⟩
  rintro ⟨n0, d'⟩ ⟨hn, hinv, hF⟩
  have hm0 : d'.length < n0 := hn; have hinv0 : (d'.length : Int) ≤ 1000000 := hinv; have hF0 : Ftrim_l0 d n0 d' = Ftrim d := hF; clear hn hinv hF
  cases n0 with
  | zero => exact absurd hm0 (Nat.not_lt_zero _)
  | succ n0 =>
    refine aw_seq <| aw_seq ?_
    refine aw_region eqok [] [] [] [0, 14] [] [((decide ((0 : Int) < ((d'.length : Int)))) = true) → ((decide ((0 : Int) < ((d'.length : Int)))) = true), ((decide ((0 : Int) < ((d'.length : Int)))) = true) → ((decide ((0 : Int) < ((d'.length : Int)))) = true), ((decide ((0 : Int) < ((d'.length : Int)))) = true) → ((decide ((0 : Int) < ((d'.length : Int)))) = true), ((decide ((0 : Int) < ((d'.length : Int)))) = true) → ((decide ((0 : Int) < ((d'.length : Int)))) = true), ((decide ((0 : Int) < ((d'.length : Int)))) = true) → (0 ≤ (W64 (((d'.length : Int)) - 1) : Int) ∧ (W64 (((d'.length : Int)) - 1) : Int) < ((d'.length : Nat) : Int)), ((decide ((0 : Int) < ((d'.length : Int)))) = true) → ((decide ((0 : Int) < ((d'.length : Int)))) = true), ((decide ((0 : Int) < ((d'.length : Int)))) = true) → ((decide ((0 : Int) < ((d'.length : Int)))) = true), (decide ((0 : Int) < ((d'.length : Int)))) = true → ((decide ((0 : Int) < ((d'.length : Int)))) = true)] ⟨[(0, .av (.one (lst 1 (fun x => [.val (.int .u32 x)]) d'))), (14, tB (bif decide ((0 : Int) < ((d'.length : Int))) then decide (((d'.getD ((W64 (((d'.length : Int)) - 1)).toNat) default) : Int) = 0) else false))], []⟩ .nil (by kernel_rfl) (.cons id (.cons id (.cons id (.cons id (.cons (fun hG => by first | exact au1 | (simp only [decide_eq_true_eq, decide_eq_false_iff_not, Bool.not_eq_true, Bool.and_eq_true] at hG <;> omega) | (simp at hG <;> omega) | (simp only [decide_eq_true_eq, decide_eq_false_iff_not] at hG; simp only [W64_def]; omega)) (.cons id (.cons id (.cons id .nil)))))))) ?_
    (try rw [(show W64 (((d'.length : Int)) - 1) = ((d'.length : Int)) - 1 from W64_id (by omega) (by omega))])
    refine ath_n ?_
    refine aw_cond (bif decide ((0 : Int) < ((d'.length : Int))) then decide (((d'.getD ((((d'.length : Int)) - 1).toNat) default) : Int) = 0) else false) (by kernel_rfl) (fun h1 => ?_) (fun h1 => ?_)
    · have g1 := and_dec h1
      refine aw_skip <| ath_n <| aw_block ?_
      refine aw_region eqok [] [] [] [0] [] [0 ≤ (0 : Int) ∧ (0 : Int) ≤ (W64 (((d'.length : Int)) - 1) : Int) ∧ (W64 (((d'.length : Int)) - 1) : Int) ≤ ((d'.length : Nat) : Int)] ⟨[(0, .av (.one (.list false 1 ((W64 (((d'.length : Int)) - 1) : Int).toNat - (0 : Int).toNat) (fun i j => (rowF (fun x => [.val (.int .u32 x)]) d') (i + (0 : Int).toNat) j))))], []⟩ .nil (by kernel_rfl) (.cons au1 .nil) <| abl_n <| ath_n ?_
      refine ⟨(n0, d'.take (W64 (((d'.length : Int)) - 1) : Int).toNat), ⟨?_, ?_, (by rw [← hF0]; simp only [Ftrim_l0, h1, cond_true, cond_false])⟩, Nat.lt_succ_self _, Cv.trans (cv_ce (⟨[(0, .av (.one (lst 1 (fun x => [.val (.int .u32 x)]) (d'.take (W64 (((d'.length : Int)) - 1) : Int).toNat))))], []⟩) (.cons ⟨rfl, .av (.one (cle_told false (told_take (b := W64 (((d'.length : Int)) - 1)) (told_rfl 1 (fun x => [.val (.int .u32 x)]) d') (by have hc := (show 0 ≤ (0 : Int) ∧ (0 : Int) ≤ (W64 (((d'.length : Int)) - 1) : Int) ∧ (W64 (((d'.length : Int)) - 1) : Int) ≤ ((d'.length : Nat) : Int) from au1); exact hc.2.1) (by have hc := (show 0 ≤ (0 : Int) ∧ (0 : Int) ≤ (W64 (((d'.length : Int)) - 1) : Int) ∧ (W64 (((d'.length : Int)) - 1) : Int) ≤ ((d'.length : Nat) : Int) from au1); exact hc.2.2))))⟩ .nil) .nil) (cv_eq (by kernel_rfl))⟩
      · show (d'.take (W64 (((d'.length : Int)) - 1) : Int).toNat).length < n0; (simp only [List.length_take, W64_def]; omega)
      · exact (by show ((d'.take (W64 (((d'.length : Int)) - 1) : Int).toNat).length : Int) ≤ 1000000; first | trivial | omega | (simp only [List.length_append, List.length_cons, List.length_nil]; omega) | (simp only [List.length_set, List.length_append, List.length_cons, List.length_nil]; omega) | (simp only [W64_def]; omega) | (simp; omega) | simp)
    · refine aw_exit <| ath_e ?_
      refine ath_e <| abl_hit ?_
      refine ath_n <| aw_seq ?_
      refine aw_region eqok [] [] [] [2] [] [] ⟨[(2, .av (.one (lst 1 (fun x => [.val (.int .u32 x)]) d')))], []⟩ .nil (by kernel_rfl) .nil <| ath_n <| aw_ret ?_
      exact ⟨_, Cv.refl _, .inl rfl, .av (.one (lst 1 (fun x => [.val (.int .u32 x)]) d')), by kernel_rfl, tve_eq (by rw [← hF0]; first | (simp only [Ftrim_l0, h1, cond_true, cond_false]; done) | (simp only [Ftrim_l0, h1, cond_true, cond_false]; rfl))⟩
theorem oktrim (d : (List Int)) (h0 : (d.length : Int) ≤ 1000000) : CallOk Try.prog (ctrim d).1 (ctrim d).2.1 (ctrim d).2.2 := callOk_pure (fun _ _ => by kernel_rfl) fun _ => ptrim d h0
theorem trim_len (d : List Int) : (Ftrim d).length ≤ d.length := by
  have h : ∀ (n : Nat) (l : List Int), l.length < n → (Ftrim_l0 d n l).length ≤ l.length := by
    intro n
    induction n with
    | zero => intro l h; omega
    | succ n ih =>
      intro l h
      unfold Ftrim_l0
      by_cases h0 : (0 : Int) < ((l.length : Nat) : Int)
      · rw [decide_eq_true h0]
        simp only [cond_true]
        cases decide (((l.getD ((((l.length : Int)) - 1).toNat) default) : Int) = 0)
        · exact Nat.le_refl _
        · have hl : (l.take (W64 (((l.length : Int)) - 1) : Int).toNat).length < l.length ∨ l.length ≤ (W64 (((l.length : Int)) - 1) : Int).toNat := by rw [List.length_take]; omega
          rcases hl with hl | hl
          · exact Nat.le_trans (ih _ (by omega)) (Nat.le_of_lt hl)
          · exfalso
            simp only [W64_def] at hl
            omega
      · rw [decide_eq_false h0]
        exact Nat.le_refl _
  exact h _ _ (Nat.lt_succ_self _)
def FmadeN (neg : Bool) (d : (List Int)) : (TNum × Bool) := bif decide ((64 : Int) < (((Ftrim d).length : Int))) then ((TNum.mk false [], false)) else (bif decide (((((Ftrim d).length : Int)) : Int) = 0) then ((TNum.mk false [], true)) else ((TNum.mk neg (Ftrim d), true)))
def cmadeN (neg : Bool) (d : (List Int)) : FuncId × List Av × Ef := (108, [.one (.b neg), .one (lst 1 (fun x => [.val (.int .u32 x)]) d)], .val [] (.tup [.agg (TNum.c ((FmadeN neg d).1)), .one (.b ((FmadeN neg d).2))]))
theorem pmadeN (neg : Bool) (d : (List Int)) (h0 : (d.length : Int) ≤ 1000000) : Pure Try.prog 108 (cmadeN neg d).2.1 (.tup [.agg (TNum.c ((FmadeN neg d).1)), .one (.b ((FmadeN neg d).2))]) := by
  refine pure_of_awF Try.func108 rfl (by kernel_rfl) (by kernel_rfl) fun W0 M0 => ?_
  have ht := trim_len d
  have ht2 : ((Ftrim d).length : Int) ≤ 1000000 := by omega
  refine aw_seq ?_
  refine aw_region eqok [] [] [] [0, 1, 4] [4] [] ⟨[(0, tB neg), (1, .av (.one (lst 1 (fun x => [.val (.int .u32 x)]) d))), (4, tP 4 0)], [(4, .cells [.b false, .val (.slice none 0 0)] 118)]⟩ .nil (by kernel_rfl) .nil <| ath_n <| aw_seq ?_
  refine aw_region eqok [] [] [(7, ctrim d)] [0, 1, 4] [4] [Same (ctrim d).2.1] ⟨[(0, tB neg), (1, .av (.one (lst 1 (fun x => [.val (.int .u32 x)]) (Ftrim d)))), (4, tP 4 0)], [(4, .cells [.b false, .val (.slice none 0 0)] 118)]⟩ (.cons (oktrim d au0) .nil) (by kernel_rfl) (.cons rfl .nil) <| ath_n ?_
  refine aw_seq <| aw_seq ?_
  refine aw_region eqok [] [] [] [0, 1, 4, 10] [4] [] ⟨[(0, tB neg), (1, .av (.one (lst 1 (fun x => [.val (.int .u32 x)]) (Ftrim d)))), (4, tP 4 0), (10, tB (decide ((64 : Int) < (((Ftrim d).length : Int)))))], [(4, .cells [.b false, .val (.slice none 0 0)] 118)]⟩ .nil (by kernel_rfl) .nil <| ath_n ?_
  refine aw_cond (decide ((64 : Int) < (((Ftrim d).length : Int)))) (by kernel_rfl) (fun h1 => ?_) (fun h1 => ?_)
  · have g1 := of_decide_eq_true h1
    refine aw_seq ?_
    refine aw_region eqok [] [] [] [4, 5] [4] [] ⟨[(4, tP 4 0), (5, tB false)], [(4, .cells [.b false, .val (.slice none 0 0)] 118)]⟩ .nil (by kernel_rfl) .nil <| ath_n ?_
    refine aw_ret <| ath_r ?_
    exact ⟨_, Cv.refl _, .inl rfl, .tup [.agg [.b false, .val (.slice none 0 0)], .one (.b false)], by kernel_rfl, tve_of (y := .tup [.agg [.b false, lst 1 (fun x => [.val (.int .u32 x)]) []], .one (.b false)]) (.tup (.cons (.agg (.cons (.refl _) (.cons (cle_nil 1 (fun x => [.val (.int .u32 x)])) .nil))) (.cons (AvE.refl _) .nil))) (by first | (simp only [FmadeN, h1, cond_true, cond_false]; done) | (simp only [FmadeN, h1, cond_true, cond_false]; rfl))⟩
  · have g1 := of_decide_eq_false h1
    refine aw_skip <| ath_n ?_
    refine aw_seq <| aw_seq ?_
    refine aw_region eqok [] [] [] [0, 1, 4, 14] [4] [] ⟨[(0, tB neg), (1, .av (.one (lst 1 (fun x => [.val (.int .u32 x)]) (Ftrim d)))), (4, tP 4 0), (14, tB (decide (((((Ftrim d).length : Int)) : Int) = 0)))], [(4, .cells [.b false, .val (.slice none 0 0)] 118)]⟩ .nil (by kernel_rfl) .nil <| ath_n ?_
    refine aw_cond (decide (((((Ftrim d).length : Int)) : Int) = 0)) (by kernel_rfl) (fun h2 => ?_) (fun h2 => ?_)
    · have g2 := of_decide_eq_true h2
      refine aw_seq ?_
      refine aw_region eqok [] [] [] [4, 5] [4] [] ⟨[(4, tP 4 0), (5, tB true)], [(4, .cells [.b false, .val (.slice none 0 0)] 118)]⟩ .nil (by kernel_rfl) .nil <| ath_n ?_
      refine aw_ret <| ath_r ?_
      exact ⟨_, Cv.refl _, .inl rfl, .tup [.agg [.b false, .val (.slice none 0 0)], .one (.b true)], by kernel_rfl, tve_of (y := .tup [.agg [.b false, lst 1 (fun x => [.val (.int .u32 x)]) []], .one (.b true)]) (.tup (.cons (.agg (.cons (.refl _) (.cons (cle_nil 1 (fun x => [.val (.int .u32 x)])) .nil))) (.cons (AvE.refl _) .nil))) (by first | (simp only [FmadeN, h1, h2, cond_true, cond_false]; done) | (simp only [FmadeN, h1, h2, cond_true, cond_false]; rfl))⟩
    · have g2 := of_decide_eq_false h2
      refine aw_skip <| ath_n <| aw_seq ?_
      refine aw_region eqok [17] [] [] [4, 5] [4, 19] [0 = 0, 0 + ((Ftrim d).length) ≤ maxLen, (0 + ((Ftrim d).length)) * 4 ≤ 140737488355328] ⟨[(4, tP 4 0), (5, tB true)], [(4, .cells [.b neg, .own 19 1 (0 + ((Ftrim d).length))] 118), (19, .row 1 (0 + ((Ftrim d).length)) (fun i j => if i < 0 then (colsC 1 0 []) i j else (rowF (fun x => [.val (.int .u32 x)]) (Ftrim d)) (i - 0) j) 40)]⟩ .nil (by kernel_rfl) (.cons rfl (.cons au2 (.cons au2 .nil))) <| ath_n ?_
      refine aw_cv (Cv.trans (cv_ce (⟨[(4, tP 4 0), (5, tB true)], [(4, .cells [.b neg, .own 19 1 ((Ftrim d).length)] 118), (19, .row 1 ((Ftrim d).length) (rowF (fun x => [.val (.int .u32 x)]) (Ftrim d)) 40)]⟩) (.cons ⟨rfl, .refl _⟩ (.cons ⟨rfl, .refl _⟩ .nil)) (.cons ⟨rfl, .cells _ (.cons (.refl _) (.cons (.own _ _ au3) .nil))⟩ (.cons ⟨rfl, bke_told 40 (told_app (told_lit (c := (fun x => [.val (.int .u32 x)])) (xs := (([] : List Int) : List Int)) rfl (by kernel_rfl)) (told_rfl 1 (fun x => [.val (.int .u32 x)]) (Ftrim d)))⟩ .nil))) (Cv.refl _)) <| aw_ret ?_
      exact ⟨_, Cv.trans (cv_fz (⟨[(4, tP 4 0), (5, tB true)], [(4, .cells [.b neg, lst 1 (fun x => [.val (.int .u32 x)]) (Ftrim d)] 118)]⟩) 19 1 ((Ftrim d).length) (rowF (fun x => [.val (.int .u32 x)]) (Ftrim d)) 40 (K := none) (fun k x h => by cases h) (by kernel_rfl) (by kernel_rfl) (.cons ⟨rfl, rfl⟩ .nil) (by kernel_rfl)) (Cv.refl _), .inl rfl, .tup [.agg [.b neg, lst 1 (fun x => [.val (.int .u32 x)]) (Ftrim d)], .one (.b true)], by kernel_rfl, tve_eq (by first | (simp only [FmadeN, h1, h2, cond_true, cond_false]; done) | (simp only [FmadeN, h1, h2, cond_true, cond_false]; rfl))⟩
theorem okmadeN (neg : Bool) (d : (List Int)) (h0 : (d.length : Int) ≤ 1000000) : CallOk Try.prog (cmadeN neg d).1 (cmadeN neg d).2.1 (cmadeN neg d).2.2 := callOk_pure (fun _ _ => by kernel_rfl) fun _ => pmadeN neg d h0
def FRightN (x0 : TNum) : Bool := bif decide ((((x0.D.length : Int)) : Int) ≤ 64) then bif bif decide ((((x0.D.length : Int)) : Int) = 0) then !x0.Neg else false then true else bif decide ((0 : Int) < ((x0.D.length : Int))) then !decide (((x0.D.getD ((W64 (((x0.D.length : Int)) - 1)).toNat) default) : Int) = 0) else false else false
def cRightN (x0 : TNum) : FuncId × List Av × Ef := (107, [.agg (TNum.c x0)], .val [] (.av (.one (.b (FRightN x0)))))
theorem pRightN (x0 : TNum) : Pure Try.prog 107 (cRightN x0).2.1 (.av (.one (.b (FRightN x0)))) := by
  refine pure_of_awF Try.func107 rfl (by kernel_rfl) (by kernel_rfl) fun W0 M0 => ?_
  refine aw_seq ?_
  refine aw_region eqok [] [] [] [1] [1] [] ⟨[(1, tP 1 0)], [(1, .cells (TNum.c x0) 118)]⟩ .nil (by kernel_rfl) .nil <| ath_n <| aw_seq ?_
  refine aw_region eqok [] [] [] [1, 3] [1] [] ⟨[(1, tP 1 0), (3, tI ((x0.D.length : Int)))], [(1, .cells (TNum.c x0) 118)]⟩ .nil (by kernel_rfl) .nil <| ath_n <| aw_seq ?_
  refine aw_region eqok [] [] [] [2] [] [((decide ((((x0.D.length : Int)) : Int) ≤ 64)) = true) → ((decide ((((x0.D.length : Int)) : Int) ≤ 64)) = true), ((decide ((((x0.D.length : Int)) : Int) ≤ 64)) = true) → ((decide ((((x0.D.length : Int)) : Int) ≤ 64)) = true), (((decide ((((x0.D.length : Int)) : Int) ≤ 64)) = true) ∧ (decide ((((x0.D.length : Int)) : Int) = 0)) = true) → (((decide ((((x0.D.length : Int)) : Int) ≤ 64)) = true) ∧ (decide ((((x0.D.length : Int)) : Int) = 0)) = true), (((decide ((((x0.D.length : Int)) : Int) ≤ 64)) = true) ∧ (decide ((((x0.D.length : Int)) : Int) = 0)) = true) → (((decide ((((x0.D.length : Int)) : Int) ≤ 64)) = true) ∧ (decide ((((x0.D.length : Int)) : Int) = 0)) = true), ((decide ((((x0.D.length : Int)) : Int) ≤ 64)) = true) → ((decide ((((x0.D.length : Int)) : Int) ≤ 64)) = true), ((decide ((((x0.D.length : Int)) : Int) ≤ 64)) = true) → ((decide ((((x0.D.length : Int)) : Int) = 0)) = true → (((decide ((((x0.D.length : Int)) : Int) ≤ 64)) = true) ∧ (decide ((((x0.D.length : Int)) : Int) = 0)) = true)), ((decide ((((x0.D.length : Int)) : Int) ≤ 64)) = true) → ((decide ((((x0.D.length : Int)) : Int) ≤ 64)) = true), (((decide ((((x0.D.length : Int)) : Int) ≤ 64)) = true) ∧ (bif decide ((((x0.D.length : Int)) : Int) = 0) then !x0.Neg else false) = false) → (((decide ((((x0.D.length : Int)) : Int) ≤ 64)) = true) ∧ (bif decide ((((x0.D.length : Int)) : Int) = 0) then !x0.Neg else false) = false), (((decide ((((x0.D.length : Int)) : Int) ≤ 64)) = true) ∧ (bif decide ((((x0.D.length : Int)) : Int) = 0) then !x0.Neg else false) = false) → (((decide ((((x0.D.length : Int)) : Int) ≤ 64)) = true) ∧ (bif decide ((((x0.D.length : Int)) : Int) = 0) then !x0.Neg else false) = false), ((((decide ((((x0.D.length : Int)) : Int) ≤ 64)) = true) ∧ (bif decide ((((x0.D.length : Int)) : Int) = 0) then !x0.Neg else false) = false) ∧ (decide ((0 : Int) < ((x0.D.length : Int)))) = true) → ((((decide ((((x0.D.length : Int)) : Int) ≤ 64)) = true) ∧ (bif decide ((((x0.D.length : Int)) : Int) = 0) then !x0.Neg else false) = false) ∧ (decide ((0 : Int) < ((x0.D.length : Int)))) = true), ((((decide ((((x0.D.length : Int)) : Int) ≤ 64)) = true) ∧ (bif decide ((((x0.D.length : Int)) : Int) = 0) then !x0.Neg else false) = false) ∧ (decide ((0 : Int) < ((x0.D.length : Int)))) = true) → ((((decide ((((x0.D.length : Int)) : Int) ≤ 64)) = true) ∧ (bif decide ((((x0.D.length : Int)) : Int) = 0) then !x0.Neg else false) = false) ∧ (decide ((0 : Int) < ((x0.D.length : Int)))) = true), ((((decide ((((x0.D.length : Int)) : Int) ≤ 64)) = true) ∧ (bif decide ((((x0.D.length : Int)) : Int) = 0) then !x0.Neg else false) = false) ∧ (decide ((0 : Int) < ((x0.D.length : Int)))) = true) → ((((decide ((((x0.D.length : Int)) : Int) ≤ 64)) = true) ∧ (bif decide ((((x0.D.length : Int)) : Int) = 0) then !x0.Neg else false) = false) ∧ (decide ((0 : Int) < ((x0.D.length : Int)))) = true), ((((decide ((((x0.D.length : Int)) : Int) ≤ 64)) = true) ∧ (bif decide ((((x0.D.length : Int)) : Int) = 0) then !x0.Neg else false) = false) ∧ (decide ((0 : Int) < ((x0.D.length : Int)))) = true) → ((((decide ((((x0.D.length : Int)) : Int) ≤ 64)) = true) ∧ (bif decide ((((x0.D.length : Int)) : Int) = 0) then !x0.Neg else false) = false) ∧ (decide ((0 : Int) < ((x0.D.length : Int)))) = true), ((((decide ((((x0.D.length : Int)) : Int) ≤ 64)) = true) ∧ (bif decide ((((x0.D.length : Int)) : Int) = 0) then !x0.Neg else false) = false) ∧ (decide ((0 : Int) < ((x0.D.length : Int)))) = true) → (0 ≤ (W64 (((x0.D.length : Int)) - 1) : Int) ∧ (W64 (((x0.D.length : Int)) - 1) : Int) < ((x0.D.length : Nat) : Int)), ((((decide ((((x0.D.length : Int)) : Int) ≤ 64)) = true) ∧ (bif decide ((((x0.D.length : Int)) : Int) = 0) then !x0.Neg else false) = false) ∧ (decide ((0 : Int) < ((x0.D.length : Int)))) = true) → ((((decide ((((x0.D.length : Int)) : Int) ≤ 64)) = true) ∧ (bif decide ((((x0.D.length : Int)) : Int) = 0) then !x0.Neg else false) = false) ∧ (decide ((0 : Int) < ((x0.D.length : Int)))) = true), ((((decide ((((x0.D.length : Int)) : Int) ≤ 64)) = true) ∧ (bif decide ((((x0.D.length : Int)) : Int) = 0) then !x0.Neg else false) = false) ∧ (decide ((0 : Int) < ((x0.D.length : Int)))) = true) → ((((decide ((((x0.D.length : Int)) : Int) ≤ 64)) = true) ∧ (bif decide ((((x0.D.length : Int)) : Int) = 0) then !x0.Neg else false) = false) ∧ (decide ((0 : Int) < ((x0.D.length : Int)))) = true), (((decide ((((x0.D.length : Int)) : Int) ≤ 64)) = true) ∧ (bif decide ((((x0.D.length : Int)) : Int) = 0) then !x0.Neg else false) = false) → (((decide ((((x0.D.length : Int)) : Int) ≤ 64)) = true) ∧ (bif decide ((((x0.D.length : Int)) : Int) = 0) then !x0.Neg else false) = false), (((decide ((((x0.D.length : Int)) : Int) ≤ 64)) = true) ∧ (bif decide ((((x0.D.length : Int)) : Int) = 0) then !x0.Neg else false) = false) → ((decide ((0 : Int) < ((x0.D.length : Int)))) = true → ((((decide ((((x0.D.length : Int)) : Int) ≤ 64)) = true) ∧ (bif decide ((((x0.D.length : Int)) : Int) = 0) then !x0.Neg else false) = false) ∧ (decide ((0 : Int) < ((x0.D.length : Int)))) = true)), ((decide ((((x0.D.length : Int)) : Int) ≤ 64)) = true) → ((decide ((((x0.D.length : Int)) : Int) ≤ 64)) = true), ((decide ((((x0.D.length : Int)) : Int) ≤ 64)) = true) → ((bif decide ((((x0.D.length : Int)) : Int) = 0) then !x0.Neg else false) = false → (((decide ((((x0.D.length : Int)) : Int) ≤ 64)) = true) ∧ (bif decide ((((x0.D.length : Int)) : Int) = 0) then !x0.Neg else false) = false)), (decide ((((x0.D.length : Int)) : Int) ≤ 64)) = true → ((decide ((((x0.D.length : Int)) : Int) ≤ 64)) = true)] ⟨[(2, tB (bif decide ((((x0.D.length : Int)) : Int) ≤ 64) then bif bif decide ((((x0.D.length : Int)) : Int) = 0) then !x0.Neg else false then true else bif decide ((0 : Int) < ((x0.D.length : Int))) then !decide (((x0.D.getD ((W64 (((x0.D.length : Int)) - 1)).toNat) default) : Int) = 0) else false else false))], []⟩ .nil (by kernel_rfl) (.cons id (.cons id (.cons id (.cons id (.cons id (.cons (by intros; first | assumption | exact ⟨by assumption, by assumption⟩ | simp_all) (.cons id (.cons id (.cons id (.cons id (.cons id (.cons id (.cons id (.cons (fun hG => by first | exact au1 | (simp only [decide_eq_true_eq, decide_eq_false_iff_not, Bool.not_eq_true, Bool.and_eq_true] at hG <;> omega) | (simp at hG <;> omega) | (simp only [decide_eq_true_eq, decide_eq_false_iff_not] at hG; simp only [W64_def]; omega)) (.cons id (.cons id (.cons id (.cons (by intros; first | assumption | exact ⟨by assumption, by assumption⟩ | simp_all) (.cons id (.cons (by intros; first | assumption | exact ⟨by assumption, by assumption⟩ | simp_all) (.cons id .nil))))))))))))))))))))) <| ath_n <| aw_ret ?_
  exact ⟨_, Cv.refl _, .inl rfl, .av (.one (.b (bif decide ((((x0.D.length : Int)) : Int) ≤ 64) then bif bif decide ((((x0.D.length : Int)) : Int) = 0) then !x0.Neg else false then true else bif decide ((0 : Int) < ((x0.D.length : Int))) then !decide (((x0.D.getD ((W64 (((x0.D.length : Int)) - 1)).toNat) default) : Int) = 0) else false else false))), by kernel_rfl, tve_eq (by rfl)⟩
theorem okRightN (x0 : TNum) : CallOk Try.prog (cRightN x0).1 (cRightN x0).2.1 (cRightN x0).2.2 := callOk_pure (fun _ _ => by kernel_rfl) fun _ => pRightN x0
def wOfN_0 (x0 : Int) : TNum := (FmadeN (decide ((x0 : Int) < 0)) [IntKind.u32.wrap (bif decide ((x0 : Int) < 0) then (IntKind.u64.wrap (0 - (IntKind.u64.wrap (x0)))) else (IntKind.u64.wrap (x0))), IntKind.u32.wrap (Int.fdiv (bif decide ((x0 : Int) < 0) then (IntKind.u64.wrap (0 - (IntKind.u64.wrap (x0)))) else (IntKind.u64.wrap (x0))) 4294967296)]).1
def FOfN (x0 : Int) : TNum := wOfN_0 x0
def cOfN (x0 : Int) : FuncId × List Av × Ef := (93, [.one (.i x0)], .val [] (.av (.agg (TNum.c (FOfN x0)))))
theorem pOfN (x0 : Int) : Pure Try.prog 93 (cOfN x0).2.1 (.av (.agg (TNum.c (FOfN x0)))) := by
  refine pure_of_awF Try.func93 rfl (by kernel_rfl) (by kernel_rfl) fun W0 M0 => ?_
  refine aw_seq ?_
  refine aw_region eqok [] [] [] [0, 2] [2] [] ⟨[(0, tI x0), (2, tP 2 0)], [(2, .cells [.b false, .val (.slice none 0 0)] 118)]⟩ .nil (by kernel_rfl) .nil <| ath_n <| aw_seq ?_
  refine aw_region eqok [] [] [] [0, 2, 3] [2] [] ⟨[(0, tI x0), (2, tP 2 0), (3, .av (.one (.val (.int .u64 (IntKind.u64.wrap (x0))))))], [(2, .cells [.b false, .val (.slice none 0 0)] 118)]⟩ .nil (by kernel_rfl) .nil <| ath_n ?_
  refine aw_seq <| aw_seq ?_
  refine aw_region eqok [] [] [] [0, 2, 3, 9] [2] [] ⟨[(0, tI x0), (2, tP 2 0), (3, .av (.one (.val (.int .u64 (IntKind.u64.wrap (x0)))))), (9, tB (decide ((x0 : Int) < 0)))], [(2, .cells [.b false, .val (.slice none 0 0)] 118)]⟩ .nil (by kernel_rfl) .nil <| ath_n ?_
  refine aw_joinC (⟨[(0, tI x0), (2, tP 2 0), (3, .av (.one (.val (.int .u64 (bif decide ((x0 : Int) < 0) then (IntKind.u64.wrap (0 - (IntKind.u64.wrap (x0)))) else (IntKind.u64.wrap (x0)))))))], [(2, .cells [.b false, .val (.slice none 0 0)] 118)]⟩) ?_ ?_
  · refine aw_cond (decide ((x0 : Int) < 0)) (by kernel_rfl) (fun h1 => ?_) (fun h1 => ?_)
    · have g1 := of_decide_eq_true h1
      refine aw_region eqok [] [] [] [0, 2, 3] [2] [] ⟨[(0, tI x0), (2, tP 2 0), (3, .av (.one (.val (.int .u64 (IntKind.u64.wrap (0 - (IntKind.u64.wrap (x0))))))))], [(2, .cells [.b false, .val (.slice none 0 0)] 118)]⟩ .nil (by kernel_rfl) .nil <| ath_n ?_
      refine cv_eq ?_
      first | rfl | (simp only [h1, cond_true, cond_false]; done) | (simp only [h1, cond_true, cond_false]; rfl)
    · have g1 := of_decide_eq_false h1
      refine aw_skip <| ath_n ?_
      refine Cv.trans (cv_keep [0, 2, 3] [2] (⟨[(0, tI x0), (2, tP 2 0), (3, .av (.one (.val (.int .u64 (IntKind.u64.wrap (x0))))))], [(2, .cells [.b false, .val (.slice none 0 0)] 118)]⟩) (by kernel_rfl)) (cv_eq ?_)
      first | rfl | (simp only [h1, cond_true, cond_false]; done) | (simp only [h1, cond_true, cond_false]; rfl)
  refine aw_seq ?_
  refine aw_region eqok [] [] [(21, ceI [.one (.b (decide ((x0 : Int) < 0))), .one (.list true 1 2 (colsC 1 2 [.val (.int .u32 (IntKind.u32.wrap (bif decide ((x0 : Int) < 0) then (IntKind.u64.wrap (0 - (IntKind.u64.wrap (x0)))) else (IntKind.u64.wrap (x0))))), .val (.int .u32 (IntKind.u32.wrap (Int.fdiv (bif decide ((x0 : Int) < 0) then (IntKind.u64.wrap (0 - (IntKind.u64.wrap (x0)))) else (IntKind.u64.wrap (x0))) 4294967296)))]))] (cmadeN (decide ((x0 : Int) < 0)) [IntKind.u32.wrap (bif decide ((x0 : Int) < 0) then (IntKind.u64.wrap (0 - (IntKind.u64.wrap (x0)))) else (IntKind.u64.wrap (x0))), IntKind.u32.wrap (Int.fdiv (bif decide ((x0 : Int) < 0) then (IntKind.u64.wrap (0 - (IntKind.u64.wrap (x0)))) else (IntKind.u64.wrap (x0))) 4294967296)]))] [2, 4] [2, 4] [0 ≤ (32 : Int), Same (ceI [.one (.b (decide ((x0 : Int) < 0))), .one (.list true 1 2 (colsC 1 2 [.val (.int .u32 (IntKind.u32.wrap (bif decide ((x0 : Int) < 0) then (IntKind.u64.wrap (0 - (IntKind.u64.wrap (x0)))) else (IntKind.u64.wrap (x0))))), .val (.int .u32 (IntKind.u32.wrap (Int.fdiv (bif decide ((x0 : Int) < 0) then (IntKind.u64.wrap (0 - (IntKind.u64.wrap (x0)))) else (IntKind.u64.wrap (x0))) 4294967296)))]))] (cmadeN (decide ((x0 : Int) < 0)) [IntKind.u32.wrap (bif decide ((x0 : Int) < 0) then (IntKind.u64.wrap (0 - (IntKind.u64.wrap (x0)))) else (IntKind.u64.wrap (x0))), IntKind.u32.wrap (Int.fdiv (bif decide ((x0 : Int) < 0) then (IntKind.u64.wrap (0 - (IntKind.u64.wrap (x0)))) else (IntKind.u64.wrap (x0))) 4294967296)])).2.1] ⟨[(2, tP 2 0), (4, tP 4 0)], [(2, .cells [.b false, .val (.slice none 0 0)] 118), (4, .cells (TNum.c (wOfN_0 x0)) 118)]⟩ (.cons (callOk_ce (okmadeN (decide ((x0 : Int) < 0)) [IntKind.u32.wrap (bif decide ((x0 : Int) < 0) then (IntKind.u64.wrap (0 - (IntKind.u64.wrap (x0)))) else (IntKind.u64.wrap (x0))), IntKind.u32.wrap (Int.fdiv (bif decide ((x0 : Int) < 0) then (IntKind.u64.wrap (0 - (IntKind.u64.wrap (x0)))) else (IntKind.u64.wrap (x0))) 4294967296)] au0) (.cons (AvE.refl _) (.cons (.one (cle_told true (told_lit (c := (fun x => [.val (.int .u32 x)])) (xs := ([IntKind.u32.wrap (bif decide ((x0 : Int) < 0) then (IntKind.u64.wrap (0 - (IntKind.u64.wrap (x0)))) else (IntKind.u64.wrap (x0))), IntKind.u32.wrap (Int.fdiv (bif decide ((x0 : Int) < 0) then (IntKind.u64.wrap (0 - (IntKind.u64.wrap (x0)))) else (IntKind.u64.wrap (x0))) 4294967296)] : List Int)) rfl (by kernel_rfl)))) .nil))) .nil) (by kernel_rfl) (.cons (by decide) (.cons rfl .nil)) <| ath_n <| aw_seq ?_
  refine aw_region eqok [] [] [] [2] [2] [] ⟨[(2, tP 2 0)], [(2, .cells (TNum.c (wOfN_0 x0)) 118)]⟩ .nil (by kernel_rfl) .nil <| ath_n <| aw_ret ?_
  exact ⟨_, Cv.refl _, .inl rfl, .av (.agg (TNum.c (wOfN_0 x0))), by kernel_rfl, tve_eq (by rfl)⟩
theorem okOfN (x0 : Int) : CallOk Try.prog (cOfN x0).1 (cOfN x0).2.1 (cOfN x0).2.2 := callOk_pure (fun _ _ => by kernel_rfl) fun _ => pOfN x0
def tmJ (la lb : Nat) (i : Int) (out : List Int) (c k : Int) : Prop :=
  out.length = la + lb + 1 ∧ (∀ j, 0 ≤ out.getD j 0 ∧ out.getD j 0 < 4294967296) ∧ (0 ≤ c ∧ c < 4294967296) ∧
    (∀ j : Nat, i + k ≤ (j : Int) → i + (lb : Int) ≤ (j : Int) → out.getD j 0 = 0) ∧ (k = (lb : Int) + 1 → c = 0)
def tmX (lb : Nat) (c k o x y : Int) : Int := (bif decide (k < (lb : Int)) then (IntKind.u64.wrap ((IntKind.u64.wrap (c + (IntKind.u64.wrap o))) + (IntKind.u64.wrap ((IntKind.u64.wrap x) * (IntKind.u64.wrap y))))) else (IntKind.u64.wrap (c + (IntKind.u64.wrap o))))
theorem tmX_eq (lb : Nat) (c k o x y : Int) : tmX lb c k o x y = (bif decide (k < (lb : Int)) then (IntKind.u64.wrap ((IntKind.u64.wrap (c + (IntKind.u64.wrap o))) + (IntKind.u64.wrap ((IntKind.u64.wrap x) * (IntKind.u64.wrap y))))) else (IntKind.u64.wrap (c + (IntKind.u64.wrap o)))) := rfl
theorem tm_mul {x y : Int} (hx : 0 ≤ x ∧ x < 4294967296) (hy : 0 ≤ y ∧ y < 4294967296) : 0 ≤ x * y ∧ x * y ≤ 18446744065119617025 :=
  ⟨Int.mul_nonneg hx.1 hy.1, Int.le_trans (Int.mul_le_mul (show x ≤ 4294967295 by omega) (show y ≤ 4294967295 by omega) hy.1 (by decide)) (by decide)⟩
theorem tm_x {lb : Nat} {c k o x y : Int} (hc : 0 ≤ c ∧ c < 4294967296) (ho : 0 ≤ o ∧ o < 4294967296) (hx : 0 ≤ x ∧ x < 4294967296) (hy : 0 ≤ y ∧ y < 4294967296) :
    tmX lb c k o x y = (if k < (lb : Int) then c + o + x * y else c + o) ∧ 0 ≤ tmX lb c k o x y ∧ tmX lb c k o x y < 18446744073709551616 := by
  have hm := tm_mul hx hy
  have w : ∀ z : Int, 0 ≤ z → z < 18446744073709551616 → IntKind.u64.wrap z = z := fun z h0 h1 => by rw [IntKind.wrap_u64]; omega
  have e : tmX lb c k o x y = (if k < (lb : Int) then c + o + x * y else c + o) := by
    rw [tmX_eq, w o (by omega) (by omega), w x (by omega) (by omega), w y (by omega) (by omega), w (c + o) (by omega) (by omega), w (x * y) (by omega) (by omega), w (c + o + x * y) (by omega) (by omega)]
    by_cases hk : k < (lb : Int)
    · rw [decide_eq_true hk, if_pos hk]; rfl
    · rw [decide_eq_false hk, if_neg hk]; rfl
  refine ⟨e, ?_, ?_⟩ <;> rw [e] <;> split <;> omega
theorem tm_k {la lb : Nat} {i : Int} {out : List Int} {c k : Int} (hJ : tmJ la lb i out c k) (hk : 0 ≤ k ∧ k ≤ (lb : Int) + 1) (h : (bif decide (k < (lb : Int)) then true else decide ((0 : Int) < c)) = true) : k ≤ (lb : Int) := by
  by_cases q : k < (lb : Int)
  · omega
  · rw [decide_eq_false q] at h
    have := of_decide_eq_true h
    have := hJ.2.2.2.2
    omega
theorem tm_ix {la lb : Nat} {i : Int} {out : List Int} {c k : Int} (h0 : (la : Int) ≤ 100000) (h1 : (lb : Int) ≤ 100000) (hi : 0 ≤ i) (g1 : i < (la : Int)) (hJ : tmJ la lb i out c k) (hk : 0 ≤ k ∧ k ≤ (lb : Int) + 1) (h : (bif decide (k < (lb : Int)) then true else decide ((0 : Int) < c)) = true) :
    0 ≤ W64 (i + k) ∧ W64 (i + k) < ((out.length : Nat) : Int) := by
  have hk2 := tm_k hJ hk h
  have := hJ.1
  rw [W64_id (by omega) (by omega)]
  omega
theorem tm_ix2 {la lb : Nat} {i : Int} {out : List Int} {c k : Int} (h0 : (la : Int) ≤ 100000) (h1 : (lb : Int) ≤ 100000) (hi : 0 ≤ i) (g1 : i < (la : Int)) (hJ : tmJ la lb i out c k) (hk : 0 ≤ k ∧ k ≤ (lb : Int) + 1) (h : (bif decide (k < (lb : Int)) then true else decide ((0 : Int) < c)) = true) :
    (W64 (i + k)).toNat < out.length := by
  have := tm_ix h0 h1 hi g1 hJ hk h
  omega
theorem tm_step {la lb : Nat} {i : Int} {out : List Int} {c k : Int} {a b : List Int} (h0 : (la : Int) ≤ 100000) (h1 : (lb : Int) ≤ 100000) (da : ∀ j, 0 ≤ a.getD j 0 ∧ a.getD j 0 < 4294967296) (db : ∀ j, 0 ≤ b.getD j 0 ∧ b.getD j 0 < 4294967296) (hi : 0 ≤ i) (g1 : i < (la : Int)) (hJ : tmJ la lb i out c k) (hk : 0 ≤ k ∧ k ≤ (lb : Int) + 1) (h : (bif decide (k < (lb : Int)) then true else decide ((0 : Int) < c)) = true) :
    tmJ la lb i (out.set ((W64 (i + k)).toNat) (IntKind.u32.wrap (tmX lb c k (out.getD ((W64 (i + k)).toNat) default) (a.getD i.toNat default) (b.getD k.toNat default)))) (Int.fdiv (tmX lb c k (out.getD ((W64 (i + k)).toNat) default) (a.getD i.toNat default) (b.getD k.toNat default)) 4294967296) (k + 1) ∧ 0 ≤ k + 1 ∧ k + 1 ≤ (lb : Int) + 1 := by
  have hk2 := tm_k hJ hk h
  have hx2 := tm_ix2 h0 h1 hi g1 hJ hk h
  obtain ⟨j1, j2, j3, j4, j5⟩ := hJ
  have eW : W64 (i + k) = i + k := W64_id (by omega) (by omega)
  rw [eW] at hx2 ⊢
  obtain ⟨e, p0, p1⟩ := tm_x (lb := lb) (k := k) j3 (j2 (i + k).toNat) (da i.toNat) (db k.toNat)
  have z : (out.getD (i + k).toNat default) = out.getD (i + k).toNat 0 := rfl
  have z2 : (a.getD i.toNat default) = a.getD i.toNat 0 := rfl
  have z3 : (b.getD k.toNat default) = b.getD k.toNat 0 := rfl
  rw [z, z2, z3]
  have hlast : k = (lb : Int) → tmX lb c k (out.getD (i + k).toNat 0) (a.getD i.toNat 0) (b.getD k.toNat 0) < 4294967296 := by
    intro hq
    rw [e, if_neg (by omega), j4 (i + k).toNat (by omega) (by omega)]
    omega
  generalize tmX lb c k (out.getD (i + k).toNat 0) (a.getD i.toNat 0) (b.getD k.toNat 0) = X at *
  have hd : Int.fdiv X 4294967296 = X / 4294967296 := Int.fdiv_eq_ediv_of_nonneg _ (by decide)
  rw [hd]
  have hs : ∀ j : Nat, (out.set (i + k).toNat (IntKind.u32.wrap X)).getD j 0 = if (i + k).toNat = j then IntKind.u32.wrap X else out.getD j 0 := by
    intro j
    simp only [List.getD_eq_getElem?_getD, List.getElem?_set]
    by_cases q : (i + k).toNat = j
    · rw [if_pos q, if_pos q, if_pos hx2]; rfl
    · rw [if_neg q, if_neg q]
  have hw : 0 ≤ IntKind.u32.wrap X ∧ IntKind.u32.wrap X < 4294967296 := by rw [IntKind.wrap_u32]; omega
  refine ⟨⟨by rw [List.length_set]; exact j1, fun j => ?_, by omega, fun j q1 q2 => ?_, fun q => ?_⟩, by omega, by omega⟩
  · rw [hs j]; split
    · exact hw
    · exact j2 j
  · rw [hs j, if_neg (by omega)]; exact j4 j (by omega) q2
  · have := hlast (by omega); omega
theorem tm_done {la lb : Nat} {i : Int} {out : List Int} {c k : Int} (hJ : tmJ la lb i out c k) (hk : 0 ≤ k ∧ k ≤ (lb : Int) + 1) : tmJ la lb (i + 1) out 0 0 := by
  obtain ⟨j1, j2, j3, j4, j5⟩ := hJ
  exact ⟨j1, j2, by decide, fun j q1 q2 => j4 j (by omega) (by omega), fun _ => rfl⟩
theorem tm_init {la lb : Nat} (h0 : (la : Int) ≤ 100000) (h1 : (lb : Int) ≤ 100000) : tmJ la lb 0 (List.replicate ((W64 ((W64 ((la : Int) + (lb : Int))) + 1) : Int).toNat) (0 : Int)) 0 0 := by
  rw [W64_id (x := (la : Int) + (lb : Int)) (by omega) (by omega), W64_id (by omega) (by omega)]
  have hz : ∀ (n j : Nat), (List.replicate n (0 : Int)).getD j 0 = 0 := by
    intro n j
    rw [List.getD_eq_getElem?_getD, List.getElem?_replicate]; split <;> rfl
  exact ⟨by rw [List.length_replicate]; omega, fun j => by rw [hz]; decide, by decide, fun j _ _ => hz _ j, fun _ => rfl⟩
def Ftimes_l1 (a : (List Int)) (b : (List Int)) (v5 : List Int) (v6 : Int) (K0 : List Int → Int → (List Int)) : Nat → List Int → Int → Int → (List Int)
  | 0, _, _, _ => default
  | n1 + 1, v5', v7, v8 => bif bif decide ((v8 : Int) < ((b.length : Int))) then true else decide ((0 : Int) < v7) then ((Ftimes_l1 a b v5 v6 K0 n1) (v5'.set ((W64 (v6 + v8)).toNat) (IntKind.u32.wrap (bif decide ((v8 : Int) < ((b.length : Int))) then (IntKind.u64.wrap ((IntKind.u64.wrap (v7 + (IntKind.u64.wrap (v5'.getD ((W64 (v6 + v8)).toNat) default)))) + (IntKind.u64.wrap ((IntKind.u64.wrap (a.getD v6.toNat default)) * (IntKind.u64.wrap (b.getD v8.toNat default)))))) else (IntKind.u64.wrap (v7 + (IntKind.u64.wrap (v5'.getD ((W64 (v6 + v8)).toNat) default))))))) (Int.fdiv (bif decide ((v8 : Int) < ((b.length : Int))) then (IntKind.u64.wrap ((IntKind.u64.wrap (v7 + (IntKind.u64.wrap (v5'.getD ((W64 (v6 + v8)).toNat) default)))) + (IntKind.u64.wrap ((IntKind.u64.wrap (a.getD v6.toNat default)) * (IntKind.u64.wrap (b.getD v8.toNat default)))))) else (IntKind.u64.wrap (v7 + (IntKind.u64.wrap (v5'.getD ((W64 (v6 + v8)).toNat) default))))) 4294967296) (v8 + 1)) else (K0 v5' (v6 + 1))
def Ftimes_l0 (a : (List Int)) (b : (List Int)) : Nat → List Int → Int → (List Int)
  | 0, _, _ => default
  | n0 + 1, v5, v6 => bif decide ((v6 : Int) < ((a.length : Int))) then (Ftimes_l1 a b v5 v6 (Ftimes_l0 a b n0) (((b.length : Int) + 2 - 0).toNat + 1) v5 0 0) else (Ftrim v5)
def Ftimes (a : (List Int)) (b : (List Int)) : (List Int) := Ftimes_l0 a b (((a.length : Int) - 0).toNat + 1) (List.replicate ((W64 ((W64 (((a.length : Int)) + ((b.length : Int)))) + 1) : Int).toNat) (0 : Int)) 0
def ctimes (a : (List Int)) (b : (List Int)) : FuncId × List Av × Ef := (109, [.one (lst 1 (fun x => [.val (.int .u32 x)]) a), .one (lst 1 (fun x => [.val (.int .u32 x)]) b)], .val [] (.av (.one (lst 1 (fun x => [.val (.int .u32 x)]) (Ftimes a b)))))
theorem ptimes (a : (List Int)) (b : (List Int)) (h0 : (a.length : Int) ≤ 100000) (h1 : (b.length : Int) ≤ 100000) (da : (∀ j, 0 ≤ a.getD j 0 ∧ a.getD j 0 < 4294967296)) (db : (∀ j, 0 ≤ b.getD j 0 ∧ b.getD j 0 < 4294967296)) : Pure Try.prog 109 (ctimes a b).2.1 (.av (.one (lst 1 (fun x => [.val (.int .u32 x)]) (Ftimes a b)))) := by
  refine pure_of_awF Try.func109 rfl (by kernel_rfl) (by kernel_rfl) fun W0 M0 => ?_
  have hla := h0
  have hlb := h1
  have hw0 : W64 (((a.length : Int)) + ((b.length : Int))) = (a.length : Int) + (b.length : Int) := W64_id (by omega) (by omega)
  have hw : (W64 ((W64 (((a.length : Int)) + ((b.length : Int)))) + 1) : Int) = (a.length : Int) + (b.length : Int) + 1 := by rw [hw0]; exact W64_id (by omega) (by omega)
  refine aw_seq ?_
  refine aw_region eqok [] [] [] [0, 1] [] [] ⟨[(0, .av (.one (lst 1 (fun x => [.val (.int .u32 x)]) a))), (1, .av (.one (lst 1 (fun x => [.val (.int .u32 x)]) b)))], []⟩ .nil (by kernel_rfl) .nil <| ath_n <| aw_seq ?_
  refine aw_region eqok [] [] [] [0, 1, 5] [15] [0 ≤ (W64 ((W64 (((a.length : Int)) + ((b.length : Int)))) + 1) : Int) ∧ (W64 ((W64 (((a.length : Int)) + ((b.length : Int)))) + 1) : Int) = (W64 ((W64 (((a.length : Int)) + ((b.length : Int)))) + 1) : Int) ∧ (4 : Int) * (W64 ((W64 (((a.length : Int)) + ((b.length : Int)))) + 1) : Int) ≤ 281474976710656 ∧ (W64 ((W64 (((a.length : Int)) + ((b.length : Int)))) + 1) : Int) ≤ 9223372036854775807] ⟨[(0, .av (.one (lst 1 (fun x => [.val (.int .u32 x)]) a))), (1, .av (.one (lst 1 (fun x => [.val (.int .u32 x)]) b))), (5, .av (.one (.own 15 1 ((W64 ((W64 (((a.length : Int)) + ((b.length : Int)))) + 1) : Int).toNat))))], [(15, .row 1 ((W64 ((W64 (((a.length : Int)) + ((b.length : Int)))) + 1) : Int).toNat) (fun _ j => ([.val (.int .u32 0)] : List Cl).getD j default) 40)]⟩ .nil (by kernel_rfl) (.cons (by first | decide | omega | (simp only [W64_def]; omega)) .nil) <| ath_n ?_
  refine aw_cv (Cv.trans (cv_ce (⟨[(0, .av (.one (lst 1 (fun x => [.val (.int .u32 x)]) a))), (1, .av (.one (lst 1 (fun x => [.val (.int .u32 x)]) b))), (5, .av (.one (.own 15 1 ((List.replicate ((W64 ((W64 (((a.length : Int)) + ((b.length : Int)))) + 1) : Int).toNat) (0 : Int)).length))))], [(15, .row 1 ((List.replicate ((W64 ((W64 (((a.length : Int)) + ((b.length : Int)))) + 1) : Int).toNat) (0 : Int)).length) (rowF (fun x => [.val (.int .u32 x)]) (List.replicate ((W64 ((W64 (((a.length : Int)) + ((b.length : Int)))) + 1) : Int).toNat) (0 : Int))) 40)]⟩) (.cons ⟨rfl, .refl _⟩ (.cons ⟨rfl, .refl _⟩ (.cons ⟨rfl, .av (.one (.own _ _ au3))⟩ .nil))) (.cons ⟨rfl, bke_told 40 (told_rep 1 (fun x => [.val (.int .u32 x)]) ((W64 ((W64 (((a.length : Int)) + ((b.length : Int)))) + 1) : Int).toNat) (0) (by kernel_rfl))⟩ .nil)) (Cv.refl _)) <| aw_seq <| aw_seq ?_
  refine aw_region eqok [] [] [] [0, 1, 5, 6] [15] [] ⟨[(0, .av (.one (lst 1 (fun x => [.val (.int .u32 x)]) a))), (1, .av (.one (lst 1 (fun x => [.val (.int .u32 x)]) b))), (5, .av (.one (.own 15 1 ((List.replicate ((W64 ((W64 (((a.length : Int)) + ((b.length : Int)))) + 1) : Int).toNat) (0 : Int)).length)))), (6, tI 0)], [(15, .row 1 ((List.replicate ((W64 ((W64 (((a.length : Int)) + ((b.length : Int)))) + 1) : Int).toNat) (0 : Int)).length) (rowF (fun x => [.val (.int .u32 x)]) (List.replicate ((W64 ((W64 (((a.length : Int)) + ((b.length : Int)))) + 1) : Int).toNat) (0 : Int))) 40)]⟩ .nil (by kernel_rfl) .nil <| ath_n <| aw_block ?_
  refine aw_loopC (ι := Nat × List Int × Int) (fun x => ⟨[(0, .av (.one (lst 1 (fun x => [.val (.int .u32 x)]) a))), (1, .av (.one (lst 1 (fun x => [.val (.int .u32 x)]) b))), (5, .av (.one (.own 15 1 x.2.1.length))), (6, tI x.2.2)], [(15, .row 1 x.2.1.length (rowF (fun x => [.val (.int .u32 x)]) x.2.1) 40)]⟩) (fun x => ((a.length : Int) - x.2.2).toNat < x.1 ∧ (0 ≤ x.2.2 ∧ tmJ a.length b.length x.2.2 x.2.1 0 0 ∧ 0 ≤ x.2.2 ∧ (x.2.2 ≤ ((a.length : Int)) ∨ x.2.2 = 0)) ∧ Ftimes_l0 a b x.1 x.2.1 x.2.2 = Ftimes a b) (fun x => x.1) ?_ (((a.length : Int) - 0).toNat + 1, List.replicate ((W64 ((W64 (((a.length : Int)) + ((b.length : Int)))) + 1) : Int).toNat) (0 : Int), 0) ⟨Nat.lt_succ_self _, (by show 0 ≤ 0 ∧ tmJ a.length b.length 0 (List.replicate ((W64 ((W64 (((a.length : Int)) + ((b.length : Int)))) + 1) : Int).toNat) (0 : Int)) 0 0 ∧ 0 ≤ 0 ∧ (0 ≤ ((a.length : Int)) ∨ 0 = 0); exact ⟨by decide, tm_init h0 h1, by decide, .inr rfl⟩), (by simp only [Ftimes, cond_true, cond_false])⟩
  rintro ⟨n0, v5, v6⟩ ⟨hn, hinv, hF⟩
  have hm0 : ((a.length : Int) - v6).toNat < n0 := hn; have hinv0 : 0 ≤ v6 ∧ tmJ a.length b.length v6 v5 0 0 ∧ 0 ≤ v6 ∧ (v6 ≤ ((a.length : Int)) ∨ v6 = 0) := hinv; have hF0 : Ftimes_l0 a b n0 v5 v6 = Ftimes a b := hF; clear hn hinv hF
  cases n0 with
  | zero => exact absurd hm0 (Nat.not_lt_zero _)
  | succ n0 =>
    have hv5 : v5.length = a.length + b.length + 1 := hinv0.2.1.1
    refine aw_seq <| aw_seq ?_
    refine aw_region eqok [] [] [] [0, 1, 5, 6, 19] [15] [] ⟨[(0, .av (.one (lst 1 (fun x => [.val (.int .u32 x)]) a))), (1, .av (.one (lst 1 (fun x => [.val (.int .u32 x)]) b))), (5, .av (.one (.own 15 1 v5.length))), (6, tI v6), (19, tB (decide ((v6 : Int) < ((a.length : Int)))))], [(15, .row 1 v5.length (rowF (fun x => [.val (.int .u32 x)]) v5) 40)]⟩ .nil (by kernel_rfl) .nil <| ath_n ?_
    refine aw_cond (decide ((v6 : Int) < ((a.length : Int)))) (by kernel_rfl) (fun h1 => ?_) (fun h1 => ?_)
    · have g1 := of_decide_eq_true h1
      refine aw_skip <| ath_n ?_
      refine aw_seq <| aw_block <| aw_seq ?_
      refine aw_region eqok [] [] [] [0, 1, 5, 6, 7] [15] [] ⟨[(0, .av (.one (lst 1 (fun x => [.val (.int .u32 x)]) a))), (1, .av (.one (lst 1 (fun x => [.val (.int .u32 x)]) b))), (5, .av (.one (.own 15 1 v5.length))), (6, tI v6), (7, .av (.one (.val (.int .u64 0))))], [(15, .row 1 v5.length (rowF (fun x => [.val (.int .u32 x)]) v5) 40)]⟩ .nil (by kernel_rfl) .nil <| ath_n <| aw_seq ?_
      refine aw_region eqok [] [] [] [0, 1, 5, 6, 7, 8] [15] [] ⟨[(0, .av (.one (lst 1 (fun x => [.val (.int .u32 x)]) a))), (1, .av (.one (lst 1 (fun x => [.val (.int .u32 x)]) b))), (5, .av (.one (.own 15 1 v5.length))), (6, tI v6), (7, .av (.one (.val (.int .u64 0)))), (8, tI 0)], [(15, .row 1 v5.length (rowF (fun x => [.val (.int .u32 x)]) v5) 40)]⟩ .nil (by kernel_rfl) .nil <| ath_n <| aw_block ?_
      refine aw_loopC (ι := Nat × List Int × Int × Int) (fun x => ⟨[(0, .av (.one (lst 1 (fun x => [.val (.int .u32 x)]) a))), (1, .av (.one (lst 1 (fun x => [.val (.int .u32 x)]) b))), (5, .av (.one (.own 15 1 x.2.1.length))), (6, tI v6), (7, .av (.one (.val (.int .u64 x.2.2.1)))), (8, tI x.2.2.2)], [(15, .row 1 x.2.1.length (rowF (fun x => [.val (.int .u32 x)]) x.2.1) 40)]⟩) (fun x => ((b.length : Int) + 2 - x.2.2.2).toNat < x.1 ∧ (tmJ a.length b.length v6 x.2.1 x.2.2.1 x.2.2.2 ∧ 0 ≤ x.2.2.2 ∧ x.2.2.2 ≤ (b.length : Int) + 1 ∧ 0 ≤ x.2.2.2) ∧ Ftimes_l1 a b v5 v6 (Ftimes_l0 a b n0) x.1 x.2.1 x.2.2.1 x.2.2.2 = Ftimes a b) (fun x => x.1) ?_ (((b.length : Int) + 2 - 0).toNat + 1, v5, 0, 0) ⟨Nat.lt_succ_self _, (by show tmJ a.length b.length v6 v5 0 0 ∧ 0 ≤ 0 ∧ 0 ≤ (b.length : Int) + 1 ∧ 0 ≤ 0; exact ⟨hinv0.2.1, by decide, by omega, by decide⟩), (by rw [← hF0]; simp only [Ftimes_l0, h1, cond_true, cond_false])⟩
      rintro ⟨n1, v5', v7, v8⟩ ⟨hn, hinv, hF⟩
      have hm1 : ((b.length : Int) + 2 - v8).toNat < n1 := hn; have hinv1 : tmJ a.length b.length v6 v5' v7 v8 ∧ 0 ≤ v8 ∧ v8 ≤ (b.length : Int) + 1 ∧ 0 ≤ v8 := hinv; have hF1 : Ftimes_l1 a b v5 v6 (Ftimes_l0 a b n0) n1 v5' v7 v8 = Ftimes a b := hF; clear hn hinv hF
      cases n1 with
      | zero => exact absurd hm1 (Nat.not_lt_zero _)
      | succ n1 =>
        refine aw_seq <| aw_seq ?_
        refine aw_region eqok [] [] [] [0, 1, 5, 6, 7, 8, 29] [15] [((decide ((v8 : Int) < ((b.length : Int)))) = false) → ((decide ((v8 : Int) < ((b.length : Int)))) = false), (decide ((v8 : Int) < ((b.length : Int)))) = false → ((decide ((v8 : Int) < ((b.length : Int)))) = false)] ⟨[(0, .av (.one (lst 1 (fun x => [.val (.int .u32 x)]) a))), (1, .av (.one (lst 1 (fun x => [.val (.int .u32 x)]) b))), (5, .av (.one (.own 15 1 v5'.length))), (6, tI v6), (7, .av (.one (.val (.int .u64 v7)))), (8, tI v8), (29, tB (bif decide ((v8 : Int) < ((b.length : Int))) then true else decide ((0 : Int) < v7)))], [(15, .row 1 v5'.length (rowF (fun x => [.val (.int .u32 x)]) v5') 40)]⟩ .nil (by kernel_rfl) (.cons id (.cons id .nil)) <| ath_n ?_
        refine aw_cond (bif decide ((v8 : Int) < ((b.length : Int))) then true else decide ((0 : Int) < v7)) (by kernel_rfl) (fun h2 => ?_) (fun h2 => ?_)
        · refine aw_skip <| ath_n ?_
          refine aw_seq <| aw_block <| aw_seq ?_
          refine aw_region eqok [] [] [] [0, 1, 5, 6, 7, 8] [15] [0 ≤ (W64 (v6 + v8) : Int) ∧ (W64 (v6 + v8) : Int) < ((v5'.length : Nat) : Int), (W64 (v6 + v8)).toNat < v5'.length] ⟨[(0, .av (.one (lst 1 (fun x => [.val (.int .u32 x)]) a))), (1, .av (.one (lst 1 (fun x => [.val (.int .u32 x)]) b))), (5, .av (.one (.own 15 1 v5'.length))), (6, tI v6), (7, .av (.one (.val (.int .u64 (IntKind.u64.wrap (v7 + (IntKind.u64.wrap (v5'.getD ((W64 (v6 + v8)).toNat) default)))))))), (8, tI v8)], [(15, .row 1 v5'.length (rowF (fun x => [.val (.int .u32 x)]) v5') 40)]⟩ .nil (by kernel_rfl) (.cons (by first | decide | exact tm_ix hla hlb hinv0.1 g1 hinv1.1 ⟨hinv1.2.1, hinv1.2.2.1⟩ h2 | exact tm_ix2 hla hlb hinv0.1 g1 hinv1.1 ⟨hinv1.2.1, hinv1.2.2.1⟩ h2 | (constructor <;> omega) | omega) (.cons (by first | decide | exact tm_ix hla hlb hinv0.1 g1 hinv1.1 ⟨hinv1.2.1, hinv1.2.2.1⟩ h2 | exact tm_ix2 hla hlb hinv0.1 g1 hinv1.1 ⟨hinv1.2.1, hinv1.2.2.1⟩ h2 | (constructor <;> omega) | omega) .nil)) <| ath_n ?_
          refine aw_seq <| aw_seq ?_
          refine aw_region eqok [] [] [] [0, 1, 5, 6, 7, 8, 44] [15] [] ⟨[(0, .av (.one (lst 1 (fun x => [.val (.int .u32 x)]) a))), (1, .av (.one (lst 1 (fun x => [.val (.int .u32 x)]) b))), (5, .av (.one (.own 15 1 v5'.length))), (6, tI v6), (7, .av (.one (.val (.int .u64 (IntKind.u64.wrap (v7 + (IntKind.u64.wrap (v5'.getD ((W64 (v6 + v8)).toNat) default)))))))), (8, tI v8), (44, tB (decide ((v8 : Int) < ((b.length : Int)))))], [(15, .row 1 v5'.length (rowF (fun x => [.val (.int .u32 x)]) v5') 40)]⟩ .nil (by kernel_rfl) .nil <| ath_n ?_
          refine aw_joinC (⟨[(0, .av (.one (lst 1 (fun x => [.val (.int .u32 x)]) a))), (1, .av (.one (lst 1 (fun x => [.val (.int .u32 x)]) b))), (5, .av (.one (.own 15 1 v5'.length))), (6, tI v6), (7, .av (.one (.val (.int .u64 (bif decide ((v8 : Int) < ((b.length : Int))) then (IntKind.u64.wrap ((IntKind.u64.wrap (v7 + (IntKind.u64.wrap (v5'.getD ((W64 (v6 + v8)).toNat) default)))) + (IntKind.u64.wrap ((IntKind.u64.wrap (a.getD v6.toNat default)) * (IntKind.u64.wrap (b.getD v8.toNat default)))))) else (IntKind.u64.wrap (v7 + (IntKind.u64.wrap (v5'.getD ((W64 (v6 + v8)).toNat) default))))))))), (8, tI v8)], [(15, .row 1 v5'.length (rowF (fun x => [.val (.int .u32 x)]) v5') 40)]⟩) ?_ ?_
          · refine aw_cond (decide ((v8 : Int) < ((b.length : Int)))) (by kernel_rfl) (fun h3 => ?_) (fun h3 => ?_)
            · have g3 := of_decide_eq_true h3
              refine aw_draw mixed eqok [] [] [] [0, 1, 5, 6, 7, 8] [15] [0 ≤ (v6 : Int) ∧ (v6 : Int) < ((a.length : Nat) : Int), 0 ≤ (v8 : Int) ∧ (v8 : Int) < ((b.length : Nat) : Int)] ⟨[(0, .av (.one (lst 1 (fun x => [.val (.int .u32 x)]) a))), (1, .av (.one (lst 1 (fun x => [.val (.int .u32 x)]) b))), (5, .av (.one (.own 15 1 v5'.length))), (6, tI v6), (7, .av (.one (.val (.int .u64 (IntKind.u64.wrap ((IntKind.u64.wrap (v7 + (IntKind.u64.wrap (v5'.getD ((W64 (v6 + v8)).toNat) default)))) + (IntKind.u64.wrap ((IntKind.u64.wrap (a.getD v6.toNat default)) * (IntKind.u64.wrap (b.getD v8.toNat default)))))))))), (8, tI v8)], [(15, .row 1 v5'.length (rowF (fun x => [.val (.int .u32 x)]) v5') 40)]⟩ .nil (by kernel_rfl) (by kernel_rfl) (.cons (by first | decide | exact tm_ix hla hlb hinv0.1 g1 hinv1.1 ⟨hinv1.2.1, hinv1.2.2.1⟩ h2 | exact tm_ix2 hla hlb hinv0.1 g1 hinv1.1 ⟨hinv1.2.1, hinv1.2.2.1⟩ h2 | (constructor <;> omega) | omega) (.cons (by first | decide | exact tm_ix hla hlb hinv0.1 g1 hinv1.1 ⟨hinv1.2.1, hinv1.2.2.1⟩ h2 | exact tm_ix2 hla hlb hinv0.1 g1 hinv1.1 ⟨hinv1.2.1, hinv1.2.2.1⟩ h2 | (constructor <;> omega) | omega) .nil)) <| ath_n ?_
              refine cv_eq ?_
              first | rfl | (simp only [h3, cond_true, cond_false]; done) | (simp only [h3, cond_true, cond_false]; rfl)
            · have g3 := of_decide_eq_false h3
              refine aw_skip <| ath_n ?_
              refine Cv.trans (cv_keep [0, 1, 5, 6, 7, 8] [15] (⟨[(0, .av (.one (lst 1 (fun x => [.val (.int .u32 x)]) a))), (1, .av (.one (lst 1 (fun x => [.val (.int .u32 x)]) b))), (5, .av (.one (.own 15 1 v5'.length))), (6, tI v6), (7, .av (.one (.val (.int .u64 (IntKind.u64.wrap (v7 + (IntKind.u64.wrap (v5'.getD ((W64 (v6 + v8)).toNat) default)))))))), (8, tI v8)], [(15, .row 1 v5'.length (rowF (fun x => [.val (.int .u32 x)]) v5') 40)]⟩) (by kernel_rfl)) (cv_eq ?_)
              first | rfl | (simp only [h3, cond_true, cond_false]; done) | (simp only [h3, cond_true, cond_false]; rfl)
          refine aw_seq ?_
          refine aw_region eqok [] [] [] [0, 1, 5, 6, 7, 8] [15] [0 ≤ (W64 (v6 + v8) : Int) ∧ (W64 (v6 + v8) : Int) < ((v5'.length : Nat) : Int), (W64 (v6 + v8)).toNat < v5'.length] ⟨[(0, .av (.one (lst 1 (fun x => [.val (.int .u32 x)]) a))), (1, .av (.one (lst 1 (fun x => [.val (.int .u32 x)]) b))), (5, .av (.one (.own 15 1 v5'.length))), (6, tI v6), (7, .av (.one (.val (.int .u64 (bif decide ((v8 : Int) < ((b.length : Int))) then (IntKind.u64.wrap ((IntKind.u64.wrap (v7 + (IntKind.u64.wrap (v5'.getD ((W64 (v6 + v8)).toNat) default)))) + (IntKind.u64.wrap ((IntKind.u64.wrap (a.getD v6.toNat default)) * (IntKind.u64.wrap (b.getD v8.toNat default)))))) else (IntKind.u64.wrap (v7 + (IntKind.u64.wrap (v5'.getD ((W64 (v6 + v8)).toNat) default))))))))), (8, tI v8)], [(15, .row 1 v5'.length (fun i j => if i = (W64 (v6 + v8)).toNat ∧ 0 ≤ j ∧ j < 0 + 1 then ([.val (.int .u32 (IntKind.u32.wrap (bif decide ((v8 : Int) < ((b.length : Int))) then (IntKind.u64.wrap ((IntKind.u64.wrap (v7 + (IntKind.u64.wrap (v5'.getD ((W64 (v6 + v8)).toNat) default)))) + (IntKind.u64.wrap ((IntKind.u64.wrap (a.getD v6.toNat default)) * (IntKind.u64.wrap (b.getD v8.toNat default)))))) else (IntKind.u64.wrap (v7 + (IntKind.u64.wrap (v5'.getD ((W64 (v6 + v8)).toNat) default)))))))] : List Cl).getD (j - 0) default else (rowF (fun x => [.val (.int .u32 x)]) v5') i j) 40)]⟩ .nil (by kernel_rfl) (.cons (by first | decide | exact tm_ix hla hlb hinv0.1 g1 hinv1.1 ⟨hinv1.2.1, hinv1.2.2.1⟩ h2 | exact tm_ix2 hla hlb hinv0.1 g1 hinv1.1 ⟨hinv1.2.1, hinv1.2.2.1⟩ h2 | (constructor <;> omega) | omega) (.cons (by first | decide | exact tm_ix hla hlb hinv0.1 g1 hinv1.1 ⟨hinv1.2.1, hinv1.2.2.1⟩ h2 | exact tm_ix2 hla hlb hinv0.1 g1 hinv1.1 ⟨hinv1.2.1, hinv1.2.2.1⟩ h2 | (constructor <;> omega) | omega) .nil)) <| ath_n ?_
          refine aw_cv (Cv.trans (cv_ce (⟨[(0, .av (.one (lst 1 (fun x => [.val (.int .u32 x)]) a))), (1, .av (.one (lst 1 (fun x => [.val (.int .u32 x)]) b))), (5, .av (.one (.own 15 1 ((v5'.set ((W64 (v6 + v8)).toNat) (IntKind.u32.wrap (bif decide ((v8 : Int) < ((b.length : Int))) then (IntKind.u64.wrap ((IntKind.u64.wrap (v7 + (IntKind.u64.wrap (v5'.getD ((W64 (v6 + v8)).toNat) default)))) + (IntKind.u64.wrap ((IntKind.u64.wrap (a.getD v6.toNat default)) * (IntKind.u64.wrap (b.getD v8.toNat default)))))) else (IntKind.u64.wrap (v7 + (IntKind.u64.wrap (v5'.getD ((W64 (v6 + v8)).toNat) default))))))).length)))), (6, tI v6), (7, .av (.one (.val (.int .u64 (bif decide ((v8 : Int) < ((b.length : Int))) then (IntKind.u64.wrap ((IntKind.u64.wrap (v7 + (IntKind.u64.wrap (v5'.getD ((W64 (v6 + v8)).toNat) default)))) + (IntKind.u64.wrap ((IntKind.u64.wrap (a.getD v6.toNat default)) * (IntKind.u64.wrap (b.getD v8.toNat default)))))) else (IntKind.u64.wrap (v7 + (IntKind.u64.wrap (v5'.getD ((W64 (v6 + v8)).toNat) default))))))))), (8, tI v8)], [(15, .row 1 ((v5'.set ((W64 (v6 + v8)).toNat) (IntKind.u32.wrap (bif decide ((v8 : Int) < ((b.length : Int))) then (IntKind.u64.wrap ((IntKind.u64.wrap (v7 + (IntKind.u64.wrap (v5'.getD ((W64 (v6 + v8)).toNat) default)))) + (IntKind.u64.wrap ((IntKind.u64.wrap (a.getD v6.toNat default)) * (IntKind.u64.wrap (b.getD v8.toNat default)))))) else (IntKind.u64.wrap (v7 + (IntKind.u64.wrap (v5'.getD ((W64 (v6 + v8)).toNat) default))))))).length) (rowF (fun x => [.val (.int .u32 x)]) (v5'.set ((W64 (v6 + v8)).toNat) (IntKind.u32.wrap (bif decide ((v8 : Int) < ((b.length : Int))) then (IntKind.u64.wrap ((IntKind.u64.wrap (v7 + (IntKind.u64.wrap (v5'.getD ((W64 (v6 + v8)).toNat) default)))) + (IntKind.u64.wrap ((IntKind.u64.wrap (a.getD v6.toNat default)) * (IntKind.u64.wrap (b.getD v8.toNat default)))))) else (IntKind.u64.wrap (v7 + (IntKind.u64.wrap (v5'.getD ((W64 (v6 + v8)).toNat) default)))))))) 40)]⟩) (.cons ⟨rfl, .refl _⟩ (.cons ⟨rfl, .refl _⟩ (.cons ⟨rfl, .av (.one (.own _ _ au3))⟩ (.cons ⟨rfl, .refl _⟩ (.cons ⟨rfl, .refl _⟩ (.cons ⟨rfl, .refl _⟩ .nil)))))) (.cons ⟨rfl, bke_told 40 (told_set (l := [.val (.int .u32 (IntKind.u32.wrap (bif decide ((v8 : Int) < ((b.length : Int))) then (IntKind.u64.wrap ((IntKind.u64.wrap (v7 + (IntKind.u64.wrap (v5'.getD ((W64 (v6 + v8)).toNat) default)))) + (IntKind.u64.wrap ((IntKind.u64.wrap (a.getD v6.toNat default)) * (IntKind.u64.wrap (b.getD v8.toNat default)))))) else (IntKind.u64.wrap (v7 + (IntKind.u64.wrap (v5'.getD ((W64 (v6 + v8)).toNat) default)))))))]) (off := 0) (q := 1) (k := (W64 (v6 + v8)).toNat) (told_rfl 1 (fun x => [.val (.int .u32 x)]) v5') (by first | decide | exact tm_ix hla hlb hinv0.1 g1 hinv1.1 ⟨hinv1.2.1, hinv1.2.2.1⟩ h2 | exact tm_ix2 hla hlb hinv0.1 g1 hinv1.1 ⟨hinv1.2.1, hinv1.2.2.1⟩ h2 | (constructor <;> omega) | omega) (IntKind.u32.wrap (bif decide ((v8 : Int) < ((b.length : Int))) then (IntKind.u64.wrap ((IntKind.u64.wrap (v7 + (IntKind.u64.wrap (v5'.getD ((W64 (v6 + v8)).toNat) default)))) + (IntKind.u64.wrap ((IntKind.u64.wrap (a.getD v6.toNat default)) * (IntKind.u64.wrap (b.getD v8.toNat default)))))) else (IntKind.u64.wrap (v7 + (IntKind.u64.wrap (v5'.getD ((W64 (v6 + v8)).toNat) default)))))) (tab_get (by kernel_rfl)))⟩ .nil)) (Cv.refl _)) ?_
          refine aw_region eqok [] [] [] [0, 1, 5, 6, 7, 8] [15] [0 ≤ (32 : Int)] ⟨[(0, .av (.one (lst 1 (fun x => [.val (.int .u32 x)]) a))), (1, .av (.one (lst 1 (fun x => [.val (.int .u32 x)]) b))), (5, .av (.one (.own 15 1 ((v5'.set ((W64 (v6 + v8)).toNat) (IntKind.u32.wrap (bif decide ((v8 : Int) < ((b.length : Int))) then (IntKind.u64.wrap ((IntKind.u64.wrap (v7 + (IntKind.u64.wrap (v5'.getD ((W64 (v6 + v8)).toNat) default)))) + (IntKind.u64.wrap ((IntKind.u64.wrap (a.getD v6.toNat default)) * (IntKind.u64.wrap (b.getD v8.toNat default)))))) else (IntKind.u64.wrap (v7 + (IntKind.u64.wrap (v5'.getD ((W64 (v6 + v8)).toNat) default))))))).length)))), (6, tI v6), (7, .av (.one (.val (.int .u64 (Int.fdiv (bif decide ((v8 : Int) < ((b.length : Int))) then (IntKind.u64.wrap ((IntKind.u64.wrap (v7 + (IntKind.u64.wrap (v5'.getD ((W64 (v6 + v8)).toNat) default)))) + (IntKind.u64.wrap ((IntKind.u64.wrap (a.getD v6.toNat default)) * (IntKind.u64.wrap (b.getD v8.toNat default)))))) else (IntKind.u64.wrap (v7 + (IntKind.u64.wrap (v5'.getD ((W64 (v6 + v8)).toNat) default))))) 4294967296))))), (8, tI v8)], [(15, .row 1 ((v5'.set ((W64 (v6 + v8)).toNat) (IntKind.u32.wrap (bif decide ((v8 : Int) < ((b.length : Int))) then (IntKind.u64.wrap ((IntKind.u64.wrap (v7 + (IntKind.u64.wrap (v5'.getD ((W64 (v6 + v8)).toNat) default)))) + (IntKind.u64.wrap ((IntKind.u64.wrap (a.getD v6.toNat default)) * (IntKind.u64.wrap (b.getD v8.toNat default)))))) else (IntKind.u64.wrap (v7 + (IntKind.u64.wrap (v5'.getD ((W64 (v6 + v8)).toNat) default))))))).length) (rowF (fun x => [.val (.int .u32 x)]) (v5'.set ((W64 (v6 + v8)).toNat) (IntKind.u32.wrap (bif decide ((v8 : Int) < ((b.length : Int))) then (IntKind.u64.wrap ((IntKind.u64.wrap (v7 + (IntKind.u64.wrap (v5'.getD ((W64 (v6 + v8)).toNat) default)))) + (IntKind.u64.wrap ((IntKind.u64.wrap (a.getD v6.toNat default)) * (IntKind.u64.wrap (b.getD v8.toNat default)))))) else (IntKind.u64.wrap (v7 + (IntKind.u64.wrap (v5'.getD ((W64 (v6 + v8)).toNat) default)))))))) 40)]⟩ .nil (by kernel_rfl) (.cons (by decide) .nil) <| abl_n <| ath_n ?_
          refine aw_region eqok [] [] [] [0, 1, 5, 6, 7, 8] [15] [] ⟨[(0, .av (.one (lst 1 (fun x => [.val (.int .u32 x)]) a))), (1, .av (.one (lst 1 (fun x => [.val (.int .u32 x)]) b))), (5, .av (.one (.own 15 1 ((v5'.set ((W64 (v6 + v8)).toNat) (IntKind.u32.wrap (bif decide ((v8 : Int) < ((b.length : Int))) then (IntKind.u64.wrap ((IntKind.u64.wrap (v7 + (IntKind.u64.wrap (v5'.getD ((W64 (v6 + v8)).toNat) default)))) + (IntKind.u64.wrap ((IntKind.u64.wrap (a.getD v6.toNat default)) * (IntKind.u64.wrap (b.getD v8.toNat default)))))) else (IntKind.u64.wrap (v7 + (IntKind.u64.wrap (v5'.getD ((W64 (v6 + v8)).toNat) default))))))).length)))), (6, tI v6), (7, .av (.one (.val (.int .u64 (Int.fdiv (bif decide ((v8 : Int) < ((b.length : Int))) then (IntKind.u64.wrap ((IntKind.u64.wrap (v7 + (IntKind.u64.wrap (v5'.getD ((W64 (v6 + v8)).toNat) default)))) + (IntKind.u64.wrap ((IntKind.u64.wrap (a.getD v6.toNat default)) * (IntKind.u64.wrap (b.getD v8.toNat default)))))) else (IntKind.u64.wrap (v7 + (IntKind.u64.wrap (v5'.getD ((W64 (v6 + v8)).toNat) default))))) 4294967296))))), (8, tI (W64 (v8 + 1)))], [(15, .row 1 ((v5'.set ((W64 (v6 + v8)).toNat) (IntKind.u32.wrap (bif decide ((v8 : Int) < ((b.length : Int))) then (IntKind.u64.wrap ((IntKind.u64.wrap (v7 + (IntKind.u64.wrap (v5'.getD ((W64 (v6 + v8)).toNat) default)))) + (IntKind.u64.wrap ((IntKind.u64.wrap (a.getD v6.toNat default)) * (IntKind.u64.wrap (b.getD v8.toNat default)))))) else (IntKind.u64.wrap (v7 + (IntKind.u64.wrap (v5'.getD ((W64 (v6 + v8)).toNat) default))))))).length) (rowF (fun x => [.val (.int .u32 x)]) (v5'.set ((W64 (v6 + v8)).toNat) (IntKind.u32.wrap (bif decide ((v8 : Int) < ((b.length : Int))) then (IntKind.u64.wrap ((IntKind.u64.wrap (v7 + (IntKind.u64.wrap (v5'.getD ((W64 (v6 + v8)).toNat) default)))) + (IntKind.u64.wrap ((IntKind.u64.wrap (a.getD v6.toNat default)) * (IntKind.u64.wrap (b.getD v8.toNat default)))))) else (IntKind.u64.wrap (v7 + (IntKind.u64.wrap (v5'.getD ((W64 (v6 + v8)).toNat) default)))))))) 40)]⟩ .nil (by kernel_rfl) .nil ?_
          (try rw [(show W64 (v8 + 1) = v8 + 1 from W64_id (by omega) (by omega))])
          refine ath_n ?_
          refine ⟨(n1, v5'.set ((W64 (v6 + v8)).toNat) (IntKind.u32.wrap (bif decide ((v8 : Int) < ((b.length : Int))) then (IntKind.u64.wrap ((IntKind.u64.wrap (v7 + (IntKind.u64.wrap (v5'.getD ((W64 (v6 + v8)).toNat) default)))) + (IntKind.u64.wrap ((IntKind.u64.wrap (a.getD v6.toNat default)) * (IntKind.u64.wrap (b.getD v8.toNat default)))))) else (IntKind.u64.wrap (v7 + (IntKind.u64.wrap (v5'.getD ((W64 (v6 + v8)).toNat) default)))))), Int.fdiv (bif decide ((v8 : Int) < ((b.length : Int))) then (IntKind.u64.wrap ((IntKind.u64.wrap (v7 + (IntKind.u64.wrap (v5'.getD ((W64 (v6 + v8)).toNat) default)))) + (IntKind.u64.wrap ((IntKind.u64.wrap (a.getD v6.toNat default)) * (IntKind.u64.wrap (b.getD v8.toNat default)))))) else (IntKind.u64.wrap (v7 + (IntKind.u64.wrap (v5'.getD ((W64 (v6 + v8)).toNat) default))))) 4294967296, v8 + 1), ⟨?_, ?_, (by rw [← hF1]; simp only [Ftimes_l1, h2, cond_true, cond_false])⟩, Nat.lt_succ_self _, cv_eq (by kernel_rfl)⟩
          · show ((b.length : Int) + 2 - (v8 + 1)).toNat < n1; omega
          · exact (by show tmJ a.length b.length v6 (v5'.set ((W64 (v6 + v8)).toNat) (IntKind.u32.wrap (bif decide ((v8 : Int) < ((b.length : Int))) then (IntKind.u64.wrap ((IntKind.u64.wrap (v7 + (IntKind.u64.wrap (v5'.getD ((W64 (v6 + v8)).toNat) default)))) + (IntKind.u64.wrap ((IntKind.u64.wrap (a.getD v6.toNat default)) * (IntKind.u64.wrap (b.getD v8.toNat default)))))) else (IntKind.u64.wrap (v7 + (IntKind.u64.wrap (v5'.getD ((W64 (v6 + v8)).toNat) default))))))) (Int.fdiv (bif decide ((v8 : Int) < ((b.length : Int))) then (IntKind.u64.wrap ((IntKind.u64.wrap (v7 + (IntKind.u64.wrap (v5'.getD ((W64 (v6 + v8)).toNat) default)))) + (IntKind.u64.wrap ((IntKind.u64.wrap (a.getD v6.toNat default)) * (IntKind.u64.wrap (b.getD v8.toNat default)))))) else (IntKind.u64.wrap (v7 + (IntKind.u64.wrap (v5'.getD ((W64 (v6 + v8)).toNat) default))))) 4294967296) (v8 + 1) ∧ 0 ≤ (v8 + 1) ∧ (v8 + 1) ≤ (b.length : Int) + 1 ∧ 0 ≤ (v8 + 1); (have ts := tm_step hla hlb da db hinv0.1 g1 hinv1.1 ⟨hinv1.2.1, hinv1.2.2.1⟩ h2; exact ⟨ts.1, ts.2.1, ts.2.2, ts.2.1⟩))
        · refine aw_exit <| ath_e ?_
          refine ath_e <| abl_hit ?_
          refine abl_n <| ath_n ?_
          refine aw_region eqok [] [] [] [0, 1, 5, 6] [15] [] ⟨[(0, .av (.one (lst 1 (fun x => [.val (.int .u32 x)]) a))), (1, .av (.one (lst 1 (fun x => [.val (.int .u32 x)]) b))), (5, .av (.one (.own 15 1 v5'.length))), (6, tI (W64 (v6 + 1)))], [(15, .row 1 v5'.length (rowF (fun x => [.val (.int .u32 x)]) v5') 40)]⟩ .nil (by kernel_rfl) .nil ?_
          (try rw [(show W64 (v6 + 1) = v6 + 1 from W64_id (by omega) au4)])
          refine ath_n ?_
          refine ⟨(n0, v5', v6 + 1), ⟨?_, ?_, (by rw [← hF1]; simp only [Ftimes_l1, h2, cond_true, cond_false])⟩, Nat.lt_succ_self _, cv_eq (by kernel_rfl)⟩
          · show ((a.length : Int) - (v6 + 1)).toNat < n0; omega
          · exact (by show 0 ≤ (v6 + 1) ∧ tmJ a.length b.length (v6 + 1) v5' 0 0 ∧ 0 ≤ (v6 + 1) ∧ ((v6 + 1) ≤ ((a.length : Int)) ∨ (v6 + 1) = 0); exact ⟨by omega, tm_done hinv1.1 ⟨hinv1.2.1, hinv1.2.2.1⟩, by omega, .inl (by omega)⟩)
    · have g1 := of_decide_eq_false h1
      refine aw_exit <| ath_e ?_
      refine ath_e <| abl_hit ?_
      refine ath_n <| aw_seq ?_
      refine aw_cv (Cv.trans (cv_fz (⟨[(0, .av (.one (lst 1 (fun x => [.val (.int .u32 x)]) a))), (1, .av (.one (lst 1 (fun x => [.val (.int .u32 x)]) b))), (5, .av (.one (lst 1 (fun x => [.val (.int .u32 x)]) v5))), (6, tI v6), (19, tB (decide ((v6 : Int) < ((a.length : Int)))))], []⟩) 15 1 v5.length (rowF (fun x => [.val (.int .u32 x)]) v5) 40 (K := none) (fun k x h => by cases h) (by kernel_rfl) (by kernel_rfl) (.cons ⟨rfl, rfl⟩ .nil) (by kernel_rfl)) (Cv.refl _)) ?_
      refine aw_region eqok [] [] [(68, ctrim v5)] [4] [] [Same (ctrim v5).2.1] ⟨[(4, .av (.one (lst 1 (fun x => [.val (.int .u32 x)]) (Ftrim v5))))], []⟩ (.cons (oktrim v5 au0) .nil) (by kernel_rfl) (.cons rfl .nil) <| ath_n <| aw_ret ?_
      exact ⟨_, Cv.refl _, .inl rfl, .av (.one (lst 1 (fun x => [.val (.int .u32 x)]) (Ftrim v5))), by kernel_rfl, tve_eq (by rw [← hF0]; first | (simp only [Ftimes_l0, h1, cond_true, cond_false]; done) | (simp only [Ftimes_l0, h1, cond_true, cond_false]; rfl))⟩
theorem oktimes (a : (List Int)) (b : (List Int)) (h0 : (a.length : Int) ≤ 100000) (h1 : (b.length : Int) ≤ 100000) (da : (∀ j, 0 ≤ a.getD j 0 ∧ a.getD j 0 < 4294967296)) (db : (∀ j, 0 ≤ b.getD j 0 ∧ b.getD j 0 < 4294967296)) : CallOk Try.prog (ctimes a b).1 (ctimes a b).2.1 (ctimes a b).2.2 := callOk_pure (fun _ _ => by kernel_rfl) fun _ => ptimes a b h0 h1 da db
open Go
def V : List Int → Int
  | [] => 0
  | d :: t => d + 4294967296 * V t
theorem pw_succ (n : Nat) : (4294967296 : Int) ^ (n + 1) = 4294967296 * 4294967296 ^ n := by rw [Int.pow_succ, Int.mul_comm]
theorem pw_pos (n : Nat) : (0 : Int) < 4294967296 ^ n := Int.pow_pos (by decide)
theorem V_set : ∀ (l : List Int) (k : Nat) (x : Int), k < l.length → V (l.set k x) = V l + (x - l.getD k 0) * 4294967296 ^ k
  | [], k, x, h => by simp at h
  | d :: t, 0, x, h => by
    show x + 4294967296 * V t = d + 4294967296 * V t + (x - d) * 4294967296 ^ 0
    rw [Int.pow_zero]; omega
  | d :: t, k + 1, x, h => by
    have ih := V_set t k x (by simpa using h)
    show d + 4294967296 * V (t.set k x) = d + 4294967296 * V t + (x - t.getD k 0) * 4294967296 ^ (k + 1)
    rw [ih, pw_succ]
    generalize V t = v; generalize (x - t.getD k 0) = y; generalize (4294967296 : Int) ^ k = P
    grind
theorem V_take : ∀ (l : List Int) (k : Nat), V (l.take (k + 1)) = V (l.take k) + l.getD k 0 * 4294967296 ^ k
  | [], k => by
    have e : ([] : List Int).getD k 0 = 0 := rfl
    rw [e, List.take_nil, List.take_nil, Int.zero_mul, Int.add_zero]
  | d :: t, 0 => by
    show d + 4294967296 * 0 = 0 + d * 4294967296 ^ 0
    rw [Int.pow_zero]; omega
  | d :: t, k + 1 => by
    have ih := V_take t k
    show d + 4294967296 * V (t.take (k + 1)) = d + 4294967296 * V (t.take k) + t.getD k 0 * 4294967296 ^ (k + 1)
    rw [ih, pw_succ]
    generalize V (t.take k) = v; generalize t.getD k 0 = y; generalize (4294967296 : Int) ^ k = P
    grind
theorem V_zero (n : Nat) : V (List.replicate n (0 : Int)) = 0 := by
  induction n with
  | zero => rfl
  | succ n ih => rw [List.replicate_succ]; show 0 + 4294967296 * V _ = 0; rw [ih]; rfl
def TrimOf (d t : List Int) : Prop :=
  t.length ≤ d.length ∧ (∀ j, j < t.length → t.getD j 0 = d.getD j 0) ∧ V t = V d ∧ (t.length = 0 ∨ t.getD (t.length - 1) 0 ≠ 0)
theorem getD_take (l : List Int) (m j : Nat) (h : j < m) : (l.take m).getD j 0 = l.getD j 0 := by
  simp only [List.getD_eq_getElem?_getD, List.getElem?_take, if_pos h]
theorem trim_of (d : List Int) (hd : (d.length : Int) ≤ 1000000) : TrimOf d (Ftrim d) := by
  have h : ∀ (n m : Nat), m ≤ d.length → m < n → V (d.take m) = V d → TrimOf d (Ftrim_l0 d n (d.take m)) := by
    intro n
    induction n with
    | zero => intro m _ h _; omega
    | succ n ih =>
      intro m hm hn hv
      have hl : (d.take m).length = m := by rw [List.length_take]; omega
      have base : (m = 0 ∨ (d.take m).getD (m - 1) 0 ≠ 0) → TrimOf d (d.take m) := fun hz =>
        ⟨by omega, fun j hj => getD_take _ _ _ (by omega), hv, by rw [hl]; exact hz⟩
      unfold Ftrim_l0
      rw [hl]
      by_cases h0 : (0 : Int) < (m : Int)
      · rw [decide_eq_true h0]
        simp only [cond_true]
        have e1 : (((m : Int)) - 1).toNat = m - 1 := by omega
        have e2 : (W64 (((m : Int)) - 1) : Int).toNat = m - 1 := by rw [W64_id (by omega) (by omega)]; omega
        rw [e1, e2]
        have ez : ((d.take m).getD (m - 1) (default : Int)) = (d.take m).getD (m - 1) 0 := rfl
        rw [ez]
        by_cases hq : (d.take m).getD (m - 1) 0 = 0
        · rw [decide_eq_true hq]
          simp only [cond_true]
          rw [List.take_take, Nat.min_eq_left (by omega)]
          refine ih (m - 1) (by omega) (by omega) ?_
          have := V_take d (m - 1)
          rw [show m - 1 + 1 = m by omega, hv, ← getD_take d m (m - 1) (by omega), hq, Int.zero_mul, Int.add_zero] at this
          exact this.symm
        · rw [decide_eq_false hq]
          exact base (.inr hq)
      · rw [decide_eq_false h0]
        exact base (.inl (by omega))
  have := h (d.length + 1) d.length (Nat.le_refl _) (Nat.lt_succ_self _) (by rw [List.take_length])
  rw [List.take_length] at this
  exact this
theorem times_in {a b : List Int} (h0 : (a.length : Int) ≤ 100000) (h1 : (b.length : Int) ≤ 100000) (da : ∀ j, 0 ≤ a.getD j 0 ∧ a.getD j 0 < 4294967296) (db : ∀ j, 0 ≤ b.getD j 0 ∧ b.getD j 0 < 4294967296)
    (v5 : List Int) (i : Nat) (g1 : i < a.length) (K0 : List Int → Int → List Int) (T : Int) (Q : List Int → Prop)
    (hK : ∀ out, tmJ a.length b.length ((i : Int) + 1) out 0 0 → V out = T + a.getD i 0 * 4294967296 ^ i * V b → Q (K0 out ((i : Int) + 1))) :
    ∀ (n : Nat) (out : List Int) (c : Int) (k : Nat), ((b.length : Int) + 2 - k).toNat < n → k ≤ b.length + 1 → tmJ a.length b.length i out c k →
      V out + c * (4294967296 ^ i * 4294967296 ^ k) = T + a.getD i 0 * 4294967296 ^ i * V (b.take k) → Q (Ftimes_l1 a b v5 i K0 n out c k) := by
  intro n
  induction n with
  | zero => intro _ _ _ h; omega
  | succ n ih =>
    intro out c k hn hk hJ hv
    unfold Ftimes_l1
    cases hc : (bif decide ((k : Int) < (b.length : Int)) then true else decide ((0 : Int) < c))
    · simp only [cond_false]
      have hkb : ¬ ((k : Int) < (b.length : Int)) := by
        intro q; rw [decide_eq_true q] at hc; cases hc
      rw [decide_eq_false hkb] at hc
      have hc0 : ¬ (0 : Int) < c := of_decide_eq_false hc
      have : c = 0 := by have := hJ.2.2.1; omega
      subst this
      refine hK out (tm_done hJ ⟨by omega, by omega⟩) ?_
      rw [Int.zero_mul, Int.add_zero, List.take_of_length_le (by omega)] at hv
      exact hv
    · simp only [cond_true]
      have hJ' := hJ
      obtain ⟨j1, j2, j3, j4, j5⟩ := hJ'
      have hk2 := tm_k hJ ⟨by omega, by omega⟩ hc
      have ts := tm_step h0 h1 da db (by omega) (by omega) hJ ⟨by omega, by omega⟩ hc
      have tx := tm_x (lb := b.length) (k := (k : Int)) j3 (j2 (i + k)) (da i) (db k)
      have eW : (W64 ((i : Int) + (k : Int))).toNat = i + k := by rw [W64_id (by omega) (by omega)]; omega
      have eW1 : W64 ((k : Int) + 1) = ((k + 1 : Nat) : Int) := by rw [W64_id (by omega) (by omega)]; omega
      have hX : tmX b.length c k (out.getD (i + k) 0) (a.getD i 0) (b.getD k 0) = c + out.getD (i + k) 0 + a.getD i 0 * b.getD k 0 := by
        rw [tx.1]
        split
        · rfl
        · next hq =>
          have : b.getD k 0 = 0 := by rw [List.getD_eq_getElem?_getD, List.getElem?_eq_none (by omega)]; rfl
          rw [this, Int.mul_zero, Int.add_zero]
      simp only [← tmX_eq, Int.toNat_natCast] at *
      rw [eW] at ts ⊢
      have eW2 : ((k : Int) + 1) = ((k + 1 : Nat) : Int) := by omega
      rw [eW2] at ts ⊢
      have ed : ∀ (l : List Int) (j : Nat), l.getD j (default : Int) = l.getD j 0 := fun _ _ => rfl
      simp only [ed] at *
      generalize hXX : tmX b.length c k (out.getD (i + k) 0) (a.getD i 0) (b.getD k 0) = X at *
      have hd : Int.fdiv X 4294967296 = X / 4294967296 := Int.fdiv_eq_ediv_of_nonneg _ (by decide)
      refine ih _ _ (k + 1) (by omega) (by omega) (by exact ts.1) ?_
      rw [V_set _ _ _ (by omega), V_take, hd, IntKind.wrap_u32]
      have hm : X % 4294967296 = X - 4294967296 * (X / 4294967296) := by omega
      rw [hm, pw_succ, Int.pow_add]
      generalize X / 4294967296 = Y at *
      generalize V out = vo at *; generalize V (b.take k) = vb at *; generalize (4294967296 : Int) ^ i = P at *; generalize (4294967296 : Int) ^ k = R at *
      generalize out.getD (i + k) 0 = o at *; generalize a.getD i 0 = x at *; generalize b.getD k 0 = y at *
      subst hX
      clear ts tx hm hd hXX j1 j2 j3 j4 j5 da db ih hK hJ
      grind
def TimesOf (a b t : List Int) : Prop :=
  V t = V a * V b ∧ t.length ≤ a.length + b.length + 1 ∧ (∀ j, 0 ≤ t.getD j 0 ∧ t.getD j 0 < 4294967296) ∧ (t.length = 0 ∨ t.getD (t.length - 1) 0 ≠ 0)
theorem times_of {a b : List Int} (h0 : (a.length : Int) ≤ 100000) (h1 : (b.length : Int) ≤ 100000) (da : ∀ j, 0 ≤ a.getD j 0 ∧ a.getD j 0 < 4294967296) (db : ∀ j, 0 ≤ b.getD j 0 ∧ b.getD j 0 < 4294967296) : TimesOf a b (Ftimes a b) := by
  have h : ∀ (n i : Nat) (out : List Int), ((a.length : Int) - i).toNat < n → i ≤ a.length → tmJ a.length b.length i out 0 0 → V out = V (a.take i) * V b → TimesOf a b (Ftimes_l0 a b n out i) := by
    intro n
    induction n with
    | zero => intro _ _ h; omega
    | succ n ih =>
      intro i out hn hi hJ hv
      unfold Ftimes_l0
      by_cases q : (i : Int) < (a.length : Int)
      · rw [decide_eq_true q]
        simp only [cond_true]
        refine times_in h0 h1 da db out i (by omega) _ (V (a.take i) * V b) _ (fun o2 hJ2 hv2 => ?_) _ out 0 0 (by omega) (by omega) (by exact hJ) ?_
        · refine ih (i + 1) o2 (by omega) (by omega) (by exact hJ2) ?_
          rw [hv2, V_take]
          grind
        · rw [hv]; show _ + 0 * _ = _ + _ * V []
          show _ = _ + _ * 0
          rw [Int.zero_mul, Int.mul_zero]
      · rw [decide_eq_false q]
        simp only [cond_false]
        have hJ' := hJ
        obtain ⟨j1, j2, j3, j4, j5⟩ := hJ'
        obtain ⟨t1, t2, t3, t4⟩ := trim_of out (by omega)
        refine ⟨by rw [t3, hv, List.take_of_length_le (by omega)], by omega, fun j => ?_, t4⟩
        by_cases hj : j < (Ftrim out).length
        · rw [t2 j hj]; exact j2 j
        · rw [List.getD_eq_getElem?_getD, List.getElem?_eq_none (by omega)]; decide
  unfold Ftimes
  refine h _ 0 _ (by omega) (by omega) (tm_init h0 h1) ?_
  rw [V_zero]; show 0 = 0 * _; rw [Int.zero_mul]
theorem times_len {a b : List Int} (h0 : (a.length : Int) ≤ 100000) (h1 : (b.length : Int) ≤ 100000) (da : ∀ j, 0 ≤ a.getD j 0 ∧ a.getD j 0 < 4294967296) (db : ∀ j, 0 ≤ b.getD j 0 ∧ b.getD j 0 < 4294967296) : ((Ftimes a b).length : Int) ≤ 1000000 := by
  have := (times_of h0 h1 da db).2.1
  omega
def wMulN_0 (p1 : TNum) (p2 : TNum) : Bool := bif !(FRightN p1) then true else !(FRightN p2)
def wMulN_1 (p1 : TNum) (p2 : TNum) : TNum := (FmadeN (!(p1.Neg == p2.Neg)) (Ftimes p1.D p2.D)).1
def FMulN (p1 : TNum) (p2 : TNum) : (TNum × Bool) := bif wMulN_0 p1 p2 then ((TNum.mk false [], false)) else ((wMulN_1 p1 p2, (FmadeN (!(p1.Neg == p2.Neg)) (Ftimes p1.D p2.D)).2))
def cMulN (p1 : TNum) (p2 : TNum) : FuncId × List Av × Ef := (92, [.agg (TNum.c p1), .agg (TNum.c p2)], .val [] (.tup [.agg (TNum.c ((FMulN p1 p2).1)), .one (.b ((FMulN p1 p2).2))]))
theorem pMulN (p1 : TNum) (p2 : TNum) (h0 : (p1.D.length : Int) ≤ 100000) (h1 : (p2.D.length : Int) ≤ 100000) (da : (∀ j, 0 ≤ p1.D.getD j 0 ∧ p1.D.getD j 0 < 4294967296)) (db : (∀ j, 0 ≤ p2.D.getD j 0 ∧ p2.D.getD j 0 < 4294967296)) : Pure Try.prog 92 (cMulN p1 p2).2.1 (.tup [.agg (TNum.c ((FMulN p1 p2).1)), .one (.b ((FMulN p1 p2).2))]) := by
  refine pure_of_awF Try.func92 rfl (by kernel_rfl) (by kernel_rfl) fun W0 M0 => ?_
  have htl := times_len h0 h1 da db
  refine aw_seq ?_
  refine aw_region eqok [] [] [] [2, 3, 4] [2, 3, 4] [] ⟨[(2, tP 2 0), (3, tP 3 0), (4, tP 4 0)], [(2, .cells (TNum.c p1) 118), (3, .cells (TNum.c p2) 118), (4, .cells [.b false, .val (.slice none 0 0)] 118)]⟩ .nil (by kernel_rfl) .nil <| ath_n ?_
  refine aw_seq <| aw_seq ?_
  refine aw_region eqok [] [] [(7, cRightN p1), (11, cRightN p2)] [2, 3, 4, 13] [2, 3, 4] [Same (cRightN p1).2.1, ((!(FRightN p1)) = false) → ((!(FRightN p1)) = false), ((!(FRightN p1)) = false) → (Same (cRightN p2).2.1), ((!(FRightN p1)) = false) → ((!(FRightN p1)) = false), (!(FRightN p1)) = false → ((!(FRightN p1)) = false)] ⟨[(2, tP 2 0), (3, tP 3 0), (4, tP 4 0), (13, tB (wMulN_0 p1 p2))], [(2, .cells (TNum.c p1) 118), (3, .cells (TNum.c p2) 118), (4, .cells [.b false, .val (.slice none 0 0)] 118)]⟩ (.cons (okRightN p1) (.cons (okRightN p2) .nil)) (by kernel_rfl) (.cons rfl (.cons id (.cons (fun _ => rfl) (.cons id (.cons id .nil))))) <| ath_n ?_
  refine aw_cond (wMulN_0 p1 p2) (by kernel_rfl) (fun h1 => ?_) (fun h1 => ?_)
  · refine aw_seq ?_
    refine aw_region eqok [] [] [] [4, 5] [4] [] ⟨[(4, tP 4 0), (5, tB false)], [(4, .cells [.b false, .val (.slice none 0 0)] 118)]⟩ .nil (by kernel_rfl) .nil <| ath_n ?_
    refine aw_ret <| ath_r ?_
    exact ⟨_, Cv.refl _, .inl rfl, .tup [.agg [.b false, .val (.slice none 0 0)], .one (.b false)], by kernel_rfl, tve_of (y := .tup [.agg [.b false, lst 1 (fun x => [.val (.int .u32 x)]) []], .one (.b false)]) (.tup (.cons (.agg (.cons (.refl _) (.cons (cle_nil 1 (fun x => [.val (.int .u32 x)])) .nil))) (.cons (AvE.refl _) .nil))) (by first | (simp only [FMulN, h1, cond_true, cond_false]; done) | (simp only [FMulN, h1, cond_true, cond_false]; rfl))⟩
  · refine aw_skip <| ath_n <| aw_seq ?_
    refine aw_draw mixed eqok [] [] [(24, ctimes p1.D p2.D), (25, cmadeN (!(p1.Neg == p2.Neg)) (Ftimes p1.D p2.D))] [4, 5] [4] [Same (ctimes p1.D p2.D).2.1, Same (cmadeN (!(p1.Neg == p2.Neg)) (Ftimes p1.D p2.D)).2.1] ⟨[(4, tP 4 0), (5, tB ((FmadeN (!(p1.Neg == p2.Neg)) (Ftimes p1.D p2.D)).2))], [(4, .cells (TNum.c (wMulN_1 p1 p2)) 118)]⟩ (.cons (oktimes p1.D p2.D au0 au0 au0 au0) (.cons (okmadeN (!(p1.Neg == p2.Neg)) (Ftimes p1.D p2.D) au0) .nil)) (by kernel_rfl) (by kernel_rfl) (.cons rfl (.cons rfl .nil)) <| ath_n <| aw_ret ?_
    exact ⟨_, Cv.refl _, .inl rfl, .tup [.agg (TNum.c (wMulN_1 p1 p2)), .one (.b ((FmadeN (!(p1.Neg == p2.Neg)) (Ftimes p1.D p2.D)).2))], by kernel_rfl, tve_eq (by first | (simp only [FMulN, h1, cond_true, cond_false]; done) | (simp only [FMulN, h1, cond_true, cond_false]; rfl))⟩
theorem okMulN (p1 : TNum) (p2 : TNum) (h0 : (p1.D.length : Int) ≤ 100000) (h1 : (p2.D.length : Int) ≤ 100000) (da : (∀ j, 0 ≤ p1.D.getD j 0 ∧ p1.D.getD j 0 < 4294967296)) (db : (∀ j, 0 ≤ p2.D.getD j 0 ∧ p2.D.getD j 0 < 4294967296)) : CallOk Try.prog (cMulN p1 p2).1 (cMulN p1 p2).2.1 (cMulN p1 p2).2.2 := callOk_pure (fun _ _ => by kernel_rfl) fun _ => pMulN p1 p2 h0 h1 da db
def FcompareN_l0 (p1 : (List Int)) (p2 : (List Int)) : Nat → Int → Int
  | 0, _ => default
  | n0 + 1, k => bif decide ((0 : Int) ≤ k) then (bif decide (((p1.getD k.toNat default) : Int) < (p2.getD k.toNat default)) then ((-1)) else (bif decide (((p2.getD k.toNat default) : Int) < (p1.getD k.toNat default)) then (1) else ((FcompareN_l0 p1 p2 n0) (k - 1)))) else (0)
def FcompareN (p1 : (List Int)) (p2 : (List Int)) : Int := bif !decide ((((p1.length : Int)) : Int) = ((p2.length : Int))) then (bif decide ((((p1.length : Int)) : Int) < ((p2.length : Int))) then ((-1)) else (1)) else (FcompareN_l0 p1 p2 (((W64 (((p1.length : Int)) - 1)) + 1).toNat + 1) (W64 (((p1.length : Int)) - 1)))
def ccompareN (p1 : (List Int)) (p2 : (List Int)) : FuncId × List Av × Ef := (110, [.one (lst 1 (fun x => [.val (.int .u32 x)]) p1), .one (lst 1 (fun x => [.val (.int .u32 x)]) p2)], .val [] (.av (.one (.i (FcompareN p1 p2)))))
theorem pcompareN (p1 : (List Int)) (p2 : (List Int)) (h0 : (p1.length : Int) ≤ 1000000) (h1 : (p2.length : Int) ≤ 1000000) : Pure Try.prog 110 (ccompareN p1 p2).2.1 (.av (.one (.i (FcompareN p1 p2)))) := by
  refine pure_of_awF Try.func110 rfl (by kernel_rfl) (by kernel_rfl) fun W0 M0 => ?_
  refine aw_seq ?_
  refine aw_region eqok [] [] [] [0, 1] [] [] ⟨[(0, .av (.one (lst 1 (fun x => [.val (.int .u32 x)]) p1))), (1, .av (.one (lst 1 (fun x => [.val (.int .u32 x)]) p2)))], []⟩ .nil (by kernel_rfl) .nil <| ath_n ?_
  refine aw_seq <| aw_seq ?_
  refine aw_region eqok [] [] [] [0, 1, 10] [] [] ⟨[(0, .av (.one (lst 1 (fun x => [.val (.int .u32 x)]) p1))), (1, .av (.one (lst 1 (fun x => [.val (.int .u32 x)]) p2))), (10, tB (!decide ((((p1.length : Int)) : Int) = ((p2.length : Int)))))], []⟩ .nil (by kernel_rfl) .nil <| ath_n ?_
  refine aw_cond (!decide ((((p1.length : Int)) : Int) = ((p2.length : Int)))) (by kernel_rfl) (fun h1 => ?_) (fun h1 => ?_)
  · have g1 := of_not_decide_true h1
    refine aw_seq <| aw_seq ?_
    refine aw_region eqok [] [] [] [15] [] [] ⟨[(15, tB (decide ((((p1.length : Int)) : Int) < ((p2.length : Int)))))], []⟩ .nil (by kernel_rfl) .nil <| ath_n ?_
    refine aw_cond (decide ((((p1.length : Int)) : Int) < ((p2.length : Int)))) (by kernel_rfl) (fun h2 => ?_) (fun h2 => ?_)
    · have g2 := of_decide_eq_true h2
      refine aw_seq ?_
      refine aw_region eqok [] [] [] [4] [] [] ⟨[(4, tI ((-1)))], []⟩ .nil (by kernel_rfl) .nil <| ath_n ?_
      refine aw_ret <| ath_r <| ath_r ?_
      exact ⟨_, Cv.refl _, .inl rfl, .av (.one (.i ((-1)))), by kernel_rfl, tve_eq (by first | (simp only [FcompareN, h1, h2, cond_true, cond_false]; done) | (simp only [FcompareN, h1, h2, cond_true, cond_false]; rfl))⟩
    · have g2 := of_decide_eq_false h2
      refine aw_skip <| ath_n <| aw_seq ?_
      refine aw_region eqok [] [] [] [4] [] [] ⟨[(4, tI 1)], []⟩ .nil (by kernel_rfl) .nil <| ath_n ?_
      refine aw_ret <| ath_r ?_
      exact ⟨_, Cv.refl _, .inl rfl, .av (.one (.i 1)), by kernel_rfl, tve_eq (by first | (simp only [FcompareN, h1, h2, cond_true, cond_false]; done) | (simp only [FcompareN, h1, h2, cond_true, cond_false]; rfl))⟩
  · have g1 := of_not_decide_false h1
    refine aw_skip <| ath_n ?_
    refine aw_seq <| aw_seq ?_
    refine aw_region eqok [] [] [] [0, 1, 5] [] [] ⟨[(0, .av (.one (lst 1 (fun x => [.val (.int .u32 x)]) p1))), (1, .av (.one (lst 1 (fun x => [.val (.int .u32 x)]) p2))), (5, tI (W64 (((p1.length : Int)) - 1)))], []⟩ .nil (by kernel_rfl) .nil <| ath_n <| aw_block ?_
    refine aw_loopC (ι := Nat × Int) (fun x => ⟨[(0, .av (.one (lst 1 (fun x => [.val (.int .u32 x)]) p1))), (1, .av (.one (lst 1 (fun x => [.val (.int .u32 x)]) p2))), (5, tI x.2)], []⟩) (fun x => (x.2 + 1).toNat < x.1 ∧ (-1 ≤ x.2 ∧ x.2 < (p1.length : Int)) ∧ FcompareN_l0 p1 p2 x.1 x.2 = FcompareN p1 p2) (fun x => x.1) ?_ (((W64 (((p1.length : Int)) - 1)) + 1).toNat + 1, W64 (((p1.length : Int)) - 1)) ⟨Nat.lt_succ_self _, (by show -1 ≤ (W64 (((p1.length : Int)) - 1)) ∧ (W64 (((p1.length : Int)) - 1)) < (p1.length : Int); (simp only [W64_def]; omega)), (by simp only [FcompareN, h1, cond_true, cond_false])⟩
    rintro ⟨n0, k⟩ ⟨hn, hinv, hF⟩
    have hm0 : (k + 1).toNat < n0 := hn; have hinv0 : -1 ≤ k ∧ k < (p1.length : Int) := hinv; have hF0 : FcompareN_l0 p1 p2 n0 k = FcompareN p1 p2 := hF; clear hn hinv hF
    cases n0 with
    | zero => exact absurd hm0 (Nat.not_lt_zero _)
    | succ n0 =>
      refine aw_seq <| aw_seq ?_
      refine aw_region eqok [] [] [] [0, 1, 5, 20] [] [] ⟨[(0, .av (.one (lst 1 (fun x => [.val (.int .u32 x)]) p1))), (1, .av (.one (lst 1 (fun x => [.val (.int .u32 x)]) p2))), (5, tI k), (20, tB (decide ((0 : Int) ≤ k)))], []⟩ .nil (by kernel_rfl) .nil <| ath_n ?_
      refine aw_cond (decide ((0 : Int) ≤ k)) (by kernel_rfl) (fun h2 => ?_) (fun h2 => ?_)
      · have g2 := of_decide_eq_true h2
        refine aw_skip <| ath_n ?_
        refine aw_seq <| aw_block ?_
        refine aw_seq <| aw_seq ?_
        refine aw_draw mixed eqok [] [] [] [0, 1, 5, 31] [] [0 ≤ (k : Int) ∧ (k : Int) < ((p1.length : Nat) : Int), 0 ≤ (k : Int) ∧ (k : Int) < ((p2.length : Nat) : Int)] ⟨[(0, .av (.one (lst 1 (fun x => [.val (.int .u32 x)]) p1))), (1, .av (.one (lst 1 (fun x => [.val (.int .u32 x)]) p2))), (5, tI k), (31, tB (decide (((p1.getD k.toNat default) : Int) < (p2.getD k.toNat default))))], []⟩ .nil (by kernel_rfl) (by kernel_rfl) (.cons au1 (.cons au1 .nil)) <| ath_n ?_
        refine aw_cond (decide (((p1.getD k.toNat default) : Int) < (p2.getD k.toNat default))) (by kernel_rfl) (fun h3 => ?_) (fun h3 => ?_)
        · have g3 := of_decide_eq_true h3
          refine aw_seq ?_
          refine aw_region eqok [] [] [] [4] [] [] ⟨[(4, tI ((-1)))], []⟩ .nil (by kernel_rfl) .nil <| ath_n ?_
          refine aw_ret <| ath_r ?_
          refine abl_r <| ath_r ?_
          refine ath_r <| abl_r <| ath_r ?_
          exact ⟨_, Cv.refl _, .inl rfl, .av (.one (.i ((-1)))), by kernel_rfl, tve_eq (by rw [← hF0]; first | (simp only [FcompareN_l0, h2, h3, cond_true, cond_false]; done) | (simp only [FcompareN_l0, h2, h3, cond_true, cond_false]; rfl))⟩
        · have g3 := of_decide_eq_false h3
          refine aw_skip <| ath_n <| aw_seq ?_
          refine aw_draw mixed eqok [] [] [] [0, 1, 5, 40] [] [0 ≤ (k : Int) ∧ (k : Int) < ((p1.length : Nat) : Int), 0 ≤ (k : Int) ∧ (k : Int) < ((p2.length : Nat) : Int)] ⟨[(0, .av (.one (lst 1 (fun x => [.val (.int .u32 x)]) p1))), (1, .av (.one (lst 1 (fun x => [.val (.int .u32 x)]) p2))), (5, tI k), (40, tB (decide (((p2.getD k.toNat default) : Int) < (p1.getD k.toNat default))))], []⟩ .nil (by kernel_rfl) (by kernel_rfl) (.cons au1 (.cons au1 .nil)) <| ath_n ?_
          refine aw_cond (decide (((p2.getD k.toNat default) : Int) < (p1.getD k.toNat default))) (by kernel_rfl) (fun h4 => ?_) (fun h4 => ?_)
          · have g4 := of_decide_eq_true h4
            refine aw_seq ?_
            refine aw_region eqok [] [] [] [4] [] [] ⟨[(4, tI 1)], []⟩ .nil (by kernel_rfl) .nil <| ath_n ?_
            refine aw_ret <| abl_r ?_
            refine ath_r <| ath_r ?_
            refine abl_r <| ath_r ?_
            exact ⟨_, Cv.refl _, .inl rfl, .av (.one (.i 1)), by kernel_rfl, tve_eq (by rw [← hF0]; first | (simp only [FcompareN_l0, h2, h3, h4, cond_true, cond_false]; done) | (simp only [FcompareN_l0, h2, h3, h4, cond_true, cond_false]; rfl))⟩
          · have g4 := of_decide_eq_false h4
            refine aw_skip <| abl_n <| ath_n ?_
            refine aw_region eqok [] [] [] [0, 1, 5] [] [] ⟨[(0, .av (.one (lst 1 (fun x => [.val (.int .u32 x)]) p1))), (1, .av (.one (lst 1 (fun x => [.val (.int .u32 x)]) p2))), (5, tI (W64 (k - 1)))], []⟩ .nil (by kernel_rfl) .nil ?_
            (try rw [(show W64 (k - 1) = k - 1 from W64_id (by omega) (by omega))])
            refine ath_n ?_
            refine ⟨(n0, k - 1), ⟨?_, ?_, (by rw [← hF0]; simp only [FcompareN_l0, h2, h3, h4, cond_true, cond_false])⟩, Nat.lt_succ_self _, cv_eq (by kernel_rfl)⟩
            · show ((k - 1) + 1).toNat < n0; omega
            · exact ⟨(by show -1 ≤ (k - 1); first | trivial | omega | (simp only [List.length_append, List.length_cons, List.length_nil]; omega) | (simp only [List.length_set, List.length_append, List.length_cons, List.length_nil]; omega) | (simp only [W64_def]; omega) | (simp; omega) | simp), (by show (k - 1) < (p1.length : Int); first | trivial | omega | (simp only [List.length_append, List.length_cons, List.length_nil]; omega) | (simp only [List.length_set, List.length_append, List.length_cons, List.length_nil]; omega) | (simp only [W64_def]; omega) | (simp; omega) | simp)⟩
      · have g2 := of_decide_eq_false h2
        refine aw_exit <| ath_e ?_
        refine ath_e <| abl_hit ?_
        refine ath_n <| aw_seq ?_
        refine aw_region eqok [] [] [] [4] [] [] ⟨[(4, tI 0)], []⟩ .nil (by kernel_rfl) .nil <| ath_n <| aw_ret ?_
        exact ⟨_, Cv.refl _, .inl rfl, .av (.one (.i 0)), by kernel_rfl, tve_eq (by rw [← hF0]; first | (simp only [FcompareN_l0, h2, cond_true, cond_false]; done) | (simp only [FcompareN_l0, h2, cond_true, cond_false]; rfl))⟩
theorem okcompareN (p1 : (List Int)) (p2 : (List Int)) (h0 : (p1.length : Int) ≤ 1000000) (h1 : (p2.length : Int) ≤ 1000000) : CallOk Try.prog (ccompareN p1 p2).1 (ccompareN p1 p2).2.1 (ccompareN p1 p2).2.2 := callOk_pure (fun _ _ => by kernel_rfl) fun _ => pcompareN p1 p2 h0 h1
def wCmpN_0 (p1 : TNum) : Bool := FRightN p1
def wCmpN_1 (p1 : TNum) : Bool := !(wCmpN_0 p1)
def wCmpN_2 (p1 : TNum) : Bool := wCmpN_1 p1
def wCmpN_3 (p1 : TNum) (p2 : TNum) : Bool := bif wCmpN_2 p1 then true else !(FRightN p2)
def wCmpN_4 (p1 : TNum) (p2 : TNum) : Bool := !(p1.Neg == p2.Neg)
def FCmpN (p1 : TNum) (p2 : TNum) : Int := bif wCmpN_3 p1 p2 then (0) else (bif wCmpN_4 p1 p2 then (bif p1.Neg then ((-1)) else (1)) else (bif p1.Neg then (FcompareN p2.D p1.D) else (FcompareN p1.D p2.D)))
def cCmpN (p1 : TNum) (p2 : TNum) : FuncId × List Av × Ef := (94, [.agg (TNum.c p1), .agg (TNum.c p2)], .val [] (.av (.one (.i (FCmpN p1 p2)))))
theorem pCmpN (p1 : TNum) (p2 : TNum) (h0 : (p1.D.length : Int) ≤ 1000000) (h1 : (p2.D.length : Int) ≤ 1000000) : Pure Try.prog 94 (cCmpN p1 p2).2.1 (.av (.one (.i (FCmpN p1 p2)))) := by
  refine pure_of_awF Try.func94 rfl (by kernel_rfl) (by kernel_rfl) fun W0 M0 => ?_
  refine aw_seq ?_
  refine aw_region eqok [] [] [] [2, 3] [2, 3] [] ⟨[(2, tP 2 0), (3, tP 3 0)], [(2, .cells (TNum.c p1) 118), (3, .cells (TNum.c p2) 118)]⟩ .nil (by kernel_rfl) .nil <| ath_n ?_
  refine aw_seq <| aw_seq ?_
  refine aw_region eqok [] [] [(6, cRightN p1), (10, cRightN p2)] [2, 3, 12] [2, 3] [Same (cRightN p1).2.1, ((wCmpN_2 p1) = false) → ((wCmpN_2 p1) = false), ((wCmpN_2 p1) = false) → (Same (cRightN p2).2.1), ((wCmpN_2 p1) = false) → ((wCmpN_2 p1) = false), (wCmpN_2 p1) = false → ((wCmpN_2 p1) = false)] ⟨[(2, tP 2 0), (3, tP 3 0), (12, tB (wCmpN_3 p1 p2))], [(2, .cells (TNum.c p1) 118), (3, .cells (TNum.c p2) 118)]⟩ (.cons (okRightN p1) (.cons (okRightN p2) .nil)) (by kernel_rfl) (.cons rfl (.cons id (.cons (fun _ => rfl) (.cons id (.cons id .nil))))) <| ath_n ?_
  refine aw_cond (wCmpN_3 p1 p2) (by kernel_rfl) (fun h1 => ?_) (fun h1 => ?_)
  · refine aw_seq ?_
    refine aw_region eqok [] [] [] [4] [] [] ⟨[(4, tI 0)], []⟩ .nil (by kernel_rfl) .nil <| ath_n ?_
    refine aw_ret <| ath_r ?_
    exact ⟨_, Cv.refl _, .inl rfl, .av (.one (.i 0)), by kernel_rfl, tve_eq (by first | (simp only [FCmpN, h1, cond_true, cond_false]; done) | (simp only [FCmpN, h1, cond_true, cond_false]; rfl))⟩
  · refine aw_skip <| ath_n ?_
    refine aw_seq <| aw_seq ?_
    refine aw_region eqok [] [] [] [2, 3, 17] [2, 3] [] ⟨[(2, tP 2 0), (3, tP 3 0), (17, tB (wCmpN_4 p1 p2))], [(2, .cells (TNum.c p1) 118), (3, .cells (TNum.c p2) 118)]⟩ .nil (by kernel_rfl) .nil <| ath_n ?_
    refine aw_cond (wCmpN_4 p1 p2) (by kernel_rfl) (fun h2 => ?_) (fun h2 => ?_)
    · refine aw_seq <| aw_seq ?_
      refine aw_region eqok [] [] [] [19] [] [] ⟨[(19, tB p1.Neg)], []⟩ .nil (by kernel_rfl) .nil <| ath_n ?_
      refine aw_cond (p1.Neg) (by kernel_rfl) (fun h3 => ?_) (fun h3 => ?_)
      · refine aw_seq ?_
        refine aw_region eqok [] [] [] [4] [] [] ⟨[(4, tI ((-1)))], []⟩ .nil (by kernel_rfl) .nil <| ath_n ?_
        refine aw_ret <| ath_r <| ath_r ?_
        exact ⟨_, Cv.refl _, .inl rfl, .av (.one (.i ((-1)))), by kernel_rfl, tve_eq (by first | (simp only [FCmpN, h1, h2, h3, cond_true, cond_false]; done) | (simp only [FCmpN, h1, h2, h3, cond_true, cond_false]; rfl))⟩
      · refine aw_skip <| ath_n <| aw_seq ?_
        refine aw_region eqok [] [] [] [4] [] [] ⟨[(4, tI 1)], []⟩ .nil (by kernel_rfl) .nil <| ath_n ?_
        refine aw_ret <| ath_r ?_
        exact ⟨_, Cv.refl _, .inl rfl, .av (.one (.i 1)), by kernel_rfl, tve_eq (by first | (simp only [FCmpN, h1, h2, h3, cond_true, cond_false]; done) | (simp only [FCmpN, h1, h2, h3, cond_true, cond_false]; rfl))⟩
    · refine aw_skip <| ath_n ?_
      refine aw_seq <| aw_seq ?_
      refine aw_region eqok [] [] [] [2, 3, 21] [2, 3] [] ⟨[(2, tP 2 0), (3, tP 3 0), (21, tB p1.Neg)], [(2, .cells (TNum.c p1) 118), (3, .cells (TNum.c p2) 118)]⟩ .nil (by kernel_rfl) .nil <| ath_n ?_
      refine aw_cond (p1.Neg) (by kernel_rfl) (fun h3 => ?_) (fun h3 => ?_)
      · refine aw_seq ?_
        refine aw_region eqok [] [] [(26, ccompareN p2.D p1.D)] [4] [] [Same (ccompareN p2.D p1.D).2.1] ⟨[(4, tI (FcompareN p2.D p1.D))], []⟩ (.cons (okcompareN p2.D p1.D au0 au0) .nil) (by kernel_rfl) (.cons rfl .nil) <| ath_n ?_
        refine aw_ret <| ath_r ?_
        exact ⟨_, Cv.refl _, .inl rfl, .av (.one (.i (FcompareN p2.D p1.D))), by kernel_rfl, tve_eq (by first | (simp only [FCmpN, h1, h2, h3, cond_true, cond_false]; done) | (simp only [FCmpN, h1, h2, h3, cond_true, cond_false]; rfl))⟩
      · refine aw_skip <| ath_n <| aw_seq ?_
        refine aw_region eqok [] [] [(31, ccompareN p1.D p2.D)] [4] [] [Same (ccompareN p1.D p2.D).2.1] ⟨[(4, tI (FcompareN p1.D p2.D))], []⟩ (.cons (okcompareN p1.D p2.D au0 au0) .nil) (by kernel_rfl) (.cons rfl .nil) <| ath_n <| aw_ret ?_
        exact ⟨_, Cv.refl _, .inl rfl, .av (.one (.i (FcompareN p1.D p2.D))), by kernel_rfl, tve_eq (by first | (simp only [FCmpN, h1, h2, h3, cond_true, cond_false]; done) | (simp only [FCmpN, h1, h2, h3, cond_true, cond_false]; rfl))⟩
theorem okCmpN (p1 : TNum) (p2 : TNum) (h0 : (p1.D.length : Int) ≤ 1000000) (h1 : (p2.D.length : Int) ≤ 1000000) : CallOk Try.prog (cCmpN p1 p2).1 (cCmpN p1 p2).2.1 (cCmpN p1 p2).2.2 := callOk_pure (fun _ _ => by kernel_rfl) fun _ => pCmpN p1 p2 h0 h1
open Go
def Dg (l : List Int) : Prop := ∀ j, 0 ≤ l.getD j 0 ∧ l.getD j 0 < 4294967296
def OkN (x : TNum) (n : Int) (L : Nat) : Prop :=
  x.D.length ≤ L ∧ Dg x.D ∧ (x.D.length = 0 → x.Neg = false) ∧ (x.D.length = 0 ∨ x.D.getD (x.D.length - 1) 0 ≠ 0) ∧
    (if x.Neg = true then - V x.D else V x.D) = n
theorem V_range : ∀ (l : List Int), Dg l → 0 ≤ V l ∧ V l < 4294967296 ^ l.length
  | [], _ => by constructor <;> decide
  | d :: t, h => by
    have ih := V_range t (fun j => h (j + 1))
    have h0 := h 0
    have e0 : (d :: t).getD 0 0 = d := rfl
    rw [e0] at h0
    show 0 ≤ d + 4294967296 * V t ∧ d + 4294967296 * V t < 4294967296 ^ (t.length + 1)
    rw [pw_succ]
    omega
theorem V_low (l : List Int) (h : Dg l) (hl : l.getD (l.length - 1) 0 ≠ 0) (hn : l.length ≠ 0) : 4294967296 ^ (l.length - 1) ≤ V l := by
  have e := V_take l (l.length - 1)
  rw [show l.length - 1 + 1 = l.length by omega, List.take_length] at e
  have hr := V_range (l.take (l.length - 1)) (fun j => by
    by_cases hj : j < l.length - 1
    · rw [getD_take _ _ _ hj]; exact h j
    · rw [List.getD_eq_getElem?_getD, List.getElem?_eq_none (by rw [List.length_take]; omega)]; decide)
  have hd := h (l.length - 1)
  have hp := pw_pos (l.length - 1)
  have : 1 * 4294967296 ^ (l.length - 1) ≤ l.getD (l.length - 1) 0 * 4294967296 ^ (l.length - 1) := Int.mul_le_mul_of_nonneg_right (by omega) (by omega)
  omega
theorem pw_mono {m n : Nat} (h : m ≤ n) : (4294967296 : Int) ^ m ≤ 4294967296 ^ n := by
  induction n with
  | zero => rw [Nat.le_zero.mp h]; exact Int.le_refl _
  | succ n ih =>
    by_cases q : m = n + 1
    · rw [q]; exact Int.le_refl _
    · have := ih (by omega)
      have hp := pw_pos n
      rw [pw_succ]
      omega
def Says (r a c : Int) : Prop := (r = -1 ∧ a < c) ∨ (r = 0 ∧ a = c) ∨ (r = 1 ∧ c < a)
theorem compare_says {p q : List Int} (hp : Dg p) (hq : Dg q) (lp : p.length = 0 ∨ p.getD (p.length - 1) 0 ≠ 0) (lq : q.length = 0 ∨ q.getD (q.length - 1) 0 ≠ 0) (hl : (p.length : Int) ≤ 1000000) :
    Says (FcompareN p q) (V p) (V q) := by
  have hloop : ∀ (n k : Nat), k < n → Says (FcompareN_l0 p q n ((k : Int) - 1)) (V (p.take k)) (V (q.take k)) := by
    intro n
    induction n with
    | zero => intro k h; omega
    | succ n ih =>
      intro k hk
      unfold FcompareN_l0
      cases k with
      | zero => exact .inr (.inl ⟨rfl, rfl⟩)
      | succ k =>
        have e1 : (((k + 1 : Nat) : Int) - 1) = (k : Int) := by omega
        rw [e1, decide_eq_true (show (0 : Int) ≤ (k : Int) by omega)]
        simp only [cond_true, Int.toNat_natCast]
        have ed : ∀ (l : List Int) (j : Nat), l.getD j (default : Int) = l.getD j 0 := fun _ _ => rfl
        simp only [ed, V_take]
        have hr : ∀ {l : List Int}, Dg l → 0 ≤ V (l.take k) ∧ V (l.take k) < 4294967296 ^ k := fun {l} h => by
          have := V_range (l.take k) (fun j => by
            by_cases hj : j < k
            · rw [getD_take _ _ _ hj]; exact h j
            · rw [List.getD_eq_getElem?_getD, List.getElem?_eq_none (by rw [List.length_take]; omega)]; decide)
          have h2 := pw_mono (m := (l.take k).length) (n := k) (by rw [List.length_take]; omega)
          omega
        have rp := hr hp
        have rq := hr hq
        have ihk := ih k (by omega)
        generalize V (p.take k) = a at *; generalize V (q.take k) = c at *
        generalize p.getD k 0 = x at *; generalize q.getD k 0 = y at *
        have hP := pw_pos k
        generalize (4294967296 : Int) ^ k = P at *
        by_cases h1 : x < y
        · rw [decide_eq_true h1]
          refine .inl ⟨rfl, ?_⟩
          have : (x + 1) * P ≤ y * P := Int.mul_le_mul_of_nonneg_right (by omega) (by omega)
          rw [Int.add_mul] at this
          omega
        · rw [decide_eq_false h1]
          simp only [cond_false]
          by_cases h2 : y < x
          · rw [decide_eq_true h2]
            refine .inr (.inr ⟨rfl, ?_⟩)
            have : (y + 1) * P ≤ x * P := Int.mul_le_mul_of_nonneg_right (by omega) (by omega)
            rw [Int.add_mul] at this
            omega
          · rw [decide_eq_false h2]
            simp only [cond_false]
            have : x = y := by omega
            subst this
            rcases ihk with ⟨e, h⟩ | ⟨e, h⟩ | ⟨e, h⟩
            · exact .inl ⟨e, by omega⟩
            · exact .inr (.inl ⟨e, by omega⟩)
            · exact .inr (.inr ⟨e, by omega⟩)
  unfold FcompareN
  have vp := V_range p hp
  have vq := V_range q hq
  by_cases h : ((p.length : Int)) = (q.length : Int)
  · rw [decide_eq_true h]
    simp only [Bool.not_true, cond_false]
    have e : W64 (((p.length : Int)) - 1) = (p.length : Int) - 1 := W64_id (by omega) (by omega)
    rw [e]
    have := hloop (((((p.length : Int)) - 1) + 1).toNat + 1) p.length (by omega)
    rw [List.take_length, List.take_of_length_le (show q.length ≤ p.length by omega)] at this
    exact this
  · rw [decide_eq_false h]
    simp only [Bool.not_false, cond_true]
    by_cases h1 : ((p.length : Int)) < (q.length : Int)
    · rw [decide_eq_true h1]
      refine .inl ⟨rfl, ?_⟩
      have := V_low q hq (by omega) (by omega)
      have := pw_mono (m := p.length) (n := q.length - 1) (by omega)
      omega
    · rw [decide_eq_false h1]
      refine .inr (.inr ⟨rfl, ?_⟩)
      have := V_low p hp (by omega) (by omega)
      have := pw_mono (m := q.length) (n := p.length - 1) (by omega)
      omega
theorem right_ok {x : TNum} {n : Int} {L : Nat} (h : OkN x n L) (hL : L ≤ 64) : FRightN x = true := by
  obtain ⟨h1, h2, h3, h4, h5⟩ := h
  unfold FRightN
  rw [decide_eq_true (show ((x.D.length : Int)) ≤ 64 by omega)]
  simp only [cond_true]
  by_cases q : x.D.length = 0
  · rw [decide_eq_true (show ((x.D.length : Int)) = 0 by omega), h3 q]; rfl
  · rw [decide_eq_false (show ¬ ((x.D.length : Int)) = 0 by omega), decide_eq_true (show (0 : Int) < ((x.D.length : Int)) by omega)]
    simp only [cond_true, cond_false]
    have e : (W64 (((x.D.length : Int)) - 1)).toNat = x.D.length - 1 := by rw [W64_id (by omega) (by omega)]; omega
    rw [e]
    have h6 : ¬ x.D.getD (x.D.length - 1) (default : Int) = 0 := by
      rcases h4 with h | h
      · exact absurd h q
      · exact h
    rw [decide_eq_false h6]; rfl
theorem cmp_ok {a b : TNum} {x y : Int} {L M : Nat} (ha : OkN a x L) (hb : OkN b y M) (hL : L ≤ 64) (hM : M ≤ 64) : FCmpN a b ≤ 0 ↔ x ≤ y := by
  have ra := right_ok ha hL
  have rb := right_ok hb hM
  obtain ⟨a1, a2, a3, a4, a5⟩ := ha
  obtain ⟨b1, b2, b3, b4, b5⟩ := hb
  have s1 := compare_says a2 b2 a4 b4 (by omega)
  have s2 := compare_says b2 a2 b4 a4 (by omega)
  have va := V_range _ a2
  have vb := V_range _ b2
  simp only [FCmpN, wCmpN_0, wCmpN_1, wCmpN_2, wCmpN_3, wCmpN_4, ra, rb, Bool.not_true, cond_false]
  cases hn : a.Neg <;> cases hm : b.Neg <;> simp only [hn, hm, Bool.not_true, Bool.not_false, cond_true, cond_false, BEq.rfl, if_true, Bool.false_eq_true, if_false] at a5 b5 ⊢
  · unfold Says at s1; omega
  · show (1 : Int) ≤ 0 ↔ x ≤ y
    have : b.D.length ≠ 0 := fun q => by rw [b3 q] at hm; cases hm
    have := V_low _ b2 (by omega) this
    have := pw_pos (b.D.length - 1)
    omega
  · show (-1 : Int) ≤ 0 ↔ x ≤ y
    omega
  · unfold Says at s2; omega
theorem made_ok {neg : Bool} {d : List Int} {v : Int} (hd : Dg d) (hl : d.length ≤ 64) (hv : (if neg = true then - V d else V d) = v) : OkN (FmadeN neg d).1 v d.length := by
  obtain ⟨t1, t2, t3, t4⟩ := trim_of d (by omega)
  unfold FmadeN
  rw [decide_eq_false (show ¬ (64 : Int) < ((Ftrim d).length : Int) by omega)]
  simp only [cond_false]
  by_cases q : (Ftrim d).length = 0
  · rw [decide_eq_true (show ((Ftrim d).length : Int) = 0 by omega)]
    simp only [cond_true]
    have : V d = 0 := by
      rw [← t3, List.length_eq_zero_iff.mp q]; rfl
    rw [this] at hv
    refine ⟨Nat.zero_le _, fun j => by show (0 : Int) ≤ 0 ∧ (0 : Int) < 4294967296; decide, fun _ => rfl, .inl rfl, ?_⟩
    rw [← hv]; cases neg <;> rfl
  · rw [decide_eq_false (show ¬ ((Ftrim d).length : Int) = 0 by omega)]
    simp only [cond_false]
    refine ⟨t1, fun j => ?_, fun h => absurd h q, t4, by rw [t3]; exact hv⟩
    show 0 ≤ (Ftrim d).getD j 0 ∧ (Ftrim d).getD j 0 < 4294967296
    by_cases hj : j < (Ftrim d).length
    · rw [t2 j hj]; exact hd j
    · rw [List.getD_eq_getElem?_getD, List.getElem?_eq_none (by omega)]; decide
theorem of_ok {x : Int} (h : -9223372036854775808 ≤ x ∧ x ≤ 9223372036854775807) : OkN (FOfN x) x 2 := by
  unfold FOfN wOfN_0
  generalize hm : (bif decide (x < 0) then IntKind.u64.wrap (0 - IntKind.u64.wrap x) else IntKind.u64.wrap x) = m
  have hm2 : m = if x < 0 then -x else x := by
    rw [← hm]
    simp only [IntKind.wrap_u64]
    by_cases q : x < 0
    · rw [decide_eq_true q, if_pos q]; simp only [cond_true]; omega
    · rw [decide_eq_false q, if_neg q]; simp only [cond_false]; omega
  have hb : 0 ≤ m ∧ m ≤ 9223372036854775808 := by rw [hm2]; split <;> omega
  have hd : Int.fdiv m 4294967296 = m / 4294967296 := Int.fdiv_eq_ediv_of_nonneg _ (by decide)
  rw [hd, IntKind.wrap_u32, IntKind.wrap_u32]
  refine made_ok (fun j => ?_) (by simp) ?_
  · match j with
    | 0 => show 0 ≤ m % 4294967296 ∧ m % 4294967296 < 4294967296; omega
    | 1 => show 0 ≤ m / 4294967296 % 4294967296 ∧ m / 4294967296 % 4294967296 < 4294967296; omega
    | _ + 2 => show (0 : Int) ≤ 0 ∧ (0 : Int) < 4294967296; decide
  · have e : V [m % 4294967296, m / 4294967296 % 4294967296] = m := by
      show m % 4294967296 + 4294967296 * (m / 4294967296 % 4294967296 + 4294967296 * 0) = m
      omega
    rw [e, hm2]
    by_cases q : x < 0
    · rw [if_pos q, decide_eq_true q, if_pos rfl]; omega
    · rw [if_neg q, decide_eq_false q]; simp
theorem mul_ok {a b : TNum} {x y : Int} {L M : Nat} (ha : OkN a x L) (hb : OkN b y M) (hL : L + M ≤ 60) : OkN (FMulN a b).1 (x * y) (L + M + 1) := by
  have ra := right_ok ha (by omega)
  have rb := right_ok hb (by omega)
  obtain ⟨a1, a2, a3, a4, a5⟩ := ha
  obtain ⟨b1, b2, b3, b4, b5⟩ := hb
  obtain ⟨t1, t2, t3, t4⟩ := times_of (a := a.D) (b := b.D) (by omega) (by omega) a2 b2
  simp only [FMulN, wMulN_0, wMulN_1, ra, rb, Bool.not_true, cond_false]
  have h := made_ok (neg := !(a.Neg == b.Neg)) (v := x * y) t3 (by omega) (by
    rw [t1]
    cases hn : a.Neg <;> cases hm : b.Neg <;> simp only [hn, hm, if_true, Bool.false_eq_true, if_false, BEq.rfl, Bool.not_true] at a5 b5 ⊢ <;> subst a5 <;> subst b5
    all_goals (generalize V a.D = A; generalize V b.D = B; first | rfl | grind))
  obtain ⟨h1, h2, h3, h4, h5⟩ := h
  exact ⟨by omega, h2, h3, h4, h5⟩
theorem of_dg (x : Int) : ((FOfN x).D.length : Int) ≤ 100000 ∧ ∀ j, 0 ≤ (FOfN x).D.getD j 0 ∧ (FOfN x).D.getD j 0 < 4294967296 := by
  obtain ⟨n, h⟩ : ∃ n, OkN (FOfN x) n 2 := by
    unfold FOfN wOfN_0
    refine ⟨_, made_ok (fun j => ?_) (by simp) rfl⟩
    match j with
    | 0 => show 0 ≤ IntKind.u32.wrap _ ∧ IntKind.u32.wrap _ < 4294967296; rw [IntKind.wrap_u32]; omega
    | 1 => show 0 ≤ IntKind.u32.wrap _ ∧ IntKind.u32.wrap _ < 4294967296; rw [IntKind.wrap_u32]; omega
    | _ + 2 => show (0 : Int) ≤ 0 ∧ (0 : Int) < 4294967296; decide
  have := h.1
  exact ⟨by omega, h.2.1⟩
theorem mul_len (a b : TNum) : ((FMulN a b).1.D.length : Int) ≤ 1000000 := by
  unfold FMulN wMulN_1 FmadeN
  cases wMulN_0 a b
  · simp only [cond_false]
    by_cases h : (64 : Int) < ((Ftrim (Ftimes a.D b.D)).length : Int)
    · rw [decide_eq_true h]; simp
    · rw [decide_eq_false h]
      simp only [cond_false]
      cases decide (((Ftrim (Ftimes a.D b.D)).length : Int) = 0)
      · show ((Ftrim (Ftimes a.D b.D)).length : Int) ≤ 1000000; omega
      · simp
  · simp
def FsquareN (x0 : Int) : TNum := (FMulN (FOfN x0) (FOfN x0)).1
def csquareN (x0 : Int) : FuncId × List Av × Ef := (95, [.one (.i x0)], .val [] (.av (.agg (TNum.c (FsquareN x0)))))
theorem psquareN (x0 : Int) : Pure Try.prog 95 (csquareN x0).2.1 (.av (.agg (TNum.c (FsquareN x0)))) := by
  refine pure_of_awF Try.func95 rfl (by kernel_rfl) (by kernel_rfl) fun W0 M0 => ?_
  have q1 := (of_dg x0).1
  have q2 := (of_dg x0).2
  refine aw_seq ?_
  refine aw_region eqok [] [] [] [0, 2] [2] [] ⟨[(0, tI x0), (2, tP 2 0)], [(2, .cells [.b false, .val (.slice none 0 0)] 118)]⟩ .nil (by kernel_rfl) .nil <| ath_n <| aw_seq ?_
  refine aw_region eqok [] [] [(7, cOfN x0)] [2, 3] [2, 3] [Same (cOfN x0).2.1] ⟨[(2, tP 2 0), (3, tP 3 0)], [(2, .cells [.b false, .val (.slice none 0 0)] 118), (3, .cells (TNum.c (FOfN x0)) 118)]⟩ (.cons (okOfN x0) .nil) (by kernel_rfl) (.cons rfl .nil) <| ath_n <| aw_seq ?_
  refine aw_region eqok [] [] [(11, cMulN (FOfN x0) (FOfN x0))] [2, 4] [2, 4] [Same (cMulN (FOfN x0) (FOfN x0)).2.1] ⟨[(2, tP 2 0), (4, tP 4 0)], [(2, .cells [.b false, .val (.slice none 0 0)] 118), (4, .cells (TNum.c ((FMulN (FOfN x0) (FOfN x0)).1)) 118)]⟩ (.cons (okMulN (FOfN x0) (FOfN x0) au0 au0 au0 au0) .nil) (by kernel_rfl) (.cons rfl .nil) <| ath_n <| aw_seq ?_
  refine aw_region eqok [] [] [] [2] [2] [] ⟨[(2, tP 2 0)], [(2, .cells (TNum.c ((FMulN (FOfN x0) (FOfN x0)).1)) 118)]⟩ .nil (by kernel_rfl) .nil <| ath_n <| aw_ret ?_
  exact ⟨_, Cv.refl _, .inl rfl, .av (.agg (TNum.c ((FMulN (FOfN x0) (FOfN x0)).1))), by kernel_rfl, tve_eq (by rfl)⟩
theorem oksquareN (x0 : Int) : CallOk Try.prog (csquareN x0).1 (csquareN x0).2.1 (csquareN x0).2.2 := callOk_pure (fun _ _ => by kernel_rfl) fun _ => psquareN x0
def wnearLine_0 (x0 : TEdge) : TNum := FOfN (Fref05Dot (Fref05Sub x0.B x0.A) (Fref05Sub x0.B x0.A))
def wnearLine_1 (x2 : Int) (x0 : TEdge) : TNum := (FMulN (FOfN (W64 (x2 * x2))) (wnearLine_0 x0)).1
def wnearLine_2 (x0 : TEdge) (x1 : TPoint) : TNum := FsquareN (Fref05Cross (Fref05Sub x0.B x0.A) (Fref05Sub x1 x0.A))
def FnearLine (x0 : TEdge) (x1 : TPoint) (x2 : Int) : Bool := bif decide (((Fref05Dot (Fref05Sub x1 x0.A) (Fref05Sub x0.B x0.A)) : Int) ≤ 0) then (decide (((FfarR x1 x0.A) : Int) ≤ (W64 (x2 * x2)))) else (bif decide (((Fref05Dot (Fref05Sub x0.B x0.A) (Fref05Sub x0.B x0.A)) : Int) ≤ (Fref05Dot (Fref05Sub x1 x0.A) (Fref05Sub x0.B x0.A))) then (decide (((FfarR x1 x0.B) : Int) ≤ (W64 (x2 * x2)))) else (decide (((FCmpN (wnearLine_2 x0 x1) (wnearLine_1 x2 x0)) : Int) ≤ 0)))
def cnearLine (x0 : TEdge) (x1 : TPoint) (x2 : Int) : FuncId × List Av × Ef := (79, [.agg (TEdge.c x0), .agg (TPoint.c x1), .one (.i x2)], .val [] (.av (.one (.b (FnearLine x0 x1 x2)))))
theorem pnearLine (x0 : TEdge) (x1 : TPoint) (x2 : Int) : Pure Try.prog 79 (cnearLine x0 x1 x2).2.1 (.av (.one (.b (FnearLine x0 x1 x2)))) := by
  refine pure_of_awF Try.func79 rfl (by kernel_rfl) (by kernel_rfl) fun W0 M0 => ?_
  have q1 : ((wnearLine_1 x2 x0).D.length : Int) ≤ 1000000 := mul_len _ _
  have q2 : ((wnearLine_2 x0 x1).D.length : Int) ≤ 1000000 := mul_len _ _
  have q3 : ((wnearLine_0 x0).D.length : Int) ≤ 100000 := (of_dg _).1
  have q4 : ∀ j, 0 ≤ (wnearLine_0 x0).D.getD j 0 ∧ (wnearLine_0 x0).D.getD j 0 < 4294967296 := (of_dg _).2
  have q5 := (of_dg (W64 (x2 * x2))).1
  have q6 := (of_dg (W64 (x2 * x2))).2
  refine aw_seq ?_
  refine aw_region eqok [] [] [] [2, 3, 4] [3, 4] [] ⟨[(2, tI x2), (3, tP 3 0), (4, tP 4 0)], [(3, .cells (TEdge.c x0) 35), (4, .cells (TPoint.c x1) 29)]⟩ .nil (by kernel_rfl) .nil <| ath_n <| aw_seq ?_
  refine aw_region eqok [] [] [(16, cref05Sub x0.B x0.A)] [2, 3, 4, 7] [3, 4, 7] [Same (cref05Sub x0.B x0.A).2.1] ⟨[(2, tI x2), (3, tP 3 0), (4, tP 4 0), (7, tP 7 0)], [(3, .cells (TEdge.c x0) 35), (4, .cells (TPoint.c x1) 29), (7, .cells (TPoint.c (Fref05Sub x0.B x0.A)) 29)]⟩ (.cons (okref05Sub x0.B x0.A) .nil) (by kernel_rfl) (.cons rfl .nil) <| ath_n <| aw_seq ?_
  refine aw_draw mixed eqok [] [] [(20, cref05Sub x1 x0.A), (22, cref05Dot (Fref05Sub x1 x0.A) (Fref05Sub x0.B x0.A))] [2, 3, 4, 7, 8] [3, 4, 7] [Same (cref05Sub x1 x0.A).2.1, Same (cref05Dot (Fref05Sub x1 x0.A) (Fref05Sub x0.B x0.A)).2.1] ⟨[(2, tI x2), (3, tP 3 0), (4, tP 4 0), (7, tP 7 0), (8, tI (Fref05Dot (Fref05Sub x1 x0.A) (Fref05Sub x0.B x0.A)))], [(3, .cells (TEdge.c x0) 35), (4, .cells (TPoint.c x1) 29), (7, .cells (TPoint.c (Fref05Sub x0.B x0.A)) 29)]⟩ (.cons (okref05Sub x1 x0.A) (.cons (okref05Dot (Fref05Sub x1 x0.A) (Fref05Sub x0.B x0.A)) .nil)) (by kernel_rfl) (by kernel_rfl) (.cons rfl (.cons rfl .nil)) <| ath_n <| aw_seq ?_
  refine aw_region eqok [] [] [(25, cref05Dot (Fref05Sub x0.B x0.A) (Fref05Sub x0.B x0.A))] [2, 3, 4, 7, 8, 9] [3, 4, 7] [Same (cref05Dot (Fref05Sub x0.B x0.A) (Fref05Sub x0.B x0.A)).2.1] ⟨[(2, tI x2), (3, tP 3 0), (4, tP 4 0), (7, tP 7 0), (8, tI (Fref05Dot (Fref05Sub x1 x0.A) (Fref05Sub x0.B x0.A))), (9, tI (Fref05Dot (Fref05Sub x0.B x0.A) (Fref05Sub x0.B x0.A)))], [(3, .cells (TEdge.c x0) 35), (4, .cells (TPoint.c x1) 29), (7, .cells (TPoint.c (Fref05Sub x0.B x0.A)) 29)]⟩ (.cons (okref05Dot (Fref05Sub x0.B x0.A) (Fref05Sub x0.B x0.A)) .nil) (by kernel_rfl) (.cons rfl .nil) <| ath_n ?_
  refine aw_seq <| aw_seq ?_
  refine aw_region eqok [] [] [] [2, 3, 4, 7, 8, 9, 27] [3, 4, 7] [] ⟨[(2, tI x2), (3, tP 3 0), (4, tP 4 0), (7, tP 7 0), (8, tI (Fref05Dot (Fref05Sub x1 x0.A) (Fref05Sub x0.B x0.A))), (9, tI (Fref05Dot (Fref05Sub x0.B x0.A) (Fref05Sub x0.B x0.A))), (27, tB (decide (((Fref05Dot (Fref05Sub x1 x0.A) (Fref05Sub x0.B x0.A)) : Int) ≤ 0)))], [(3, .cells (TEdge.c x0) 35), (4, .cells (TPoint.c x1) 29), (7, .cells (TPoint.c (Fref05Sub x0.B x0.A)) 29)]⟩ .nil (by kernel_rfl) .nil <| ath_n ?_
  refine aw_cond (decide (((Fref05Dot (Fref05Sub x1 x0.A) (Fref05Sub x0.B x0.A)) : Int) ≤ 0)) (by kernel_rfl) (fun h1 => ?_) (fun h1 => ?_)
  · have g1 := of_decide_eq_true h1
    refine aw_seq ?_
    refine aw_region eqok [] [] [(31, cfarR x1 x0.A)] [6] [] [Same (cfarR x1 x0.A).2.1] ⟨[(6, tB (decide (((FfarR x1 x0.A) : Int) ≤ (W64 (x2 * x2)))))], []⟩ (.cons (okfarR x1 x0.A) .nil) (by kernel_rfl) (.cons rfl .nil) <| ath_n ?_
    refine aw_ret <| ath_r ?_
    exact ⟨_, Cv.refl _, .inl rfl, .av (.one (.b (decide (((FfarR x1 x0.A) : Int) ≤ (W64 (x2 * x2)))))), by kernel_rfl, tve_eq (by first | (simp only [FnearLine, h1, cond_true, cond_false]; done) | (simp only [FnearLine, h1, cond_true, cond_false]; rfl))⟩
  · have g1 := of_decide_eq_false h1
    refine aw_skip <| ath_n ?_
    refine aw_seq <| aw_seq ?_
    refine aw_region eqok [] [] [] [2, 3, 4, 7, 9, 38] [3, 4, 7] [] ⟨[(2, tI x2), (3, tP 3 0), (4, tP 4 0), (7, tP 7 0), (9, tI (Fref05Dot (Fref05Sub x0.B x0.A) (Fref05Sub x0.B x0.A))), (38, tB (decide (((Fref05Dot (Fref05Sub x0.B x0.A) (Fref05Sub x0.B x0.A)) : Int) ≤ (Fref05Dot (Fref05Sub x1 x0.A) (Fref05Sub x0.B x0.A)))))], [(3, .cells (TEdge.c x0) 35), (4, .cells (TPoint.c x1) 29), (7, .cells (TPoint.c (Fref05Sub x0.B x0.A)) 29)]⟩ .nil (by kernel_rfl) .nil <| ath_n ?_
    refine aw_cond (decide (((Fref05Dot (Fref05Sub x0.B x0.A) (Fref05Sub x0.B x0.A)) : Int) ≤ (Fref05Dot (Fref05Sub x1 x0.A) (Fref05Sub x0.B x0.A)))) (by kernel_rfl) (fun h2 => ?_) (fun h2 => ?_)
    · have g2 := of_decide_eq_true h2
      refine aw_seq ?_
      refine aw_region eqok [] [] [(42, cfarR x1 x0.B)] [6] [] [Same (cfarR x1 x0.B).2.1] ⟨[(6, tB (decide (((FfarR x1 x0.B) : Int) ≤ (W64 (x2 * x2)))))], []⟩ (.cons (okfarR x1 x0.B) .nil) (by kernel_rfl) (.cons rfl .nil) <| ath_n ?_
      refine aw_ret <| ath_r ?_
      exact ⟨_, Cv.refl _, .inl rfl, .av (.one (.b (decide (((FfarR x1 x0.B) : Int) ≤ (W64 (x2 * x2)))))), by kernel_rfl, tve_eq (by first | (simp only [FnearLine, h1, h2, cond_true, cond_false]; done) | (simp only [FnearLine, h1, h2, cond_true, cond_false]; rfl))⟩
    · have g2 := of_decide_eq_false h2
      refine aw_skip <| ath_n <| aw_seq ?_
      refine aw_region eqok [] [] [(51, cOfN (W64 (x2 * x2))), (53, cOfN (Fref05Dot (Fref05Sub x0.B x0.A) (Fref05Sub x0.B x0.A))), (54, cMulN (FOfN (W64 (x2 * x2))) (wnearLine_0 x0))] [3, 4, 7, 10] [3, 4, 7, 10] [Same (cOfN (W64 (x2 * x2))).2.1, Same (cOfN (Fref05Dot (Fref05Sub x0.B x0.A) (Fref05Sub x0.B x0.A))).2.1, Same (cMulN (FOfN (W64 (x2 * x2))) (wnearLine_0 x0)).2.1] ⟨[(3, tP 3 0), (4, tP 4 0), (7, tP 7 0), (10, tP 10 0)], [(3, .cells (TEdge.c x0) 35), (4, .cells (TPoint.c x1) 29), (7, .cells (TPoint.c (Fref05Sub x0.B x0.A)) 29), (10, .cells (TNum.c (wnearLine_1 x2 x0)) 118)]⟩ (.cons (okOfN (W64 (x2 * x2))) (.cons (okOfN (Fref05Dot (Fref05Sub x0.B x0.A) (Fref05Sub x0.B x0.A))) (.cons (okMulN (FOfN (W64 (x2 * x2))) (wnearLine_0 x0) au0 au0 au0 au0) .nil))) (by kernel_rfl) (.cons rfl (.cons rfl (.cons rfl .nil))) <| ath_n <| aw_seq ?_
      refine aw_draw mixed eqok [] [] [(61, cref05Sub x1 x0.A), (62, cref05Cross (Fref05Sub x0.B x0.A) (Fref05Sub x1 x0.A)), (63, csquareN (Fref05Cross (Fref05Sub x0.B x0.A) (Fref05Sub x1 x0.A))), (65, cCmpN (wnearLine_2 x0 x1) (wnearLine_1 x2 x0))] [6] [] [Same (cref05Sub x1 x0.A).2.1, Same (cref05Cross (Fref05Sub x0.B x0.A) (Fref05Sub x1 x0.A)).2.1, Same (csquareN (Fref05Cross (Fref05Sub x0.B x0.A) (Fref05Sub x1 x0.A))).2.1, Same (cCmpN (wnearLine_2 x0 x1) (wnearLine_1 x2 x0)).2.1] ⟨[(6, tB (decide (((FCmpN (wnearLine_2 x0 x1) (wnearLine_1 x2 x0)) : Int) ≤ 0)))], []⟩ (.cons (okref05Sub x1 x0.A) (.cons (okref05Cross (Fref05Sub x0.B x0.A) (Fref05Sub x1 x0.A)) (.cons (oksquareN (Fref05Cross (Fref05Sub x0.B x0.A) (Fref05Sub x1 x0.A))) (.cons (okCmpN (wnearLine_2 x0 x1) (wnearLine_1 x2 x0) au0 au0) .nil)))) (by kernel_rfl) (by kernel_rfl) (.cons rfl (.cons rfl (.cons rfl (.cons rfl .nil)))) <| ath_n <| aw_ret ?_
      exact ⟨_, Cv.refl _, .inl rfl, .av (.one (.b (decide (((FCmpN (wnearLine_2 x0 x1) (wnearLine_1 x2 x0)) : Int) ≤ 0)))), by kernel_rfl, tve_eq (by first | (simp only [FnearLine, h1, h2, cond_true, cond_false]; done) | (simp only [FnearLine, h1, h2, cond_true, cond_false]; rfl))⟩
theorem oknearLine (x0 : TEdge) (x1 : TPoint) (x2 : Int) : CallOk Try.prog (cnearLine x0 x1 x2).1 (cnearLine x0 x1 x2).2.1 (cnearLine x0 x1 x2).2.2 := callOk_pure (fun _ _ => by kernel_rfl) fun _ => pnearLine x0 x1 x2
def wnearArc_0 (x0 : TEdge) : TPoint := bif decide ((x0.Kind : Int) = 3) then (Fref05Sub x0.B x0.C) else (Fref05Sub x0.A x0.C)
def wnearArc_1 (x0 : TEdge) : TPoint := bif decide ((x0.Kind : Int) = 3) then (Fref05Sub x0.A x0.C) else (Fref05Sub x0.B x0.C)
def wnearArc_2 (x1 : TPoint) (x0 : TEdge) : Bool := Fref05Within (Fref05Sub x1 x0.C) (wnearArc_0 x0) (wnearArc_1 x0)
def FnearArc (x0 : TEdge) (x1 : TPoint) (x2 : Int) : Bool := bif !(wnearArc_2 x1 x0) then (bif decide (((FfarR x1 x0.A) : Int) ≤ (W64 (x2 * x2))) then true else decide (((FfarR x1 x0.B) : Int) ≤ (W64 (x2 * x2)))) else (bif decide (((Fref05Dot (Fref05Sub x1 x0.C) (Fref05Sub x1 x0.C)) : Int) ≤ (W64 ((W64 ((Fref06Radius x0) + x2)) * (W64 ((Fref06Radius x0) + x2))))) then bif decide (((Fref06Radius x0) : Int) ≤ x2) then true else decide (((W64 ((W64 ((Fref06Radius x0) - x2)) * (W64 ((Fref06Radius x0) - x2)))) : Int) ≤ (Fref05Dot (Fref05Sub x1 x0.C) (Fref05Sub x1 x0.C))) else false)
def cnearArc (x0 : TEdge) (x1 : TPoint) (x2 : Int) : FuncId × List Av × Ef := (80, [.agg (TEdge.c x0), .agg (TPoint.c x1), .one (.i x2)], .val [] (.av (.one (.b (FnearArc x0 x1 x2)))))
theorem pnearArc (x0 : TEdge) (x1 : TPoint) (x2 : Int) : Pure Try.prog 80 (cnearArc x0 x1 x2).2.1 (.av (.one (.b (FnearArc x0 x1 x2)))) := by
  refine pure_of_awF Try.func80 rfl (by kernel_rfl) (by kernel_rfl) fun W0 M0 => ?_
  refine aw_seq ?_
  refine aw_region eqok [] [] [] [2, 3, 4] [3, 4] [] ⟨[(2, tI x2), (3, tP 3 0), (4, tP 4 0)], [(3, .cells (TEdge.c x0) 35), (4, .cells (TPoint.c x1) 29)]⟩ .nil (by kernel_rfl) .nil <| ath_n <| aw_seq ?_
  refine aw_region eqok [] [] [(17, cref05Sub x0.A x0.C)] [2, 3, 4, 7] [3, 4, 7] [Same (cref05Sub x0.A x0.C).2.1] ⟨[(2, tI x2), (3, tP 3 0), (4, tP 4 0), (7, tP 7 0)], [(3, .cells (TEdge.c x0) 35), (4, .cells (TPoint.c x1) 29), (7, .cells (TPoint.c (Fref05Sub x0.A x0.C)) 29)]⟩ (.cons (okref05Sub x0.A x0.C) .nil) (by kernel_rfl) (.cons rfl .nil) <| ath_n <| aw_seq ?_
  refine aw_region eqok [] [] [(22, cref05Sub x0.B x0.C)] [2, 3, 4, 7, 8] [3, 4, 7, 8] [Same (cref05Sub x0.B x0.C).2.1] ⟨[(2, tI x2), (3, tP 3 0), (4, tP 4 0), (7, tP 7 0), (8, tP 8 0)], [(3, .cells (TEdge.c x0) 35), (4, .cells (TPoint.c x1) 29), (7, .cells (TPoint.c (Fref05Sub x0.A x0.C)) 29), (8, .cells (TPoint.c (Fref05Sub x0.B x0.C)) 29)]⟩ (.cons (okref05Sub x0.B x0.C) .nil) (by kernel_rfl) (.cons rfl .nil) <| ath_n ?_
  refine aw_seq <| aw_seq ?_
  refine aw_region eqok [] [] [] [2, 3, 4, 7, 8, 25] [3, 4, 7, 8] [] ⟨[(2, tI x2), (3, tP 3 0), (4, tP 4 0), (7, tP 7 0), (8, tP 8 0), (25, tB (decide ((x0.Kind : Int) = 3)))], [(3, .cells (TEdge.c x0) 35), (4, .cells (TPoint.c x1) 29), (7, .cells (TPoint.c (Fref05Sub x0.A x0.C)) 29), (8, .cells (TPoint.c (Fref05Sub x0.B x0.C)) 29)]⟩ .nil (by kernel_rfl) .nil <| ath_n ?_
  refine aw_joinC (⟨[(2, tI x2), (3, tP 3 0), (4, tP 4 0), (7, tP 7 0), (8, tP 8 0)], [(3, .cells (TEdge.c x0) 35), (4, .cells (TPoint.c x1) 29), (7, .cells (TPoint.c (bif decide ((x0.Kind : Int) = 3) then (Fref05Sub x0.B x0.C) else (Fref05Sub x0.A x0.C))) 29), (8, .cells (TPoint.c (bif decide ((x0.Kind : Int) = 3) then (Fref05Sub x0.A x0.C) else (Fref05Sub x0.B x0.C))) 29)]⟩) ?_ ?_
  · refine aw_cond (decide ((x0.Kind : Int) = 3)) (by kernel_rfl) (fun h1 => ?_) (fun h1 => ?_)
    · have g1 := of_decide_eq_true h1
      refine aw_region eqok [] [] [] [2, 3, 4, 7, 8] [3, 4, 7, 8] [] ⟨[(2, tI x2), (3, tP 3 0), (4, tP 4 0), (7, tP 7 0), (8, tP 8 0)], [(3, .cells (TEdge.c x0) 35), (4, .cells (TPoint.c x1) 29), (7, .cells (TPoint.c (Fref05Sub x0.B x0.C)) 29), (8, .cells (TPoint.c (Fref05Sub x0.A x0.C)) 29)]⟩ .nil (by kernel_rfl) .nil <| ath_n ?_
      refine cv_eq ?_
      first | rfl | (simp only [h1, cond_true, cond_false]; done) | (simp only [h1, cond_true, cond_false]; rfl)
    · have g1 := of_decide_eq_false h1
      refine aw_skip <| ath_n ?_
      refine Cv.trans (cv_keep [2, 3, 4, 7, 8] [3, 4, 7, 8] (⟨[(2, tI x2), (3, tP 3 0), (4, tP 4 0), (7, tP 7 0), (8, tP 8 0)], [(3, .cells (TEdge.c x0) 35), (4, .cells (TPoint.c x1) 29), (7, .cells (TPoint.c (Fref05Sub x0.A x0.C)) 29), (8, .cells (TPoint.c (Fref05Sub x0.B x0.C)) 29)]⟩) (by kernel_rfl)) (cv_eq ?_)
      first | rfl | (simp only [h1, cond_true, cond_false]; done) | (simp only [h1, cond_true, cond_false]; rfl)
  refine aw_seq ?_
  refine aw_region eqok [] [] [(31, cref05Sub x1 x0.C)] [2, 3, 4, 7, 8, 9] [3, 4, 7, 8, 9] [Same (cref05Sub x1 x0.C).2.1] ⟨[(2, tI x2), (3, tP 3 0), (4, tP 4 0), (7, tP 7 0), (8, tP 8 0), (9, tP 9 0)], [(3, .cells (TEdge.c x0) 35), (4, .cells (TPoint.c x1) 29), (7, .cells (TPoint.c (bif decide ((x0.Kind : Int) = 3) then (Fref05Sub x0.B x0.C) else (Fref05Sub x0.A x0.C))) 29), (8, .cells (TPoint.c (bif decide ((x0.Kind : Int) = 3) then (Fref05Sub x0.A x0.C) else (Fref05Sub x0.B x0.C))) 29), (9, .cells (TPoint.c (Fref05Sub x1 x0.C)) 29)]⟩ (.cons (okref05Sub x1 x0.C) .nil) (by kernel_rfl) (.cons rfl .nil) <| ath_n <| aw_seq ?_
  refine aw_region eqok [] [] [(35, cref05Within (Fref05Sub x1 x0.C) (wnearArc_0 x0) (wnearArc_1 x0))] [2, 3, 4, 9, 10] [3, 4, 9] [Same (cref05Within (Fref05Sub x1 x0.C) (wnearArc_0 x0) (wnearArc_1 x0)).2.1] ⟨[(2, tI x2), (3, tP 3 0), (4, tP 4 0), (9, tP 9 0), (10, tB (wnearArc_2 x1 x0))], [(3, .cells (TEdge.c x0) 35), (4, .cells (TPoint.c x1) 29), (9, .cells (TPoint.c (Fref05Sub x1 x0.C)) 29)]⟩ (.cons (okref05Within (Fref05Sub x1 x0.C) (wnearArc_0 x0) (wnearArc_1 x0)) .nil) (by kernel_rfl) (.cons rfl .nil) <| ath_n ?_
  refine aw_seq <| aw_seq ?_
  refine aw_region eqok [] [] [] [2, 3, 4, 9, 37] [3, 4, 9] [] ⟨[(2, tI x2), (3, tP 3 0), (4, tP 4 0), (9, tP 9 0), (37, tB (!(wnearArc_2 x1 x0)))], [(3, .cells (TEdge.c x0) 35), (4, .cells (TPoint.c x1) 29), (9, .cells (TPoint.c (Fref05Sub x1 x0.C)) 29)]⟩ .nil (by kernel_rfl) .nil <| ath_n ?_
  refine aw_cond (!(wnearArc_2 x1 x0)) (by kernel_rfl) (fun h1 => ?_) (fun h1 => ?_)
  · refine aw_seq ?_
    refine aw_region eqok [] [] [(41, cfarR x1 x0.A), (50, cfarR x1 x0.B)] [6] [] [Same (cfarR x1 x0.A).2.1, ((decide (((FfarR x1 x0.A) : Int) ≤ (W64 (x2 * x2)))) = false) → ((decide (((FfarR x1 x0.A) : Int) ≤ (W64 (x2 * x2)))) = false), ((decide (((FfarR x1 x0.A) : Int) ≤ (W64 (x2 * x2)))) = false) → ((decide (((FfarR x1 x0.A) : Int) ≤ (W64 (x2 * x2)))) = false), ((decide (((FfarR x1 x0.A) : Int) ≤ (W64 (x2 * x2)))) = false) → ((decide (((FfarR x1 x0.A) : Int) ≤ (W64 (x2 * x2)))) = false), ((decide (((FfarR x1 x0.A) : Int) ≤ (W64 (x2 * x2)))) = false) → (Same (cfarR x1 x0.B).2.1), ((decide (((FfarR x1 x0.A) : Int) ≤ (W64 (x2 * x2)))) = false) → ((decide (((FfarR x1 x0.A) : Int) ≤ (W64 (x2 * x2)))) = false), ((decide (((FfarR x1 x0.A) : Int) ≤ (W64 (x2 * x2)))) = false) → ((decide (((FfarR x1 x0.A) : Int) ≤ (W64 (x2 * x2)))) = false), ((decide (((FfarR x1 x0.A) : Int) ≤ (W64 (x2 * x2)))) = false) → ((decide (((FfarR x1 x0.A) : Int) ≤ (W64 (x2 * x2)))) = false), ((decide (((FfarR x1 x0.A) : Int) ≤ (W64 (x2 * x2)))) = false) → ((decide (((FfarR x1 x0.A) : Int) ≤ (W64 (x2 * x2)))) = false), (decide (((FfarR x1 x0.A) : Int) ≤ (W64 (x2 * x2)))) = false → ((decide (((FfarR x1 x0.A) : Int) ≤ (W64 (x2 * x2)))) = false)] ⟨[(6, tB (bif decide (((FfarR x1 x0.A) : Int) ≤ (W64 (x2 * x2))) then true else decide (((FfarR x1 x0.B) : Int) ≤ (W64 (x2 * x2)))))], []⟩ (.cons (okfarR x1 x0.A) (.cons (okfarR x1 x0.B) .nil)) (by kernel_rfl) (.cons rfl (.cons id (.cons id (.cons id (.cons (fun _ => rfl) (.cons id (.cons id (.cons id (.cons id (.cons id .nil)))))))))) <| ath_n ?_
    refine aw_ret <| ath_r ?_
    exact ⟨_, Cv.refl _, .inl rfl, .av (.one (.b (bif decide (((FfarR x1 x0.A) : Int) ≤ (W64 (x2 * x2))) then true else decide (((FfarR x1 x0.B) : Int) ≤ (W64 (x2 * x2)))))), by kernel_rfl, tve_eq (by first | (simp only [FnearArc, h1, cond_true, cond_false]; done) | (simp only [FnearArc, h1, cond_true, cond_false]; rfl))⟩
  · refine aw_skip <| ath_n <| aw_seq ?_
    refine aw_region eqok [] [] [(57, cref06Radius x0)] [2, 9, 11] [9] [Same (cref06Radius x0).2.1] ⟨[(2, tI x2), (9, tP 9 0), (11, tI (Fref06Radius x0))], [(9, .cells (TPoint.c (Fref05Sub x1 x0.C)) 29)]⟩ (.cons (okref06Radius x0) .nil) (by kernel_rfl) (.cons rfl .nil) <| ath_n <| aw_seq ?_
    refine aw_region eqok [] [] [(60, cref05Dot (Fref05Sub x1 x0.C) (Fref05Sub x1 x0.C))] [2, 11, 12] [] [Same (cref05Dot (Fref05Sub x1 x0.C) (Fref05Sub x1 x0.C)).2.1] ⟨[(2, tI x2), (11, tI (Fref06Radius x0)), (12, tI (Fref05Dot (Fref05Sub x1 x0.C) (Fref05Sub x1 x0.C)))], []⟩ (.cons (okref05Dot (Fref05Sub x1 x0.C) (Fref05Sub x1 x0.C)) .nil) (by kernel_rfl) (.cons rfl .nil) <| ath_n <| aw_seq ?_
    refine aw_region eqok [] [] [] [6] [] [((decide (((Fref05Dot (Fref05Sub x1 x0.C) (Fref05Sub x1 x0.C)) : Int) ≤ (W64 ((W64 ((Fref06Radius x0) + x2)) * (W64 ((Fref06Radius x0) + x2)))))) = true) → ((decide (((Fref05Dot (Fref05Sub x1 x0.C) (Fref05Sub x1 x0.C)) : Int) ≤ (W64 ((W64 ((Fref06Radius x0) + x2)) * (W64 ((Fref06Radius x0) + x2)))))) = true), ((decide (((Fref05Dot (Fref05Sub x1 x0.C) (Fref05Sub x1 x0.C)) : Int) ≤ (W64 ((W64 ((Fref06Radius x0) + x2)) * (W64 ((Fref06Radius x0) + x2)))))) = true) → ((decide (((Fref05Dot (Fref05Sub x1 x0.C) (Fref05Sub x1 x0.C)) : Int) ≤ (W64 ((W64 ((Fref06Radius x0) + x2)) * (W64 ((Fref06Radius x0) + x2)))))) = true), ((decide (((Fref05Dot (Fref05Sub x1 x0.C) (Fref05Sub x1 x0.C)) : Int) ≤ (W64 ((W64 ((Fref06Radius x0) + x2)) * (W64 ((Fref06Radius x0) + x2)))))) = true) → ((decide (((Fref05Dot (Fref05Sub x1 x0.C) (Fref05Sub x1 x0.C)) : Int) ≤ (W64 ((W64 ((Fref06Radius x0) + x2)) * (W64 ((Fref06Radius x0) + x2)))))) = true), (((decide (((Fref05Dot (Fref05Sub x1 x0.C) (Fref05Sub x1 x0.C)) : Int) ≤ (W64 ((W64 ((Fref06Radius x0) + x2)) * (W64 ((Fref06Radius x0) + x2)))))) = true) ∧ (decide (((Fref06Radius x0) : Int) ≤ x2)) = false) → (((decide (((Fref05Dot (Fref05Sub x1 x0.C) (Fref05Sub x1 x0.C)) : Int) ≤ (W64 ((W64 ((Fref06Radius x0) + x2)) * (W64 ((Fref06Radius x0) + x2)))))) = true) ∧ (decide (((Fref06Radius x0) : Int) ≤ x2)) = false), (((decide (((Fref05Dot (Fref05Sub x1 x0.C) (Fref05Sub x1 x0.C)) : Int) ≤ (W64 ((W64 ((Fref06Radius x0) + x2)) * (W64 ((Fref06Radius x0) + x2)))))) = true) ∧ (decide (((Fref06Radius x0) : Int) ≤ x2)) = false) → (((decide (((Fref05Dot (Fref05Sub x1 x0.C) (Fref05Sub x1 x0.C)) : Int) ≤ (W64 ((W64 ((Fref06Radius x0) + x2)) * (W64 ((Fref06Radius x0) + x2)))))) = true) ∧ (decide (((Fref06Radius x0) : Int) ≤ x2)) = false), (((decide (((Fref05Dot (Fref05Sub x1 x0.C) (Fref05Sub x1 x0.C)) : Int) ≤ (W64 ((W64 ((Fref06Radius x0) + x2)) * (W64 ((Fref06Radius x0) + x2)))))) = true) ∧ (decide (((Fref06Radius x0) : Int) ≤ x2)) = false) → (((decide (((Fref05Dot (Fref05Sub x1 x0.C) (Fref05Sub x1 x0.C)) : Int) ≤ (W64 ((W64 ((Fref06Radius x0) + x2)) * (W64 ((Fref06Radius x0) + x2)))))) = true) ∧ (decide (((Fref06Radius x0) : Int) ≤ x2)) = false), (((decide (((Fref05Dot (Fref05Sub x1 x0.C) (Fref05Sub x1 x0.C)) : Int) ≤ (W64 ((W64 ((Fref06Radius x0) + x2)) * (W64 ((Fref06Radius x0) + x2)))))) = true) ∧ (decide (((Fref06Radius x0) : Int) ≤ x2)) = false) → (((decide (((Fref05Dot (Fref05Sub x1 x0.C) (Fref05Sub x1 x0.C)) : Int) ≤ (W64 ((W64 ((Fref06Radius x0) + x2)) * (W64 ((Fref06Radius x0) + x2)))))) = true) ∧ (decide (((Fref06Radius x0) : Int) ≤ x2)) = false), (((decide (((Fref05Dot (Fref05Sub x1 x0.C) (Fref05Sub x1 x0.C)) : Int) ≤ (W64 ((W64 ((Fref06Radius x0) + x2)) * (W64 ((Fref06Radius x0) + x2)))))) = true) ∧ (decide (((Fref06Radius x0) : Int) ≤ x2)) = false) → (((decide (((Fref05Dot (Fref05Sub x1 x0.C) (Fref05Sub x1 x0.C)) : Int) ≤ (W64 ((W64 ((Fref06Radius x0) + x2)) * (W64 ((Fref06Radius x0) + x2)))))) = true) ∧ (decide (((Fref06Radius x0) : Int) ≤ x2)) = false), (((decide (((Fref05Dot (Fref05Sub x1 x0.C) (Fref05Sub x1 x0.C)) : Int) ≤ (W64 ((W64 ((Fref06Radius x0) + x2)) * (W64 ((Fref06Radius x0) + x2)))))) = true) ∧ (decide (((Fref06Radius x0) : Int) ≤ x2)) = false) → (((decide (((Fref05Dot (Fref05Sub x1 x0.C) (Fref05Sub x1 x0.C)) : Int) ≤ (W64 ((W64 ((Fref06Radius x0) + x2)) * (W64 ((Fref06Radius x0) + x2)))))) = true) ∧ (decide (((Fref06Radius x0) : Int) ≤ x2)) = false), (((decide (((Fref05Dot (Fref05Sub x1 x0.C) (Fref05Sub x1 x0.C)) : Int) ≤ (W64 ((W64 ((Fref06Radius x0) + x2)) * (W64 ((Fref06Radius x0) + x2)))))) = true) ∧ (decide (((Fref06Radius x0) : Int) ≤ x2)) = false) → (((decide (((Fref05Dot (Fref05Sub x1 x0.C) (Fref05Sub x1 x0.C)) : Int) ≤ (W64 ((W64 ((Fref06Radius x0) + x2)) * (W64 ((Fref06Radius x0) + x2)))))) = true) ∧ (decide (((Fref06Radius x0) : Int) ≤ x2)) = false), (((decide (((Fref05Dot (Fref05Sub x1 x0.C) (Fref05Sub x1 x0.C)) : Int) ≤ (W64 ((W64 ((Fref06Radius x0) + x2)) * (W64 ((Fref06Radius x0) + x2)))))) = true) ∧ (decide (((Fref06Radius x0) : Int) ≤ x2)) = false) → (((decide (((Fref05Dot (Fref05Sub x1 x0.C) (Fref05Sub x1 x0.C)) : Int) ≤ (W64 ((W64 ((Fref06Radius x0) + x2)) * (W64 ((Fref06Radius x0) + x2)))))) = true) ∧ (decide (((Fref06Radius x0) : Int) ≤ x2)) = false), ((decide (((Fref05Dot (Fref05Sub x1 x0.C) (Fref05Sub x1 x0.C)) : Int) ≤ (W64 ((W64 ((Fref06Radius x0) + x2)) * (W64 ((Fref06Radius x0) + x2)))))) = true) → ((decide (((Fref05Dot (Fref05Sub x1 x0.C) (Fref05Sub x1 x0.C)) : Int) ≤ (W64 ((W64 ((Fref06Radius x0) + x2)) * (W64 ((Fref06Radius x0) + x2)))))) = true), ((decide (((Fref05Dot (Fref05Sub x1 x0.C) (Fref05Sub x1 x0.C)) : Int) ≤ (W64 ((W64 ((Fref06Radius x0) + x2)) * (W64 ((Fref06Radius x0) + x2)))))) = true) → ((decide (((Fref06Radius x0) : Int) ≤ x2)) = false → (((decide (((Fref05Dot (Fref05Sub x1 x0.C) (Fref05Sub x1 x0.C)) : Int) ≤ (W64 ((W64 ((Fref06Radius x0) + x2)) * (W64 ((Fref06Radius x0) + x2)))))) = true) ∧ (decide (((Fref06Radius x0) : Int) ≤ x2)) = false)), (decide (((Fref05Dot (Fref05Sub x1 x0.C) (Fref05Sub x1 x0.C)) : Int) ≤ (W64 ((W64 ((Fref06Radius x0) + x2)) * (W64 ((Fref06Radius x0) + x2)))))) = true → ((decide (((Fref05Dot (Fref05Sub x1 x0.C) (Fref05Sub x1 x0.C)) : Int) ≤ (W64 ((W64 ((Fref06Radius x0) + x2)) * (W64 ((Fref06Radius x0) + x2)))))) = true)] ⟨[(6, tB (bif decide (((Fref05Dot (Fref05Sub x1 x0.C) (Fref05Sub x1 x0.C)) : Int) ≤ (W64 ((W64 ((Fref06Radius x0) + x2)) * (W64 ((Fref06Radius x0) + x2))))) then bif decide (((Fref06Radius x0) : Int) ≤ x2) then true else decide (((W64 ((W64 ((Fref06Radius x0) - x2)) * (W64 ((Fref06Radius x0) - x2)))) : Int) ≤ (Fref05Dot (Fref05Sub x1 x0.C) (Fref05Sub x1 x0.C))) else false))], []⟩ .nil (by kernel_rfl) (.cons id (.cons id (.cons id (.cons id (.cons id (.cons id (.cons id (.cons id (.cons id (.cons id (.cons id (.cons id (.cons (by intros; first | assumption | exact ⟨by assumption, by assumption⟩ | simp_all) (.cons id .nil)))))))))))))) <| ath_n <| aw_ret ?_
    exact ⟨_, Cv.refl _, .inl rfl, .av (.one (.b (bif decide (((Fref05Dot (Fref05Sub x1 x0.C) (Fref05Sub x1 x0.C)) : Int) ≤ (W64 ((W64 ((Fref06Radius x0) + x2)) * (W64 ((Fref06Radius x0) + x2))))) then bif decide (((Fref06Radius x0) : Int) ≤ x2) then true else decide (((W64 ((W64 ((Fref06Radius x0) - x2)) * (W64 ((Fref06Radius x0) - x2)))) : Int) ≤ (Fref05Dot (Fref05Sub x1 x0.C) (Fref05Sub x1 x0.C))) else false))), by kernel_rfl, tve_eq (by first | (simp only [FnearArc, h1, cond_true, cond_false]; done) | (simp only [FnearArc, h1, cond_true, cond_false]; rfl))⟩
theorem oknearArc (x0 : TEdge) (x1 : TPoint) (x2 : Int) : CallOk Try.prog (cnearArc x0 x1 x2).1 (cnearArc x0 x1 x2).2.1 (cnearArc x0 x1 x2).2.2 := callOk_pure (fun _ _ => by kernel_rfl) fun _ => pnearArc x0 x1 x2
def FNearR (x0 : TEdge) (x1 : TPoint) (x2 : Int) : Bool := bif decide ((x0.Kind : Int) = 1) then (FnearLine x0 x1 x2) else (FnearArc x0 x1 x2)
def cNearR (x0 : TEdge) (x1 : TPoint) (x2 : Int) : FuncId × List Av × Ef := (50, [.agg (TEdge.c x0), .agg (TPoint.c x1), .one (.i x2)], .val [] (.av (.one (.b (FNearR x0 x1 x2)))))
theorem pNearR (x0 : TEdge) (x1 : TPoint) (x2 : Int) : Pure Try.prog 50 (cNearR x0 x1 x2).2.1 (.av (.one (.b (FNearR x0 x1 x2)))) := by
  refine pure_of_awF Try.func50 rfl (by kernel_rfl) (by kernel_rfl) fun W0 M0 => ?_
  refine aw_seq ?_
  refine aw_region eqok [] [] [] [2, 3, 4] [3, 4] [] ⟨[(2, tI x2), (3, tP 3 0), (4, tP 4 0)], [(3, .cells (TEdge.c x0) 35), (4, .cells (TPoint.c x1) 29)]⟩ .nil (by kernel_rfl) .nil <| ath_n ?_
  refine aw_seq <| aw_seq ?_
  refine aw_region eqok [] [] [] [2, 3, 4, 9] [3, 4] [] ⟨[(2, tI x2), (3, tP 3 0), (4, tP 4 0), (9, tB (decide ((x0.Kind : Int) = 1)))], [(3, .cells (TEdge.c x0) 35), (4, .cells (TPoint.c x1) 29)]⟩ .nil (by kernel_rfl) .nil <| ath_n ?_
  refine aw_cond (decide ((x0.Kind : Int) = 1)) (by kernel_rfl) (fun h1 => ?_) (fun h1 => ?_)
  · have g1 := of_decide_eq_true h1
    refine aw_seq ?_
    refine aw_region eqok [] [] [(13, cnearLine x0 x1 x2)] [6] [] [Same (cnearLine x0 x1 x2).2.1] ⟨[(6, tB (FnearLine x0 x1 x2))], []⟩ (.cons (oknearLine x0 x1 x2) .nil) (by kernel_rfl) (.cons rfl .nil) <| ath_n ?_
    refine aw_ret <| ath_r ?_
    exact ⟨_, Cv.refl _, .inl rfl, .av (.one (.b (FnearLine x0 x1 x2))), by kernel_rfl, tve_eq (by first | (simp only [FNearR, h1, cond_true, cond_false]; done) | (simp only [FNearR, h1, cond_true, cond_false]; rfl))⟩
  · have g1 := of_decide_eq_false h1
    refine aw_skip <| ath_n <| aw_seq ?_
    refine aw_region eqok [] [] [(17, cnearArc x0 x1 x2)] [6] [] [Same (cnearArc x0 x1 x2).2.1] ⟨[(6, tB (FnearArc x0 x1 x2))], []⟩ (.cons (oknearArc x0 x1 x2) .nil) (by kernel_rfl) (.cons rfl .nil) <| ath_n <| aw_ret ?_
    exact ⟨_, Cv.refl _, .inl rfl, .av (.one (.b (FnearArc x0 x1 x2))), by kernel_rfl, tve_eq (by first | (simp only [FNearR, h1, cond_true, cond_false]; done) | (simp only [FNearR, h1, cond_true, cond_false]; rfl))⟩
theorem okNearR (x0 : TEdge) (x1 : TPoint) (x2 : Int) : CallOk Try.prog (cNearR x0 x1 x2).1 (cNearR x0 x1 x2).2.1 (cNearR x0 x1 x2).2.2 := callOk_pure (fun _ _ => by kernel_rfl) fun _ => pNearR x0 x1 x2
theorem or3_f {p q r : Prop} [Decidable p] [Decidable q] [Decidable r] (h : (bif bif !decide p then true else !decide q then true else !decide r) = false) : p ∧ q ∧ r := by
  by_cases hp : p <;> by_cases hq : q <;> by_cases hr : r <;> simp_all
def FSameR_l0 (p1 : TShape) (p2 : TShape) : Nat → Int → Bool
  | 0, _ => default
  | n0 + 1, k => bif decide ((k : Int) < ((p1.Edges.length : Int))) then (bif !(decide (((p1.Edges.getD k.toNat default).Kind) = ((p2.Edges.getD k.toNat default).Kind)) && (decide ((((p1.Edges.getD k.toNat default).A).X) = (((p2.Edges.getD k.toNat default).A).X)) && (decide ((((p1.Edges.getD k.toNat default).A).Y) = (((p2.Edges.getD k.toNat default).A).Y)) && (decide ((((p1.Edges.getD k.toNat default).B).X) = (((p2.Edges.getD k.toNat default).B).X)) && (decide ((((p1.Edges.getD k.toNat default).B).Y) = (((p2.Edges.getD k.toNat default).B).Y)) && (decide ((((p1.Edges.getD k.toNat default).C).X) = (((p2.Edges.getD k.toNat default).C).X)) && (decide ((((p1.Edges.getD k.toNat default).C).Y) = (((p2.Edges.getD k.toNat default).C).Y)) && true))))))) then (false) else ((FSameR_l0 p1 p2 n0) (k + 1))) else (true)
def FSameR (p1 : TShape) (p2 : TShape) : Bool := bif bif bif !decide ((p1.Kind : Int) = p2.Kind) then true else !decide ((p1.R : Int) = p2.R) then true else !decide ((((p1.Edges.length : Int)) : Int) = ((p2.Edges.length : Int))) then (false) else (FSameR_l0 p1 p2 (((((p1.Edges.length : Int))) - 0).toNat + 1) 0)
def cSameR (p1 : TShape) (p2 : TShape) : FuncId × List Av × Ef := (28, [.agg (TShape.c p1), .agg (TShape.c p2)], .val [] (.av (.one (.b (FSameR p1 p2)))))
theorem pSameR (p1 : TShape) (p2 : TShape) (h0 : (p1.Edges.length : Int) ≤ 1000000) (h1 : (p2.Edges.length : Int) ≤ 1000000) : Pure Try.prog 28 (cSameR p1 p2).2.1 (.av (.one (.b (FSameR p1 p2)))) := by
  refine pure_of_awF Try.func28 rfl (by kernel_rfl) (by kernel_rfl) fun W0 M0 => ?_
  refine aw_seq ?_
  refine aw_region eqok [] [] [] [2, 3] [2, 3] [] ⟨[(2, tP 2 0), (3, tP 3 0)], [(2, .cells (TShape.c p1) 26), (3, .cells (TShape.c p2) 26)]⟩ .nil (by kernel_rfl) .nil <| ath_n ?_
  refine aw_seq <| aw_seq ?_
  refine aw_region eqok [] [] [] [2, 3, 26] [2, 3] [((!decide ((p1.Kind : Int) = p2.Kind)) = false) → ((!decide ((p1.Kind : Int) = p2.Kind)) = false), ((!decide ((p1.Kind : Int) = p2.Kind)) = false) → ((!decide ((p1.Kind : Int) = p2.Kind)) = false), ((!decide ((p1.Kind : Int) = p2.Kind)) = false) → ((!decide ((p1.Kind : Int) = p2.Kind)) = false), ((!decide ((p1.Kind : Int) = p2.Kind)) = false) → ((!decide ((p1.Kind : Int) = p2.Kind)) = false), (!decide ((p1.Kind : Int) = p2.Kind)) = false → ((!decide ((p1.Kind : Int) = p2.Kind)) = false), ((bif !decide ((p1.Kind : Int) = p2.Kind) then true else !decide ((p1.R : Int) = p2.R)) = false) → ((bif !decide ((p1.Kind : Int) = p2.Kind) then true else !decide ((p1.R : Int) = p2.R)) = false), ((bif !decide ((p1.Kind : Int) = p2.Kind) then true else !decide ((p1.R : Int) = p2.R)) = false) → ((bif !decide ((p1.Kind : Int) = p2.Kind) then true else !decide ((p1.R : Int) = p2.R)) = false), ((bif !decide ((p1.Kind : Int) = p2.Kind) then true else !decide ((p1.R : Int) = p2.R)) = false) → ((bif !decide ((p1.Kind : Int) = p2.Kind) then true else !decide ((p1.R : Int) = p2.R)) = false), ((bif !decide ((p1.Kind : Int) = p2.Kind) then true else !decide ((p1.R : Int) = p2.R)) = false) → ((bif !decide ((p1.Kind : Int) = p2.Kind) then true else !decide ((p1.R : Int) = p2.R)) = false), ((bif !decide ((p1.Kind : Int) = p2.Kind) then true else !decide ((p1.R : Int) = p2.R)) = false) → ((bif !decide ((p1.Kind : Int) = p2.Kind) then true else !decide ((p1.R : Int) = p2.R)) = false), ((bif !decide ((p1.Kind : Int) = p2.Kind) then true else !decide ((p1.R : Int) = p2.R)) = false) → ((bif !decide ((p1.Kind : Int) = p2.Kind) then true else !decide ((p1.R : Int) = p2.R)) = false), (bif !decide ((p1.Kind : Int) = p2.Kind) then true else !decide ((p1.R : Int) = p2.R)) = false → ((bif !decide ((p1.Kind : Int) = p2.Kind) then true else !decide ((p1.R : Int) = p2.R)) = false)] ⟨[(2, tP 2 0), (3, tP 3 0), (26, tB (bif bif !decide ((p1.Kind : Int) = p2.Kind) then true else !decide ((p1.R : Int) = p2.R) then true else !decide ((((p1.Edges.length : Int)) : Int) = ((p2.Edges.length : Int)))))], [(2, .cells (TShape.c p1) 26), (3, .cells (TShape.c p2) 26)]⟩ .nil (by kernel_rfl) (.cons id (.cons id (.cons id (.cons id (.cons id (.cons id (.cons id (.cons id (.cons id (.cons id (.cons id (.cons id .nil)))))))))))) <| ath_n ?_
  refine aw_cond (bif bif !decide ((p1.Kind : Int) = p2.Kind) then true else !decide ((p1.R : Int) = p2.R) then true else !decide ((((p1.Edges.length : Int)) : Int) = ((p2.Edges.length : Int)))) (by kernel_rfl) (fun h1 => ?_) (fun h1 => ?_)
  · refine aw_seq ?_
    refine aw_region eqok [] [] [] [4] [] [] ⟨[(4, tB false)], []⟩ .nil (by kernel_rfl) .nil <| ath_n ?_
    refine aw_ret <| ath_r ?_
    exact ⟨_, Cv.refl _, .inl rfl, .av (.one (.b false)), by kernel_rfl, tve_eq (by first | (simp only [FSameR, h1, cond_true, cond_false]; done) | (simp only [FSameR, h1, cond_true, cond_false]; rfl))⟩
  · refine aw_skip <| ath_n ?_
    refine aw_seq <| aw_seq ?_
    refine aw_region eqok [] [] [] [2, 3, 5] [2, 3] [] ⟨[(2, tP 2 0), (3, tP 3 0), (5, tI 0)], [(2, .cells (TShape.c p1) 26), (3, .cells (TShape.c p2) 26)]⟩ .nil (by kernel_rfl) .nil <| ath_n <| aw_block ?_
    refine aw_loopC (ι := Nat × Int) (fun x => ⟨[(2, tP 2 0), (3, tP 3 0), (5, tI x.2)], [(2, .cells (TShape.c p1) 26), (3, .cells (TShape.c p2) 26)]⟩) (fun x => ((((p1.Edges.length : Int))) - x.2).toNat < x.1 ∧ (0 ≤ x.2 ∧ (x.2 ≤ ((p1.Edges.length : Int)) ∨ x.2 = 0)) ∧ FSameR_l0 p1 p2 x.1 x.2 = FSameR p1 p2) (fun x => x.1) ?_ (((((p1.Edges.length : Int))) - 0).toNat + 1, 0) ⟨Nat.lt_succ_self _, ⟨(by show 0 ≤ 0; first | trivial | omega | (simp only [List.length_append, List.length_cons, List.length_nil]; omega) | (simp only [List.length_set, List.length_append, List.length_cons, List.length_nil]; omega) | (simp only [W64_def]; omega) | (simp; omega) | simp), (by show (0 ≤ ((p1.Edges.length : Int)) ∨ 0 = 0); first | trivial | omega | (simp only [List.length_append, List.length_cons, List.length_nil]; omega) | (simp only [List.length_set, List.length_append, List.length_cons, List.length_nil]; omega) | (simp only [W64_def]; omega) | (simp; omega) | simp)⟩, (by simp only [FSameR, h1, cond_true, cond_false])⟩
    rintro ⟨n0, k⟩ ⟨hn, hinv, hF⟩
    have hm0 : ((((p1.Edges.length : Int))) - k).toNat < n0 := hn; have hinv0 : 0 ≤ k ∧ (k ≤ ((p1.Edges.length : Int)) ∨ k = 0) := hinv; have hF0 : FSameR_l0 p1 p2 n0 k = FSameR p1 p2 := hF; clear hn hinv hF
    cases n0 with
    | zero => exact absurd hm0 (Nat.not_lt_zero _)
    | succ n0 =>
      have hE := (or3_f h1).2.2
      refine aw_seq <| aw_seq ?_
      refine aw_region eqok [] [] [] [2, 3, 5, 31] [2, 3] [] ⟨[(2, tP 2 0), (3, tP 3 0), (5, tI k), (31, tB (decide ((k : Int) < ((p1.Edges.length : Int)))))], [(2, .cells (TShape.c p1) 26), (3, .cells (TShape.c p2) 26)]⟩ .nil (by kernel_rfl) .nil <| ath_n ?_
      refine aw_cond (decide ((k : Int) < ((p1.Edges.length : Int)))) (by kernel_rfl) (fun h2 => ?_) (fun h2 => ?_)
      · have g2 := of_decide_eq_true h2
        refine aw_skip <| ath_n ?_
        refine aw_seq <| aw_block <| aw_seq ?_
        refine aw_draw mixed eqok [] [] [] [2, 3, 5, 44] [2, 3] [0 ≤ (k : Int) ∧ (k : Int) < ((p1.Edges.length : Nat) : Int), 0 ≤ (k : Int) ∧ (k : Int) < ((p2.Edges.length : Nat) : Int)] ⟨[(2, tP 2 0), (3, tP 3 0), (5, tI k), (44, tB (!(decide (((p1.Edges.getD k.toNat default).Kind) = ((p2.Edges.getD k.toNat default).Kind)) && (decide ((((p1.Edges.getD k.toNat default).A).X) = (((p2.Edges.getD k.toNat default).A).X)) && (decide ((((p1.Edges.getD k.toNat default).A).Y) = (((p2.Edges.getD k.toNat default).A).Y)) && (decide ((((p1.Edges.getD k.toNat default).B).X) = (((p2.Edges.getD k.toNat default).B).X)) && (decide ((((p1.Edges.getD k.toNat default).B).Y) = (((p2.Edges.getD k.toNat default).B).Y)) && (decide ((((p1.Edges.getD k.toNat default).C).X) = (((p2.Edges.getD k.toNat default).C).X)) && (decide ((((p1.Edges.getD k.toNat default).C).Y) = (((p2.Edges.getD k.toNat default).C).Y)) && true)))))))))], [(2, .cells (TShape.c p1) 26), (3, .cells (TShape.c p2) 26)]⟩ .nil (by kernel_rfl) (by kernel_rfl) (.cons au1 (.cons au1 .nil)) <| ath_n ?_
        refine aw_cond (!(decide (((p1.Edges.getD k.toNat default).Kind) = ((p2.Edges.getD k.toNat default).Kind)) && (decide ((((p1.Edges.getD k.toNat default).A).X) = (((p2.Edges.getD k.toNat default).A).X)) && (decide ((((p1.Edges.getD k.toNat default).A).Y) = (((p2.Edges.getD k.toNat default).A).Y)) && (decide ((((p1.Edges.getD k.toNat default).B).X) = (((p2.Edges.getD k.toNat default).B).X)) && (decide ((((p1.Edges.getD k.toNat default).B).Y) = (((p2.Edges.getD k.toNat default).B).Y)) && (decide ((((p1.Edges.getD k.toNat default).C).X) = (((p2.Edges.getD k.toNat default).C).X)) && (decide ((((p1.Edges.getD k.toNat default).C).Y) = (((p2.Edges.getD k.toNat default).C).Y)) && true)))))))) (by kernel_rfl) (fun h3 => ?_) (fun h3 => ?_)
        · refine aw_seq ?_
          refine aw_region eqok [] [] [] [4] [] [] ⟨[(4, tB false)], []⟩ .nil (by kernel_rfl) .nil <| ath_n ?_
          refine aw_ret <| abl_r ?_
          refine ath_r <| ath_r ?_
          refine abl_r <| ath_r ?_
          exact ⟨_, Cv.refl _, .inl rfl, .av (.one (.b false)), by kernel_rfl, tve_eq (by rw [← hF0]; first | (simp only [FSameR_l0, h2, h3, cond_true, cond_false]; done) | (simp only [FSameR_l0, h2, h3, cond_true, cond_false]; rfl))⟩
        · refine aw_skip <| abl_n <| ath_n ?_
          refine aw_region eqok [] [] [] [2, 3, 5] [2, 3] [] ⟨[(2, tP 2 0), (3, tP 3 0), (5, tI (W64 (k + 1)))], [(2, .cells (TShape.c p1) 26), (3, .cells (TShape.c p2) 26)]⟩ .nil (by kernel_rfl) .nil ?_
          (try rw [(show W64 (k + 1) = k + 1 from W64_id (by omega) au4)])
          refine ath_n ?_
          refine ⟨(n0, k + 1), ⟨?_, ?_, (by rw [← hF0]; simp only [FSameR_l0, h2, h3, cond_true, cond_false])⟩, Nat.lt_succ_self _, cv_eq (by kernel_rfl)⟩
          · show ((((p1.Edges.length : Int))) - (k + 1)).toNat < n0; omega
          · exact ⟨(by show 0 ≤ (k + 1); first | trivial | omega | (simp only [List.length_append, List.length_cons, List.length_nil]; omega) | (simp only [List.length_set, List.length_append, List.length_cons, List.length_nil]; omega) | (simp only [W64_def]; omega) | (simp; omega) | simp), (by show ((k + 1) ≤ ((p1.Edges.length : Int)) ∨ (k + 1) = 0); first | trivial | omega | (simp only [List.length_append, List.length_cons, List.length_nil]; omega) | (simp only [List.length_set, List.length_append, List.length_cons, List.length_nil]; omega) | (simp only [W64_def]; omega) | (simp; omega) | simp)⟩
      · have g2 := of_decide_eq_false h2
        refine aw_exit <| ath_e ?_
        refine ath_e <| abl_hit ?_
        refine ath_n <| aw_seq ?_
        refine aw_region eqok [] [] [] [4] [] [] ⟨[(4, tB true)], []⟩ .nil (by kernel_rfl) .nil <| ath_n <| aw_ret ?_
        exact ⟨_, Cv.refl _, .inl rfl, .av (.one (.b true)), by kernel_rfl, tve_eq (by rw [← hF0]; first | (simp only [FSameR_l0, h2, cond_true, cond_false]; done) | (simp only [FSameR_l0, h2, cond_true, cond_false]; rfl))⟩
theorem okSameR (p1 : TShape) (p2 : TShape) (h0 : (p1.Edges.length : Int) ≤ 1000000) (h1 : (p2.Edges.length : Int) ≤ 1000000) : CallOk Try.prog (cSameR p1 p2).1 (cSameR p1 p2).2.1 (cSameR p1 p2).2.2 := callOk_pure (fun _ _ => by kernel_rfl) fun _ => pSameR p1 p2 h0 h1
def wInsideR_0 (s : TShape) (k : Int) (p : TPoint) : Bool := FNearR (s.Edges.getD k.toNat default) p s.R
def FInsideR_l0 (s : TShape) (p : TPoint) : Nat → Int → Int → Bool
  | 0, _, _ => default
  | n0 + 1, winding, k => bif decide ((k : Int) < ((s.Edges.length : Int))) then (bif wInsideR_0 s k p then (true) else ((FInsideR_l0 s p n0) (W64 (winding + (Fref06Ray (s.Edges.getD k.toNat default) p))) (k + 1))) else (bif decide ((s.Kind : Int) = 2) then !decide ((winding : Int) = 0) else false)
def FInsideR (s : TShape) (p : TPoint) : Bool := bif bif !decide (((FCheckR s) : Int) = 0) then true else !(FWithinR (FBoxR s) p) then (false) else (FInsideR_l0 s p (((((s.Edges.length : Int))) - 0).toNat + 1) 0 0)
def cInsideR (s : TShape) (p : TPoint) : FuncId × List Av × Ef := (16, [.agg (TShape.c s), .agg (TPoint.c p)], .val [] (.av (.one (.b (FInsideR s p)))))
theorem pInsideR (s : TShape) (p : TPoint) (hl : (s.Edges.length : Int) ≤ 1000000) : Pure Try.prog 16 (cInsideR s p).2.1 (.av (.one (.b (FInsideR s p)))) := by
  refine pure_of_awF Try.func16 rfl (by kernel_rfl) (by kernel_rfl) fun W0 M0 => ?_
  refine aw_seq ?_
  refine aw_region eqok [] [] [] [2, 3] [2, 3] [] ⟨[(2, tP 2 0), (3, tP 3 0)], [(2, .cells (TShape.c s) 26), (3, .cells (TPoint.c p) 29)]⟩ .nil (by kernel_rfl) .nil <| ath_n <| aw_seq ?_
  refine aw_draw mixed eqok [] [] [(10, cBoxR s), (12, cWithinR (FBoxR s) p)] [2, 3, 5] [2, 3] [Same (cBoxR s).2.1, Same (cWithinR (FBoxR s) p).2.1] ⟨[(2, tP 2 0), (3, tP 3 0), (5, tB (FWithinR (FBoxR s) p))], [(2, .cells (TShape.c s) 26), (3, .cells (TPoint.c p) 29)]⟩ (.cons (okBoxR s au0) (.cons (okWithinR (FBoxR s) p) .nil)) (by kernel_rfl) (by kernel_rfl) (.cons rfl (.cons rfl .nil)) <| ath_n ?_
  refine aw_seq <| aw_seq ?_
  refine aw_region eqok [] [] [(14, cCheckR s)] [2, 3, 19] [2, 3] [Same (cCheckR s).2.1, ((!decide (((FCheckR s) : Int) = 0)) = false) → ((!decide (((FCheckR s) : Int) = 0)) = false), (!decide (((FCheckR s) : Int) = 0)) = false → ((!decide (((FCheckR s) : Int) = 0)) = false)] ⟨[(2, tP 2 0), (3, tP 3 0), (19, tB (bif !decide (((FCheckR s) : Int) = 0) then true else !(FWithinR (FBoxR s) p)))], [(2, .cells (TShape.c s) 26), (3, .cells (TPoint.c p) 29)]⟩ (.cons (okCheckR s au0) .nil) (by kernel_rfl) (.cons rfl (.cons id (.cons id .nil))) <| ath_n ?_
  refine aw_cond (bif !decide (((FCheckR s) : Int) = 0) then true else !(FWithinR (FBoxR s) p)) (by kernel_rfl) (fun h1 => ?_) (fun h1 => ?_)
  · refine aw_seq ?_
    refine aw_region eqok [] [] [] [4] [] [] ⟨[(4, tB false)], []⟩ .nil (by kernel_rfl) .nil <| ath_n ?_
    refine aw_ret <| ath_r ?_
    exact ⟨_, Cv.refl _, .inl rfl, .av (.one (.b false)), by kernel_rfl, tve_eq (by first | (simp only [FInsideR, h1, cond_true, cond_false]; done) | (simp only [FInsideR, h1, cond_true, cond_false]; rfl))⟩
  · refine aw_skip <| ath_n <| aw_seq ?_
    refine aw_region eqok [] [] [] [2, 3, 6] [2, 3] [] ⟨[(2, tP 2 0), (3, tP 3 0), (6, tI 0)], [(2, .cells (TShape.c s) 26), (3, .cells (TPoint.c p) 29)]⟩ .nil (by kernel_rfl) .nil <| ath_n ?_
    refine aw_seq <| aw_seq ?_
    refine aw_region eqok [] [] [] [2, 3, 6, 7] [2, 3] [] ⟨[(2, tP 2 0), (3, tP 3 0), (6, tI 0), (7, tI 0)], [(2, .cells (TShape.c s) 26), (3, .cells (TPoint.c p) 29)]⟩ .nil (by kernel_rfl) .nil <| ath_n <| aw_block ?_
    refine aw_loopC (ι := Nat × Int × Int) (fun x => ⟨[(2, tP 2 0), (3, tP 3 0), (6, tI x.2.1), (7, tI x.2.2)], [(2, .cells (TShape.c s) 26), (3, .cells (TPoint.c p) 29)]⟩) (fun x => ((((s.Edges.length : Int))) - x.2.2).toNat < x.1 ∧ (0 ≤ x.2.2 ∧ (x.2.2 ≤ ((s.Edges.length : Int)) ∨ x.2.2 = 0)) ∧ FInsideR_l0 s p x.1 x.2.1 x.2.2 = FInsideR s p) (fun x => x.1) ?_ (((((s.Edges.length : Int))) - 0).toNat + 1, 0, 0) ⟨Nat.lt_succ_self _, ⟨(by show 0 ≤ 0; first | trivial | omega | (simp only [List.length_append, List.length_cons, List.length_nil]; omega) | (simp only [List.length_set, List.length_append, List.length_cons, List.length_nil]; omega) | (simp only [W64_def]; omega) | (simp; omega) | simp), (by show (0 ≤ ((s.Edges.length : Int)) ∨ 0 = 0); first | trivial | omega | (simp only [List.length_append, List.length_cons, List.length_nil]; omega) | (simp only [List.length_set, List.length_append, List.length_cons, List.length_nil]; omega) | (simp only [W64_def]; omega) | (simp; omega) | simp)⟩, (by simp only [FInsideR, h1, cond_true, cond_false])⟩
    rintro ⟨n0, winding, k⟩ ⟨hn, hinv, hF⟩
    have hm0 : ((((s.Edges.length : Int))) - k).toNat < n0 := hn; have hinv0 : 0 ≤ k ∧ (k ≤ ((s.Edges.length : Int)) ∨ k = 0) := hinv; have hF0 : FInsideR_l0 s p n0 winding k = FInsideR s p := hF; clear hn hinv hF
    cases n0 with
    | zero => exact absurd hm0 (Nat.not_lt_zero _)
    | succ n0 =>
      refine aw_seq <| aw_seq ?_
      refine aw_region eqok [] [] [] [2, 3, 6, 7, 24] [2, 3] [] ⟨[(2, tP 2 0), (3, tP 3 0), (6, tI winding), (7, tI k), (24, tB (decide ((k : Int) < ((s.Edges.length : Int)))))], [(2, .cells (TShape.c s) 26), (3, .cells (TPoint.c p) 29)]⟩ .nil (by kernel_rfl) .nil <| ath_n ?_
      refine aw_cond (decide ((k : Int) < ((s.Edges.length : Int)))) (by kernel_rfl) (fun h2 => ?_) (fun h2 => ?_)
      · have g2 := of_decide_eq_true h2
        refine aw_skip <| ath_n ?_
        refine aw_seq <| aw_block <| aw_seq ?_
        refine aw_draw mixed eqok [] [] [(35, cNearR (s.Edges.getD k.toNat default) p s.R)] [2, 3, 6, 7, 8] [2, 3] [0 ≤ (k : Int) ∧ (k : Int) < ((s.Edges.length : Nat) : Int), Same (cNearR (s.Edges.getD k.toNat default) p s.R).2.1] ⟨[(2, tP 2 0), (3, tP 3 0), (6, tI winding), (7, tI k), (8, tB (wInsideR_0 s k p))], [(2, .cells (TShape.c s) 26), (3, .cells (TPoint.c p) 29)]⟩ (.cons (okNearR (s.Edges.getD k.toNat default) p s.R) .nil) (by kernel_rfl) (by kernel_rfl) (.cons au1 (.cons rfl .nil)) <| ath_n ?_
        refine aw_seq <| aw_seq ?_
        refine aw_region eqok [] [] [] [2, 3, 6, 7, 36] [2, 3] [] ⟨[(2, tP 2 0), (3, tP 3 0), (6, tI winding), (7, tI k), (36, tB (wInsideR_0 s k p))], [(2, .cells (TShape.c s) 26), (3, .cells (TPoint.c p) 29)]⟩ .nil (by kernel_rfl) .nil <| ath_n ?_
        refine aw_cond (wInsideR_0 s k p) (by kernel_rfl) (fun h3 => ?_) (fun h3 => ?_)
        · refine aw_seq ?_
          refine aw_region eqok [] [] [] [4] [] [] ⟨[(4, tB true)], []⟩ .nil (by kernel_rfl) .nil <| ath_n ?_
          refine aw_ret <| ath_r ?_
          refine abl_r <| ath_r ?_
          refine ath_r <| abl_r <| ath_r ?_
          exact ⟨_, Cv.refl _, .inl rfl, .av (.one (.b true)), by kernel_rfl, tve_eq (by rw [← hF0]; first | (simp only [FInsideR_l0, h2, h3, cond_true, cond_false]; done) | (simp only [FInsideR_l0, h2, h3, cond_true, cond_false]; rfl))⟩
        · refine aw_skip <| ath_n ?_
          refine aw_draw mixed eqok [] [] [(44, cref06Ray (s.Edges.getD k.toNat default) p)] [2, 3, 6, 7] [2, 3] [0 ≤ (k : Int) ∧ (k : Int) < ((s.Edges.length : Nat) : Int), Same (cref06Ray (s.Edges.getD k.toNat default) p).2.1] ⟨[(2, tP 2 0), (3, tP 3 0), (6, tI (W64 (winding + (Fref06Ray (s.Edges.getD k.toNat default) p)))), (7, tI k)], [(2, .cells (TShape.c s) 26), (3, .cells (TPoint.c p) 29)]⟩ (.cons (okref06Ray (s.Edges.getD k.toNat default) p) .nil) (by kernel_rfl) (by kernel_rfl) (.cons au1 (.cons rfl .nil)) <| abl_n <| ath_n ?_
          refine aw_region eqok [] [] [] [2, 3, 6, 7] [2, 3] [] ⟨[(2, tP 2 0), (3, tP 3 0), (6, tI (W64 (winding + (Fref06Ray (s.Edges.getD k.toNat default) p)))), (7, tI (W64 (k + 1)))], [(2, .cells (TShape.c s) 26), (3, .cells (TPoint.c p) 29)]⟩ .nil (by kernel_rfl) .nil ?_
          (try rw [(show W64 (k + 1) = k + 1 from W64_id (by omega) au4)])
          refine ath_n ?_
          refine ⟨(n0, W64 (winding + (Fref06Ray (s.Edges.getD k.toNat default) p)), k + 1), ⟨?_, ?_, (by rw [← hF0]; simp only [FInsideR_l0, h2, h3, cond_true, cond_false])⟩, Nat.lt_succ_self _, cv_eq (by kernel_rfl)⟩
          · show ((((s.Edges.length : Int))) - (k + 1)).toNat < n0; omega
          · exact ⟨(by show 0 ≤ (k + 1); first | trivial | omega | (simp only [List.length_append, List.length_cons, List.length_nil]; omega) | (simp only [List.length_set, List.length_append, List.length_cons, List.length_nil]; omega) | (simp only [W64_def]; omega) | (simp; omega) | simp), (by show ((k + 1) ≤ ((s.Edges.length : Int)) ∨ (k + 1) = 0); first | trivial | omega | (simp only [List.length_append, List.length_cons, List.length_nil]; omega) | (simp only [List.length_set, List.length_append, List.length_cons, List.length_nil]; omega) | (simp only [W64_def]; omega) | (simp; omega) | simp)⟩
      · have g2 := of_decide_eq_false h2
        refine aw_exit <| ath_e ?_
        refine ath_e <| abl_hit ?_
        refine ath_n <| aw_seq ?_
        refine aw_region eqok [] [] [] [4] [] [((decide ((s.Kind : Int) = 2)) = true) → ((decide ((s.Kind : Int) = 2)) = true), (decide ((s.Kind : Int) = 2)) = true → ((decide ((s.Kind : Int) = 2)) = true)] ⟨[(4, tB (bif decide ((s.Kind : Int) = 2) then !decide ((winding : Int) = 0) else false))], []⟩ .nil (by kernel_rfl) (.cons id (.cons id .nil)) <| ath_n <| aw_ret ?_
        exact ⟨_, Cv.refl _, .inl rfl, .av (.one (.b (bif decide ((s.Kind : Int) = 2) then !decide ((winding : Int) = 0) else false))), by kernel_rfl, tve_eq (by rw [← hF0]; first | (simp only [FInsideR_l0, h2, cond_true, cond_false]; done) | (simp only [FInsideR_l0, h2, cond_true, cond_false]; rfl))⟩
theorem okInsideR (s : TShape) (p : TPoint) (hl : (s.Edges.length : Int) ≤ 1000000) : CallOk Try.prog (cInsideR s p).1 (cInsideR s p).2.1 (cInsideR s p).2.2 := callOk_pure (fun _ _ => by kernel_rfl) fun _ => pInsideR s p hl
end Go.Proofs.Ytpnlegfdkkcnlaa
namespace Go.Proofs.Ytpnlegfdkkcnlaa
set_option maxRecDepth 100000
open Go.RowKit
set_option linter.unusedVariables false
set_option linter.unusedSimpArgs false
def wLoop_1 (l : (List TPoint)) (k : Int) : TPoint := l.getD ((Int.tmod (W64 (k + 1)) ((l.length : Int))).toNat) default
def FLoop_l0 (l : (List TPoint)) : Nat → List TEdge → Int → TShape
  | 0, _, _ => default
  | n0 + 1, s_1, k => bif decide ((k : Int) < ((l.length : Int))) then ((FLoop_l0 l n0) (s_1 ++ [TEdge.mk 1 (l.getD k.toNat default) (wLoop_1 l k) (TPoint.mk 0 0)]) (k + 1)) else (TShape.mk 2 s_1 0)
def FLoop (l : (List TPoint)) : TShape := FLoop_l0 l (((((l.length : Int))) - 0).toNat + 1) (([] : List TEdge)) 0
def cLoop (l : (List TPoint)) : FuncId × List Av × Ef := (41, [.one (lst 2 TPoint.c l)], .val [] (.av (.agg (TShape.c (FLoop l)))))
theorem pLoop (l : (List TPoint)) (h0 : (l.length : Int) ≤ 1000000) : Pure Try.prog 41 (cLoop l).2.1 (.av (.agg (TShape.c (FLoop l)))) := by
  refine pure_of_awF Try.func41 rfl (by kernel_rfl) (by kernel_rfl) fun W0 M0 => ?_
  refine aw_seq ?_
  refine aw_region eqok [] [] [] [0, 2] [2] [] ⟨[(0, .av (.one (lst 2 TPoint.c l))), (2, tP 2 0)], [(2, .cells [.i 0, .val (.slice none 0 0), .i 0] 26)]⟩ .nil (by kernel_rfl) .nil <| ath_n <| aw_seq ?_
  refine aw_region eqok [] [] [] [0, 2, 3] [2, 3] [] ⟨[(0, .av (.one (lst 2 TPoint.c l))), (2, tP 2 0), (3, tP 3 0)], [(2, .cells [.i 0, .val (.slice none 0 0), .i 0] 26), (3, .cells [.i 2, .val (.slice none 0 0), .i 0] 26)]⟩ .nil (by kernel_rfl) .nil <| ath_n ?_
  refine aw_seq <| aw_seq ?_
  refine aw_region eqok [] [] [] [0, 2, 3, 4] [2, 3] [] ⟨[(0, .av (.one (lst 2 TPoint.c l))), (2, tP 2 0), (3, tP 3 0), (4, tI 0)], [(2, .cells [.i 0, .val (.slice none 0 0), .i 0] 26), (3, .cells [.i 2, .val (.slice none 0 0), .i 0] 26)]⟩ .nil (by kernel_rfl) .nil <| ath_n <| aw_block ?_
  refine aw_cv (Cv.trans (cv_ghost (⟨[(0, .av (.one (lst 2 TPoint.c l))), (2, tP 2 0), (3, tP 3 0), (4, tI 0)], [(100000, .row 7 0 (fun _ _ => default) 35), (2, .cells [.i 0, .val (.slice none 0 0), .i 0] 26), (3, .cells [.i 2, .own 100000 7 0, .i 0] 26)]⟩) 100000 7 (fun _ _ => default) 35 [] [(3, [1])] (K := none) (fun k x h => by cases h) rfl (by kernel_rfl) (by kernel_rfl)) (Cv.trans (cv_ce (⟨[(0, .av (.one (lst 2 TPoint.c l))), (2, tP 2 0), (3, tP 3 0), (4, tI 0)], [(100000, .row 7 ((([] : List TEdge)).length) (rowF TEdge.c (([] : List TEdge))) 35), (2, .cells [.i 0, .val (.slice none 0 0), .i 0] 26), (3, .cells [.i 2, .own 100000 7 ((([] : List TEdge)).length), .i 0] 26)]⟩) (.cons ⟨rfl, .refl _⟩ (.cons ⟨rfl, .refl _⟩ (.cons ⟨rfl, .refl _⟩ (.cons ⟨rfl, .refl _⟩ .nil)))) (.cons ⟨rfl, bke_told 35 (told_nil 7 (fun _ _ => default) TEdge.c)⟩ (.cons ⟨rfl, .refl _⟩ (.cons ⟨rfl, .cells _ (.cons (.refl _) (.cons (.own _ _ au3) (.cons (.refl _) .nil)))⟩ .nil)))) (Cv.trans (cv_keep [0, 2, 3, 4] [2, 3, 100000] (⟨[(0, .av (.one (lst 2 TPoint.c l))), (2, tP 2 0), (3, tP 3 0), (4, tI 0)], [(2, .cells [.i 0, .val (.slice none 0 0), .i 0] 26), (3, .cells [.i 2, .own 100000 7 ((([] : List TEdge)).length), .i 0] 26), (100000, .row 7 ((([] : List TEdge)).length) (rowF TEdge.c (([] : List TEdge))) 35)]⟩) (by kernel_rfl)) (Cv.refl _)))) ?_
  refine aw_loopC (ι := Nat × List TEdge × Int) (fun x => ⟨[(0, .av (.one (lst 2 TPoint.c l))), (2, tP 2 0), (3, tP 3 0), (4, tI x.2.2)], [(2, .cells [.i 0, .val (.slice none 0 0), .i 0] 26), (3, .cells [.i 2, .own 100000 7 x.2.1.length, .i 0] 26), (100000, .row 7 x.2.1.length (rowF TEdge.c x.2.1) 35)]⟩) (fun x => ((((l.length : Int))) - x.2.2).toNat < x.1 ∧ (0 ≤ x.2.2 ∧ (x.2.2 ≤ ((l.length : Int)) ∨ x.2.2 = 0) ∧ (x.2.1.length : Int) ≤ 0 + 1 * (x.2.2 - 0)) ∧ FLoop_l0 l x.1 x.2.1 x.2.2 = FLoop l) (fun x => x.1) ?_ (((((l.length : Int))) - 0).toNat + 1, ([] : List TEdge), 0) ⟨Nat.lt_succ_self _, ⟨(by show 0 ≤ 0; first | trivial | omega | (simp only [List.length_append, List.length_cons, List.length_nil]; omega) | (simp only [List.length_set, List.length_append, List.length_cons, List.length_nil]; omega) | (simp only [W64_def]; omega) | (simp; omega) | simp), (by show (0 ≤ ((l.length : Int)) ∨ 0 = 0); first | trivial | omega | (simp only [List.length_append, List.length_cons, List.length_nil]; omega) | (simp only [List.length_set, List.length_append, List.length_cons, List.length_nil]; omega) | (simp only [W64_def]; omega) | (simp; omega) | simp), (by show ((([] : List TEdge)).length : Int) ≤ 0 + 1 * (0 - 0); first | trivial | omega | (simp only [List.length_append, List.length_cons, List.length_nil]; omega) | (simp only [List.length_set, List.length_append, List.length_cons, List.length_nil]; omega) | (simp only [W64_def]; omega) | (simp; omega) | simp)⟩, (by simp only [FLoop, cond_true, cond_false])⟩
  rintro ⟨n0, s_1, k⟩ ⟨hn, hinv, hF⟩
  have hm0 : ((((l.length : Int))) - k).toNat < n0 := hn; have hinv0 : 0 ≤ k ∧ (k ≤ ((l.length : Int)) ∨ k = 0) ∧ (s_1.length : Int) ≤ 0 + 1 * (k - 0) := hinv; have hF0 : FLoop_l0 l n0 s_1 k = FLoop l := hF; clear hn hinv hF
  cases n0 with
  | zero => exact absurd hm0 (Nat.not_lt_zero _)
  | succ n0 =>
    refine aw_seq <| aw_seq ?_
    refine aw_region eqok [] [] [] [0, 2, 3, 4, 9] [2, 3, 100000] [] ⟨[(0, .av (.one (lst 2 TPoint.c l))), (2, tP 2 0), (3, tP 3 0), (4, tI k), (9, tB (decide ((k : Int) < ((l.length : Int)))))], [(2, .cells [.i 0, .val (.slice none 0 0), .i 0] 26), (3, .cells [.i 2, .own 100000 7 s_1.length, .i 0] 26), (100000, .row 7 s_1.length (rowF TEdge.c s_1) 35)]⟩ .nil (by kernel_rfl) .nil <| ath_n ?_
    refine aw_cond (decide ((k : Int) < ((l.length : Int)))) (by kernel_rfl) (fun h1 => ?_) (fun h1 => ?_)
    · have g1 := of_decide_eq_true h1
      refine aw_skip <| ath_n ?_
      refine aw_seq <| aw_block ?_
      refine aw_draw mixed eqok [] [] [] [0, 2, 3, 4] [2, 3, 28] [0 ≤ (k : Int) ∧ (k : Int) < ((l.length : Nat) : Int), ((l.length : Int) : Int) ≠ 0, 0 ≤ (Int.tmod (W64 (k + 1)) ((l.length : Int)) : Int) ∧ (Int.tmod (W64 (k + 1)) ((l.length : Int)) : Int) < ((l.length : Nat) : Int), s_1.length = s_1.length, s_1.length + 1 ≤ maxLen, (s_1.length + 1) * 56 ≤ 140737488355328] ⟨[(0, .av (.one (lst 2 TPoint.c l))), (2, tP 2 0), (3, tP 3 0), (4, tI k)], [(2, .cells [.i 0, .val (.slice none 0 0), .i 0] 26), (3, .cells [.i 2, .own 28 7 (s_1.length + 1), .i 0] 26), (28, .row 7 (s_1.length + 1) (fun i j => if i < s_1.length then (rowF TEdge.c s_1) i j else (colsC 7 1 [.i 1, .i ((l.getD k.toNat default).X), .i ((l.getD k.toNat default).Y), .i ((wLoop_1 l k).X), .i ((wLoop_1 l k).Y), .i 0, .i 0]) (i - s_1.length) j) 35)]⟩ .nil (by kernel_rfl) (by kernel_rfl) (.cons au1 (.cons au5 (.cons au1 (.cons rfl (.cons au2 (.cons au2 .nil)))))) <| abl_n <| ath_n ?_
      refine aw_cv (Cv.trans (cv_ce (⟨[(0, .av (.one (lst 2 TPoint.c l))), (2, tP 2 0), (3, tP 3 0), (4, tI k)], [(2, .cells [.i 0, .val (.slice none 0 0), .i 0] 26), (3, .cells [.i 2, .own 28 7 ((s_1 ++ [TEdge.mk 1 (l.getD k.toNat default) (wLoop_1 l k) (TPoint.mk 0 0)]).length), .i 0] 26), (28, .row 7 ((s_1 ++ [TEdge.mk 1 (l.getD k.toNat default) (wLoop_1 l k) (TPoint.mk 0 0)]).length) (rowF TEdge.c (s_1 ++ [TEdge.mk 1 (l.getD k.toNat default) (wLoop_1 l k) (TPoint.mk 0 0)])) 35)]⟩) (.cons ⟨rfl, .refl _⟩ (.cons ⟨rfl, .refl _⟩ (.cons ⟨rfl, .refl _⟩ (.cons ⟨rfl, .refl _⟩ .nil)))) (.cons ⟨rfl, .refl _⟩ (.cons ⟨rfl, .cells _ (.cons (.refl _) (.cons (.own _ _ au3) (.cons (.refl _) .nil)))⟩ (.cons ⟨rfl, bke_told 35 (told_app (told_rfl 7 TEdge.c s_1) (told_lit (c := TEdge.c) (xs := ([TEdge.mk 1 (l.getD k.toNat default) (wLoop_1 l k) (TPoint.mk 0 0)] : List TEdge)) rfl (by kernel_rfl)))⟩ .nil)))) (Cv.refl _)) ?_
      refine aw_region eqok [] [] [] [0, 2, 3, 4] [2, 3, 28] [] ⟨[(0, .av (.one (lst 2 TPoint.c l))), (2, tP 2 0), (3, tP 3 0), (4, tI (W64 (k + 1)))], [(2, .cells [.i 0, .val (.slice none 0 0), .i 0] 26), (3, .cells [.i 2, .own 28 7 ((s_1 ++ [TEdge.mk 1 (l.getD k.toNat default) (wLoop_1 l k) (TPoint.mk 0 0)]).length), .i 0] 26), (28, .row 7 ((s_1 ++ [TEdge.mk 1 (l.getD k.toNat default) (wLoop_1 l k) (TPoint.mk 0 0)]).length) (rowF TEdge.c (s_1 ++ [TEdge.mk 1 (l.getD k.toNat default) (wLoop_1 l k) (TPoint.mk 0 0)])) 35)]⟩ .nil (by kernel_rfl) .nil ?_
      (try rw [(show W64 (k + 1) = k + 1 from W64_id (by omega) au4)])
      refine ath_n ?_
      refine ⟨(n0, s_1 ++ [TEdge.mk 1 (l.getD k.toNat default) (wLoop_1 l k) (TPoint.mk 0 0)], k + 1), ⟨?_, ?_, (by rw [← hF0]; simp only [FLoop_l0, h1, cond_true, cond_false])⟩, Nat.lt_succ_self _, Cv.trans (cv_ren (⟨[(0, .av (.one (lst 2 TPoint.c l))), (2, tP 2 0), (3, tP 3 0), (4, tI (k + 1))], [(2, .cells [.i 0, .val (.slice none 0 0), .i 0] 26), (3, .cells [.i 2, .own 100000 7 ((s_1 ++ [TEdge.mk 1 (l.getD k.toNat default) (wLoop_1 l k) (TPoint.mk 0 0)]).length), .i 0] 26), (100000, .row 7 ((s_1 ++ [TEdge.mk 1 (l.getD k.toNat default) (wLoop_1 l k) (TPoint.mk 0 0)]).length) (rowF TEdge.c (s_1 ++ [TEdge.mk 1 (l.getD k.toNat default) (wLoop_1 l k) (TPoint.mk 0 0)])) 35)]⟩) 28 100000 (K := none) (fun k x h => by cases h) rfl rfl (by kernel_rfl) (by kernel_rfl)) (cv_eq (by kernel_rfl))⟩
      · show ((((l.length : Int))) - (k + 1)).toNat < n0; omega
      · exact ⟨(by show 0 ≤ (k + 1); first | trivial | omega | (simp only [List.length_append, List.length_cons, List.length_nil]; omega) | (simp only [List.length_set, List.length_append, List.length_cons, List.length_nil]; omega) | (simp only [W64_def]; omega) | (simp; omega) | simp), (by show ((k + 1) ≤ ((l.length : Int)) ∨ (k + 1) = 0); first | trivial | omega | (simp only [List.length_append, List.length_cons, List.length_nil]; omega) | (simp only [List.length_set, List.length_append, List.length_cons, List.length_nil]; omega) | (simp only [W64_def]; omega) | (simp; omega) | simp), (by show ((s_1 ++ [TEdge.mk 1 (l.getD k.toNat default) (wLoop_1 l k) (TPoint.mk 0 0)]).length : Int) ≤ 0 + 1 * ((k + 1) - 0); first | trivial | omega | (simp only [List.length_append, List.length_cons, List.length_nil]; omega) | (simp only [List.length_set, List.length_append, List.length_cons, List.length_nil]; omega) | (simp only [W64_def]; omega) | (simp; omega) | simp)⟩
    · have g1 := of_decide_eq_false h1
      refine aw_exit <| ath_e ?_
      refine ath_e <| abl_hit ?_
      refine ath_n <| aw_seq ?_
      refine aw_region eqok [] [] [] [2] [2, 100000] [] ⟨[(2, tP 2 0)], [(2, .cells [.i 2, .own 100000 7 s_1.length, .i 0] 26), (100000, .row 7 s_1.length (rowF TEdge.c s_1) 35)]⟩ .nil (by kernel_rfl) .nil <| ath_n <| aw_ret ?_
      exact ⟨_, Cv.trans (cv_fz (⟨[(2, tP 2 0)], [(2, .cells [.i 2, lst 7 TEdge.c s_1, .i 0] 26)]⟩) 100000 7 s_1.length (rowF TEdge.c s_1) 35 (K := none) (fun k x h => by cases h) (by kernel_rfl) (by kernel_rfl) (.cons ⟨rfl, rfl⟩ .nil) (by kernel_rfl)) (Cv.refl _), .inl rfl, .av (.agg [.i 2, lst 7 TEdge.c s_1, .i 0]), by kernel_rfl, tve_eq (by rw [← hF0]; first | (simp only [FLoop_l0, h1, cond_true, cond_false]; done) | (simp only [FLoop_l0, h1, cond_true, cond_false]; rfl))⟩
theorem okLoop (l : (List TPoint)) (h0 : (l.length : Int) ≤ 1000000) : CallOk Try.prog (cLoop l).1 (cLoop l).2.1 (cLoop l).2.2 := callOk_pure (fun _ _ => by kernel_rfl) fun _ => pLoop l h0
def wRectR_0 (r : TRect) : TShape := FLoop [TPoint.mk r.X0 r.Y0, TPoint.mk r.X1 r.Y0, TPoint.mk r.X1 r.Y1, TPoint.mk r.X0 r.Y1]
def FRectR (r : TRect) : TShape := wRectR_0 r
def cRectR (r : TRect) : FuncId × List Av × Ef := (36, [.agg (TRect.c r)], .val [] (.av (.agg (TShape.c (FRectR r)))))
theorem pRectR (r : TRect) : Pure Try.prog 36 (cRectR r).2.1 (.av (.agg (TShape.c (FRectR r)))) := by
  refine pure_of_awF Try.func36 rfl (by kernel_rfl) (by kernel_rfl) fun W0 M0 => ?_
  refine aw_seq ?_
  refine aw_region eqok [] [] [] [1, 2] [1, 2] [] ⟨[(1, tP 1 0), (2, tP 2 0)], [(1, .cells (TRect.c r) 54), (2, .cells [.i 0, .val (.slice none 0 0), .i 0] 26)]⟩ .nil (by kernel_rfl) .nil <| ath_n <| aw_seq ?_
  refine aw_region eqok [] [] [(24, ceI [.one (.list true 2 4 (colsC 2 4 [.i r.X0, .i r.Y0, .i r.X1, .i r.Y0, .i r.X1, .i r.Y1, .i r.X0, .i r.Y1]))] (cLoop [TPoint.mk r.X0 r.Y0, TPoint.mk r.X1 r.Y0, TPoint.mk r.X1 r.Y1, TPoint.mk r.X0 r.Y1]))] [2] [2] [Same (ceI [.one (.list true 2 4 (colsC 2 4 [.i r.X0, .i r.Y0, .i r.X1, .i r.Y0, .i r.X1, .i r.Y1, .i r.X0, .i r.Y1]))] (cLoop [TPoint.mk r.X0 r.Y0, TPoint.mk r.X1 r.Y0, TPoint.mk r.X1 r.Y1, TPoint.mk r.X0 r.Y1])).2.1] ⟨[(2, tP 2 0)], [(2, .cells (TShape.c (wRectR_0 r)) 26)]⟩ (.cons (callOk_ce (okLoop [TPoint.mk r.X0 r.Y0, TPoint.mk r.X1 r.Y0, TPoint.mk r.X1 r.Y1, TPoint.mk r.X0 r.Y1] au0) (.cons (.one (cle_told true (told_lit (c := TPoint.c) (xs := ([TPoint.mk r.X0 r.Y0, TPoint.mk r.X1 r.Y0, TPoint.mk r.X1 r.Y1, TPoint.mk r.X0 r.Y1] : List TPoint)) rfl (by kernel_rfl)))) .nil)) .nil) (by kernel_rfl) (.cons rfl .nil) <| ath_n <| aw_ret ?_
  exact ⟨_, Cv.refl _, .inl rfl, .av (.agg (TShape.c (wRectR_0 r))), by kernel_rfl, tve_eq (by rfl)⟩
theorem okRectR (r : TRect) : CallOk Try.prog (cRectR r).1 (cRectR r).2.1 (cRectR r).2.2 := callOk_pure (fun _ _ => by kernel_rfl) fun _ => pRectR r
def FDiscR (x0 : TPoint) (x1 : Int) : TShape := TShape.mk 1 [TEdge.mk 1 x0 x0 (TPoint.mk 0 0)] x1
def cDiscR (x0 : TPoint) (x1 : Int) : FuncId × List Av × Ef := (35, [.agg (TPoint.c x0), .one (.i x1)], .val [] (.av (.agg (TShape.c (FDiscR x0 x1)))))
theorem pDiscR (x0 : TPoint) (x1 : Int) : Pure Try.prog 35 (cDiscR x0 x1).2.1 (.av (.agg (TShape.c (FDiscR x0 x1)))) := by
  refine pure_of_awF Try.func35 rfl (by kernel_rfl) (by kernel_rfl) fun W0 M0 => ?_
  refine aw_seq ?_
  refine aw_region eqok [] [] [] [1, 2, 4] [2, 4] [] ⟨[(1, tI x1), (2, tP 2 0), (4, tP 4 0)], [(2, .cells (TPoint.c x0) 29), (4, .cells [.i 0, .val (.slice none 0 0), .i 0] 26)]⟩ .nil (by kernel_rfl) .nil <| ath_n <| aw_seq ?_
  refine aw_region eqok [] [] [] [4] [4] [] ⟨[(4, tP 4 0)], [(4, .cells [.i 1, .list true 7 1 (colsC 7 1 [.i 1, .i x0.X, .i x0.Y, .i x0.X, .i x0.Y, .i 0, .i 0]), .i x1] 26)]⟩ .nil (by kernel_rfl) .nil <| ath_n <| aw_ret ?_
  exact ⟨_, Cv.refl _, .inl rfl, .av (.agg [.i 1, .list true 7 1 (colsC 7 1 [.i 1, .i x0.X, .i x0.Y, .i x0.X, .i x0.Y, .i 0, .i 0]), .i x1]), by kernel_rfl, tve_of (y := .av (.agg [.i 1, lst 7 TEdge.c [TEdge.mk 1 x0 x0 (TPoint.mk 0 0)], .i x1])) (.av (.agg (.cons (.refl _) (.cons (cle_told true (told_lit (c := TEdge.c) (xs := ([TEdge.mk 1 x0 x0 (TPoint.mk 0 0)] : List TEdge)) rfl (by kernel_rfl))) (.cons (.refl _) .nil))))) (by rfl)⟩
theorem okDiscR (x0 : TPoint) (x1 : Int) : CallOk Try.prog (cDiscR x0 x1).1 (cDiscR x0 x1).2.1 (cDiscR x0 x1).2.2 := callOk_pure (fun _ _ => by kernel_rfl) fun _ => pDiscR x0 x1
end Go.Proofs.Ytpnlegfdkkcnlaa
