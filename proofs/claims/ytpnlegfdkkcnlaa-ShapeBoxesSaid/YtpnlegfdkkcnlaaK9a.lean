/-
  No statement is proved in this text. It holds what functions return.
-/
import Derived.Test.YtpnlegfdkkcnlaaProg
import Derived.Test.YtpnlegfdkkcnlaaBk2b
namespace Go.Proofs.Ytpnlegfdkkcnlaa
open Go.RowKit
set_option linter.unusedVariables false
set_option linter.unusedSimpArgs false
def wAt9_0 (l : (List Int)) : FuncId × List Av × Ef := (38, ([.one (.ptr 1000 0), .one (.i 100)] : List Av).map (renA 1000 12), wrI 12 (.cells [lst 1 (fun x => [.i x]) l, .i 0] 69) (tI ((FNext (TDraw.mk l 0) 100).1)) (.cells (TDraw.c ((FNext (TDraw.mk l 0) 100).2)) 69))
def wAt9_1 (l : (List Int)) : FuncId × List Av × Ef := (38, ([.one (.ptr 1000 0), .one (.i 5)] : List Av).map (renA 1000 12), wrI 12 (.cells (TDraw.c ((FNext (TDraw.mk l 0) 100).2)) 69) (tI ((FNext ((FNext (TDraw.mk l 0) 100).2) 5).1)) (.cells (TDraw.c ((FNext ((FNext (TDraw.mk l 0) 100).2) 5).2)) 69))
def wAt9_3 (s : TShape) (l : (List Int)) : TEdge := s.Edges.getD ((Int.tmod ((FNext (TDraw.mk l 0) 100).1) ((s.Edges.length : Int))).toNat) default
def wAt9_4 (s : TShape) (l : (List Int)) : TPoint := FAt06 (wAt9_3 s l) (l.drop (min ((l.length : Int)) 2 : Int).toNat)
def wAt9_5 (s : TShape) (l : (List Int)) : TPoint := Fref05Add (wAt9_4 s l) (TPoint.mk (W64 (Int.tdiv (W64 (3 * s.R)) 5)) (W64 (Int.tdiv (W64 (4 * s.R)) 5)))
def FAt9 (s : TShape) (l : (List Int)) : TPoint := bif decide ((((s.Edges.length : Int)) : Int) = 0) then (TPoint.mk 0 0) else (TPoint.mk (bif decide ((((FNext ((FNext (TDraw.mk l 0) 100).2) 5).1) : Int) = 1) then (W64 (((wAt9_4 s l).X) + s.R)) else (bif decide ((((FNext ((FNext (TDraw.mk l 0) 100).2) 5).1) : Int) = 2) then ((wAt9_4 s l).X) else (bif decide ((((FNext ((FNext (TDraw.mk l 0) 100).2) 5).1) : Int) = 3) then ((wAt9_5 s l).X) else ((wAt9_4 s l).X)))) (bif decide ((((FNext ((FNext (TDraw.mk l 0) 100).2) 5).1) : Int) = 1) then ((wAt9_4 s l).Y) else (bif decide ((((FNext ((FNext (TDraw.mk l 0) 100).2) 5).1) : Int) = 2) then (W64 (((wAt9_4 s l).Y) - s.R)) else (bif decide ((((FNext ((FNext (TDraw.mk l 0) 100).2) 5).1) : Int) = 3) then ((wAt9_5 s l).Y) else ((wAt9_4 s l).Y)))))
def cAt9 (s : TShape) (l : (List Int)) : FuncId × List Av × Ef := (13, [.agg (TShape.c s), .one (lst 1 (fun x => [.i x]) l)], .val [] (.av (.agg (TPoint.c (FAt9 s l)))))
set_option maxRecDepth 100000 in
theorem pAt9 (s : TShape) (l : (List Int)) (hl : (l.length : Int) ≤ 9223372036854775807) (h0 : (s.Edges.length : Int) ≤ 1000000) : Pure Try.prog 13 (cAt9 s l).2.1 (.av (.agg (TPoint.c (FAt9 s l)))) := by
  refine pure_of_awF Try.func13 rfl (by kernel_rfl) (by kernel_rfl) fun W0 M0 => ?_
  have hd0 := draw_new hl
  refine aw_seq ?_
  refine aw_region eqok [] [] [] [1, 2, 4] [2, 4] [] ⟨[(1, .av (.one (lst 1 (fun x => [.i x]) l))), (2, tP 2 0), (4, tP 4 0)], [(2, .cells (TShape.c s) 26), (4, .cells [.i 0, .i 0] 29)]⟩ .nil (by kernel_rfl) .nil ?_
  refine ath_n ?_
  refine aw_seq ?_
  refine aw_region eqok [] [] [] [1, 2, 4, 5] [2, 4, 12] [] ⟨[(1, .av (.one (lst 1 (fun x => [.i x]) l))), (2, tP 2 0), (4, tP 4 0), (5, tP 12 0)], [(2, .cells (TShape.c s) 26), (4, .cells [.i 0, .i 0] 29), (12, .cells [lst 1 (fun x => [.i x]) l, .i 0] 69)]⟩ .nil (by kernel_rfl) .nil ?_
  refine ath_n ?_
  refine aw_seq ?_
  refine aw_region eqok [] [] [(14, (wAt9_0 l))] [1, 2, 4, 5, 6] [2, 4, 12] [Same ((wAt9_0 l)).2.1, SameB (.cells [lst 1 (fun x => [.i x]) l, .i 0] 69)] ⟨[(1, .av (.one (lst 1 (fun x => [.i x]) l))), (2, tP 2 0), (4, tP 4 0), (5, tP 12 0), (6, tI ((FNext (TDraw.mk l 0) 100).1))], [(2, .cells (TShape.c s) 26), (4, .cells [.i 0, .i 0] 29), (12, .cells (TDraw.c ((FNext (TDraw.mk l 0) 100).2)) 69)]⟩ (.cons (callOk_wr (fun _ _ => by kernel_rfl) (by kernel_rfl) (by kernel_rfl) (pNext (TDraw.mk l 0) 100 (by repeat (first | assumption | exact draw_new (by assumption) | refine next_ok ?_ | refine near_ok ?_ | refine draw_bif ?_ ?_ | refine hKd _ _ ?_ | refine cond_dk _ ?_)) (by first | decide | omega | (simp only [W64_def]; omega)))) .nil) (by kernel_rfl) (.cons rfl (.cons rfl .nil)) ?_
  refine ath_n ?_
  refine aw_seq ?_
  refine aw_region eqok [] [] [(16, (wAt9_1 l))] [1, 2, 4, 6, 7] [2, 4] [Same ((wAt9_1 l)).2.1, SameB (.cells (TDraw.c ((FNext (TDraw.mk l 0) 100).2)) 69)] ⟨[(1, .av (.one (lst 1 (fun x => [.i x]) l))), (2, tP 2 0), (4, tP 4 0), (6, tI ((FNext (TDraw.mk l 0) 100).1)), (7, tI ((FNext ((FNext (TDraw.mk l 0) 100).2) 5).1))], [(2, .cells (TShape.c s) 26), (4, .cells [.i 0, .i 0] 29)]⟩ (.cons (callOk_wr (fun _ _ => by kernel_rfl) (by kernel_rfl) (by kernel_rfl) (pNext ((FNext (TDraw.mk l 0) 100).2) 5 (by repeat (first | assumption | exact draw_new (by assumption) | refine next_ok ?_ | refine near_ok ?_ | refine draw_bif ?_ ?_ | refine hKd _ _ ?_ | refine cond_dk _ ?_)) (by first | decide | omega | (simp only [W64_def]; omega)))) .nil) (by kernel_rfl) (.cons rfl (.cons rfl .nil)) ?_
  refine ath_n ?_
  refine aw_seq ?_
  refine aw_seq ?_
  refine aw_region eqok [] [] [] [1, 2, 4, 6, 7, 20] [2, 4] [] ⟨[(1, .av (.one (lst 1 (fun x => [.i x]) l))), (2, tP 2 0), (4, tP 4 0), (6, tI ((FNext (TDraw.mk l 0) 100).1)), (7, tI ((FNext ((FNext (TDraw.mk l 0) 100).2) 5).1)), (20, tB (decide ((((s.Edges.length : Int)) : Int) = 0)))], [(2, .cells (TShape.c s) 26), (4, .cells [.i 0, .i 0] 29)]⟩ .nil (by kernel_rfl) .nil ?_
  refine ath_n ?_
  refine aw_cond (decide ((((s.Edges.length : Int)) : Int) = 0)) (by kernel_rfl) (fun h1 => ?_) (fun h1 => ?_)
  · have g1 := of_decide_eq_true h1
    refine aw_seq ?_
    refine aw_region eqok [] [] [] [4] [4] [] ⟨[(4, tP 4 0)], [(4, .cells [.i 0, .i 0] 29)]⟩ .nil (by kernel_rfl) .nil ?_
    refine ath_n ?_
    refine aw_ret ?_
    refine ath_r ?_
    exact ⟨_, Cv.refl _, .inl rfl, .av (.agg [.i 0, .i 0]), by kernel_rfl, tve_eq (by first | (simp only [FAt9, h1, cond_true, cond_false]; done) | (simp only [FAt9, h1, cond_true, cond_false]; rfl))⟩
  · have g1 := of_decide_eq_false h1
    refine aw_skip ?_
    refine ath_n ?_
    refine aw_seq ?_
    refine aw_draw mixed eqok [] [] [(36, ceI [.agg (TEdge.c (wAt9_3 s l)), .one (.list false 1 ((((l.length : Nat) : Int) : Int).toNat - (min ((l.length : Int)) 2 : Int).toNat) (fun i j => (rowF (fun x => [.i x]) l) (i + (min ((l.length : Int)) 2 : Int).toNat) j))] (cAt06 (wAt9_3 s l) (l.drop (min ((l.length : Int)) 2 : Int).toNat)))] [2, 4, 7, 8] [2, 4, 8] [((s.Edges.length : Int) : Int) ≠ 0, 0 ≤ (Int.tmod ((FNext (TDraw.mk l 0) 100).1) ((s.Edges.length : Int)) : Int) ∧ (Int.tmod ((FNext (TDraw.mk l 0) 100).1) ((s.Edges.length : Int)) : Int) < ((s.Edges.length : Nat) : Int), 0 ≤ (min ((l.length : Int)) 2 : Int) ∧ (min ((l.length : Int)) 2 : Int) ≤ (((l.length : Nat) : Int) : Int) ∧ (((l.length : Nat) : Int) : Int) ≤ ((l.length : Nat) : Int), Same (ceI [.agg (TEdge.c (wAt9_3 s l)), .one (.list false 1 ((((l.length : Nat) : Int) : Int).toNat - (min ((l.length : Int)) 2 : Int).toNat) (fun i j => (rowF (fun x => [.i x]) l) (i + (min ((l.length : Int)) 2 : Int).toNat) j))] (cAt06 (wAt9_3 s l) (l.drop (min ((l.length : Int)) 2 : Int).toNat))).2.1] ⟨[(2, tP 2 0), (4, tP 4 0), (7, tI ((FNext ((FNext (TDraw.mk l 0) 100).2) 5).1)), (8, tP 8 0)], [(2, .cells (TShape.c s) 26), (4, .cells [.i 0, .i 0] 29), (8, .cells (TPoint.c (wAt9_4 s l)) 29)]⟩ (.cons (callOk_ce (okAt06 (wAt9_3 s l) (l.drop (min ((l.length : Int)) 2 : Int).toNat) (by first | assumption | (simp only [List.length_drop]; omega))) (.cons (AvE.refl _) (.cons (.one (cle_told false (told_drop (a := min ((l.length : Int)) 2) (told_rfl 1 (fun x => [.i x]) l) (by have hc := (show 0 ≤ (min ((l.length : Int)) 2 : Int) ∧ (min ((l.length : Int)) 2 : Int) ≤ (((l.length : Nat) : Int) : Int) ∧ (((l.length : Nat) : Int) : Int) ≤ ((l.length : Nat) : Int) from (by first | exact idx_tmod (next_b _ 100 (by decide) (by decide)).1 (by omega) | exact in_next _ _ _ (by decide) (by decide) (by decide) | decide | omega)); exact hc.1) (by have hc := (show 0 ≤ (min ((l.length : Int)) 2 : Int) ∧ (min ((l.length : Int)) 2 : Int) ≤ (((l.length : Nat) : Int) : Int) ∧ (((l.length : Nat) : Int) : Int) ≤ ((l.length : Nat) : Int) from (by first | exact idx_tmod (next_b _ 100 (by decide) (by decide)).1 (by omega) | exact in_next _ _ _ (by decide) (by decide) (by decide) | decide | omega)); exact hc.2.1)))) .nil))) .nil) (by kernel_rfl) (by kernel_rfl) (.cons (by omega) (.cons (by first | exact idx_tmod (next_b _ 100 (by decide) (by decide)).1 (by omega) | exact in_next _ _ _ (by decide) (by decide) (by decide) | decide | omega) (.cons (by first | exact idx_tmod (next_b _ 100 (by decide) (by decide)).1 (by omega) | exact in_next _ _ _ (by decide) (by decide) (by decide) | decide | omega) (.cons rfl .nil)))) ?_
    refine ath_n ?_
    refine aw_seq ?_
    refine aw_region eqok [] [] [] [4, 7, 8, 9] [4, 8] [] ⟨[(4, tP 4 0), (7, tI ((FNext ((FNext (TDraw.mk l 0) 100).2) 5).1)), (8, tP 8 0), (9, tI s.R)], [(4, .cells [.i 0, .i 0] 29), (8, .cells (TPoint.c (wAt9_4 s l)) 29)]⟩ .nil (by kernel_rfl) .nil ?_
    refine ath_n ?_
    refine aw_seq ?_
    refine aw_seq ?_
    refine aw_region eqok [] [] [] [4, 8, 9, 39] [4, 8] [] ⟨[(4, tP 4 0), (8, tP 8 0), (9, tI s.R), (39, tI ((FNext ((FNext (TDraw.mk l 0) 100).2) 5).1))], [(4, .cells [.i 0, .i 0] 29), (8, .cells (TPoint.c (wAt9_4 s l)) 29)]⟩ .nil (by kernel_rfl) .nil ?_
    refine ath_n ?_
    refine aw_joinC (⟨[(4, tP 4 0), (8, tP 8 0)], [(4, .cells [.i 0, .i 0] 29), (8, .cells [.i (bif decide ((((FNext ((FNext (TDraw.mk l 0) 100).2) 5).1) : Int) = 1) then (W64 (((wAt9_4 s l).X) + s.R)) else (bif decide ((((FNext ((FNext (TDraw.mk l 0) 100).2) 5).1) : Int) = 2) then ((wAt9_4 s l).X) else (bif decide ((((FNext ((FNext (TDraw.mk l 0) 100).2) 5).1) : Int) = 3) then ((wAt9_5 s l).X) else ((wAt9_4 s l).X)))), .i (bif decide ((((FNext ((FNext (TDraw.mk l 0) 100).2) 5).1) : Int) = 1) then ((wAt9_4 s l).Y) else (bif decide ((((FNext ((FNext (TDraw.mk l 0) 100).2) 5).1) : Int) = 2) then (W64 (((wAt9_4 s l).Y) - s.R)) else (bif decide ((((FNext ((FNext (TDraw.mk l 0) 100).2) 5).1) : Int) = 3) then ((wAt9_5 s l).Y) else ((wAt9_4 s l).Y))))] 29)]⟩) ?_ ?_
    · refine aw_block ?_
      refine aw_seq ?_
      refine aw_region eqok [] [] [] [4, 8, 9, 39, 40] [4, 8] [] ⟨[(4, tP 4 0), (8, tP 8 0), (9, tI s.R), (39, tI ((FNext ((FNext (TDraw.mk l 0) 100).2) 5).1)), (40, tB (decide ((((FNext ((FNext (TDraw.mk l 0) 100).2) 5).1) : Int) = 1)))], [(4, .cells [.i 0, .i 0] 29), (8, .cells (TPoint.c (wAt9_4 s l)) 29)]⟩ .nil (by kernel_rfl) .nil ?_
      refine ath_n ?_
      refine aw_cond (decide ((((FNext ((FNext (TDraw.mk l 0) 100).2) 5).1) : Int) = 1)) (by kernel_rfl) (fun h2 => ?_) (fun h2 => ?_)
      · have g2 := of_decide_eq_true h2
        refine aw_region eqok [] [] [] [4, 8] [4, 8] [] ⟨[(4, tP 4 0), (8, tP 8 0)], [(4, .cells [.i 0, .i 0] 29), (8, .cells [.i (W64 (((wAt9_4 s l).X) + s.R)), .i ((wAt9_4 s l).Y)] 29)]⟩ .nil (by kernel_rfl) .nil ?_
        refine abl_n ?_
        refine ath_n ?_
        refine cv_eq ?_
        first | rfl | (simp only [h2, cond_true, cond_false]; done) | (simp only [h2, cond_true, cond_false]; rfl)
      · have g2 := of_decide_eq_false h2
        refine aw_seq ?_
        refine aw_region eqok [] [] [] [4, 8, 9, 39, 47] [4, 8] [] ⟨[(4, tP 4 0), (8, tP 8 0), (9, tI s.R), (39, tI ((FNext ((FNext (TDraw.mk l 0) 100).2) 5).1)), (47, tB (decide ((((FNext ((FNext (TDraw.mk l 0) 100).2) 5).1) : Int) = 2)))], [(4, .cells [.i 0, .i 0] 29), (8, .cells (TPoint.c (wAt9_4 s l)) 29)]⟩ .nil (by kernel_rfl) .nil ?_
        refine ath_n ?_
        refine aw_cond (decide ((((FNext ((FNext (TDraw.mk l 0) 100).2) 5).1) : Int) = 2)) (by kernel_rfl) (fun h3 => ?_) (fun h3 => ?_)
        · have g3 := of_decide_eq_true h3
          refine aw_region eqok [] [] [] [4, 8] [4, 8] [] ⟨[(4, tP 4 0), (8, tP 8 0)], [(4, .cells [.i 0, .i 0] 29), (8, .cells [.i ((wAt9_4 s l).X), .i (W64 (((wAt9_4 s l).Y) - s.R))] 29)]⟩ .nil (by kernel_rfl) .nil ?_
          refine abl_n ?_
          refine ath_n ?_
          refine cv_eq ?_
          first | rfl | (simp only [h2, h3, cond_true, cond_false]; done) | (simp only [h2, h3, cond_true, cond_false]; rfl)
        · have g3 := of_decide_eq_false h3
          refine aw_seq ?_
          refine aw_region eqok [] [] [] [4, 8, 9, 54] [4, 8] [] ⟨[(4, tP 4 0), (8, tP 8 0), (9, tI s.R), (54, tB (decide ((((FNext ((FNext (TDraw.mk l 0) 100).2) 5).1) : Int) = 3)))], [(4, .cells [.i 0, .i 0] 29), (8, .cells (TPoint.c (wAt9_4 s l)) 29)]⟩ .nil (by kernel_rfl) .nil ?_
          refine ath_n ?_
          refine aw_cond (decide ((((FNext ((FNext (TDraw.mk l 0) 100).2) 5).1) : Int) = 3)) (by kernel_rfl) (fun h4 => ?_) (fun h4 => ?_)
          · have g4 := of_decide_eq_true h4
            refine aw_region eqok [] [] [(64, cref05Add (wAt9_4 s l) (TPoint.mk (W64 (Int.tdiv (W64 (3 * s.R)) 5)) (W64 (Int.tdiv (W64 (4 * s.R)) 5))))] [4, 8] [4, 8] [(5 : Int) ≠ 0, (5 : Int) ≠ 0, Same (cref05Add (wAt9_4 s l) (TPoint.mk (W64 (Int.tdiv (W64 (3 * s.R)) 5)) (W64 (Int.tdiv (W64 (4 * s.R)) 5)))).2.1] ⟨[(4, tP 4 0), (8, tP 8 0)], [(4, .cells [.i 0, .i 0] 29), (8, .cells (TPoint.c (wAt9_5 s l)) 29)]⟩ (.cons (okref05Add (wAt9_4 s l) (TPoint.mk (W64 (Int.tdiv (W64 (3 * s.R)) 5)) (W64 (Int.tdiv (W64 (4 * s.R)) 5)))) .nil) (by kernel_rfl) (.cons (by omega) (.cons (by omega) (.cons rfl .nil))) ?_
            refine abl_n ?_
            refine ath_n ?_
            refine cv_eq ?_
            first | rfl | (simp only [h2, h3, h4, cond_true, cond_false]; done) | (simp only [h2, h3, h4, cond_true, cond_false]; rfl)
          · have g4 := of_decide_eq_false h4
            refine aw_skip ?_
            refine abl_n ?_
            refine ath_n ?_
            refine Cv.trans (cv_keep [4, 8] [4, 8] (⟨[(4, tP 4 0), (8, tP 8 0)], [(4, .cells [.i 0, .i 0] 29), (8, .cells (TPoint.c (wAt9_4 s l)) 29)]⟩) (by kernel_rfl)) (cv_eq ?_)
            first | rfl | (simp only [h2, h3, h4, cond_true, cond_false]; done) | (simp only [h2, h3, h4, cond_true, cond_false]; rfl)
    refine aw_seq ?_
    refine aw_region eqok [] [] [] [4] [4] [] ⟨[(4, tP 4 0)], [(4, .cells [.i (bif decide ((((FNext ((FNext (TDraw.mk l 0) 100).2) 5).1) : Int) = 1) then (W64 (((wAt9_4 s l).X) + s.R)) else (bif decide ((((FNext ((FNext (TDraw.mk l 0) 100).2) 5).1) : Int) = 2) then ((wAt9_4 s l).X) else (bif decide ((((FNext ((FNext (TDraw.mk l 0) 100).2) 5).1) : Int) = 3) then ((wAt9_5 s l).X) else ((wAt9_4 s l).X)))), .i (bif decide ((((FNext ((FNext (TDraw.mk l 0) 100).2) 5).1) : Int) = 1) then ((wAt9_4 s l).Y) else (bif decide ((((FNext ((FNext (TDraw.mk l 0) 100).2) 5).1) : Int) = 2) then (W64 (((wAt9_4 s l).Y) - s.R)) else (bif decide ((((FNext ((FNext (TDraw.mk l 0) 100).2) 5).1) : Int) = 3) then ((wAt9_5 s l).Y) else ((wAt9_4 s l).Y))))] 29)]⟩ .nil (by kernel_rfl) .nil ?_
    refine ath_n ?_
    refine aw_ret ?_
    exact ⟨_, Cv.refl _, .inl rfl, .av (.agg [.i (bif decide ((((FNext ((FNext (TDraw.mk l 0) 100).2) 5).1) : Int) = 1) then (W64 (((wAt9_4 s l).X) + s.R)) else (bif decide ((((FNext ((FNext (TDraw.mk l 0) 100).2) 5).1) : Int) = 2) then ((wAt9_4 s l).X) else (bif decide ((((FNext ((FNext (TDraw.mk l 0) 100).2) 5).1) : Int) = 3) then ((wAt9_5 s l).X) else ((wAt9_4 s l).X)))), .i (bif decide ((((FNext ((FNext (TDraw.mk l 0) 100).2) 5).1) : Int) = 1) then ((wAt9_4 s l).Y) else (bif decide ((((FNext ((FNext (TDraw.mk l 0) 100).2) 5).1) : Int) = 2) then (W64 (((wAt9_4 s l).Y) - s.R)) else (bif decide ((((FNext ((FNext (TDraw.mk l 0) 100).2) 5).1) : Int) = 3) then ((wAt9_5 s l).Y) else ((wAt9_4 s l).Y))))]), by kernel_rfl, tve_eq (by first | (simp only [FAt9, h1, cond_true, cond_false]; done) | (simp only [FAt9, h1, cond_true, cond_false]; rfl))⟩
theorem okAt9 (s : TShape) (l : (List Int)) (hl : (l.length : Int) ≤ 9223372036854775807) (h0 : (s.Edges.length : Int) ≤ 1000000) : CallOk Try.prog (cAt9 s l).1 (cAt9 s l).2.1 (cAt9 s l).2.2 := callOk_pure (fun _ _ => by kernel_rfl) fun _ => pAt9 s l hl h0
end Go.Proofs.Ytpnlegfdkkcnlaa
