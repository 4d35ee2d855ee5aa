/-
  No statement is proved in this text. It holds what functions return.
-/
import Derived.Test.YtoojlpcimogehaaProg
import Derived.Test.YtoojlpcimogehaaBk1
namespace Go.Proofs.Ytoojlpcimogehaa
open Go.RowKit
set_option linter.unusedVariables false
set_option linter.unusedSimpArgs false
def Fref05Sub (x0 : TPoint) (x1 : TPoint) : TPoint := TPoint.mk (W64 (x0.X - x1.X)) (W64 (x0.Y - x1.Y))
def cref05Sub (x0 : TPoint) (x1 : TPoint) : FuncId × List Av × Ef := (71, [.agg (TPoint.c x0), .agg (TPoint.c x1)], .val [] (.av (.agg (TPoint.c (Fref05Sub x0 x1)))))
set_option maxRecDepth 100000 in
theorem pref05Sub (x0 : TPoint) (x1 : TPoint) : Pure Try.prog 71 (cref05Sub x0 x1).2.1 (.av (.agg (TPoint.c (Fref05Sub x0 x1)))) := by
  refine pure_of_awF Try.func71 rfl (by kernel_rfl) (by kernel_rfl) fun W0 M0 => ?_
  refine aw_seq ?_
  refine aw_region eqok [] [] [] [2, 3, 4] [2, 3, 4] [] ⟨[(2, tP 2 0), (3, tP 3 0), (4, tP 4 0)], [(2, .cells (TPoint.c x0) 102), (3, .cells (TPoint.c x1) 102), (4, .cells [.i 0, .i 0] 102)]⟩ .nil (by kernel_rfl) .nil ?_
  refine ath_n ?_
  refine aw_seq ?_
  refine aw_region eqok [] [] [] [4] [4] [] ⟨[(4, tP 4 0)], [(4, .cells [.i (W64 (x0.X - x1.X)), .i (W64 (x0.Y - x1.Y))] 102)]⟩ .nil (by kernel_rfl) .nil ?_
  refine ath_n ?_
  refine aw_ret ?_
  exact ⟨_, Cv.refl _, .inl rfl, .av (.agg [.i (W64 (x0.X - x1.X)), .i (W64 (x0.Y - x1.Y))]), by kernel_rfl, tve_eq (by rfl)⟩
theorem okref05Sub (x0 : TPoint) (x1 : TPoint) : CallOk Try.prog (cref05Sub x0 x1).1 (cref05Sub x0 x1).2.1 (cref05Sub x0 x1).2.2 := callOk_pure (fun _ _ => by kernel_rfl) fun _ => pref05Sub x0 x1 
def Fref05Add (x0 : TPoint) (x1 : TPoint) : TPoint := TPoint.mk (W64 (x0.X + x1.X)) (W64 (x0.Y + x1.Y))
def cref05Add (x0 : TPoint) (x1 : TPoint) : FuncId × List Av × Ef := (47, [.agg (TPoint.c x0), .agg (TPoint.c x1)], .val [] (.av (.agg (TPoint.c (Fref05Add x0 x1)))))
set_option maxRecDepth 100000 in
theorem pref05Add (x0 : TPoint) (x1 : TPoint) : Pure Try.prog 47 (cref05Add x0 x1).2.1 (.av (.agg (TPoint.c (Fref05Add x0 x1)))) := by
  refine pure_of_awF Try.func47 rfl (by kernel_rfl) (by kernel_rfl) fun W0 M0 => ?_
  refine aw_seq ?_
  refine aw_region eqok [] [] [] [2, 3, 4] [2, 3, 4] [] ⟨[(2, tP 2 0), (3, tP 3 0), (4, tP 4 0)], [(2, .cells (TPoint.c x0) 102), (3, .cells (TPoint.c x1) 102), (4, .cells [.i 0, .i 0] 102)]⟩ .nil (by kernel_rfl) .nil ?_
  refine ath_n ?_
  refine aw_seq ?_
  refine aw_region eqok [] [] [] [4] [4] [] ⟨[(4, tP 4 0)], [(4, .cells [.i (W64 (x0.X + x1.X)), .i (W64 (x0.Y + x1.Y))] 102)]⟩ .nil (by kernel_rfl) .nil ?_
  refine ath_n ?_
  refine aw_ret ?_
  exact ⟨_, Cv.refl _, .inl rfl, .av (.agg [.i (W64 (x0.X + x1.X)), .i (W64 (x0.Y + x1.Y))]), by kernel_rfl, tve_eq (by rfl)⟩
theorem okref05Add (x0 : TPoint) (x1 : TPoint) : CallOk Try.prog (cref05Add x0 x1).1 (cref05Add x0 x1).2.1 (cref05Add x0 x1).2.2 := callOk_pure (fun _ _ => by kernel_rfl) fun _ => pref05Add x0 x1 
def Fref05Turns (x0 : Int) : Int := Int.tmod (W64 ((Int.tmod x0 4) + 4)) 4
def cref05Turns (x0 : Int) : FuncId × List Av × Ef := (80, [.one (.i x0)], .val [] (.av (.one (.i (Fref05Turns x0)))))
set_option maxRecDepth 100000 in
theorem pref05Turns (x0 : Int) : Pure Try.prog 80 (cref05Turns x0).2.1 (.av (.one (.i (Fref05Turns x0)))) := by
  refine pure_of_awF Try.func80 rfl (by kernel_rfl) (by kernel_rfl) fun W0 M0 => ?_
  refine aw_seq ?_
  refine aw_region eqok [] [] [] [0] [] [] ⟨[(0, tI x0)], []⟩ .nil (by kernel_rfl) .nil ?_
  refine ath_n ?_
  refine aw_seq ?_
  refine aw_region eqok [] [] [] [2] [] [(4 : Int) ≠ 0, (4 : Int) ≠ 0] ⟨[(2, tI (Int.tmod (W64 ((Int.tmod x0 4) + 4)) 4))], []⟩ .nil (by kernel_rfl) (.cons (by first | assumption | decide | omega) (.cons (by first | assumption | decide | omega) .nil)) ?_
  refine ath_n ?_
  refine aw_ret ?_
  exact ⟨_, Cv.refl _, .inl rfl, .av (.one (.i (Int.tmod (W64 ((Int.tmod x0 4) + 4)) 4))), by kernel_rfl, tve_eq (by rfl)⟩
theorem okref05Turns (x0 : Int) : CallOk Try.prog (cref05Turns x0).1 (cref05Turns x0).2.1 (cref05Turns x0).2.2 := callOk_pure (fun _ _ => by kernel_rfl) fun _ => pref05Turns x0 
def Fref05turned (x0 : TPoint) (x1 : Int) : TPoint := bif decide (((Fref05Turns x1) : Int) = 1) then (TPoint.mk (W64 (0 - x0.Y)) x0.X) else (bif decide (((Fref05Turns x1) : Int) = 2) then (TPoint.mk (W64 (0 - x0.X)) (W64 (0 - x0.Y))) else (bif decide (((Fref05Turns x1) : Int) = 3) then (TPoint.mk x0.Y (W64 (0 - x0.X))) else (x0)))
def cref05turned (x0 : TPoint) (x1 : Int) : FuncId × List Av × Ef := (78, [.agg (TPoint.c x0), .one (.i x1)], .val [] (.av (.agg (TPoint.c (Fref05turned x0 x1)))))
set_option maxRecDepth 100000 in
theorem pref05turned (x0 : TPoint) (x1 : Int) : Pure Try.prog 78 (cref05turned x0 x1).2.1 (.av (.agg (TPoint.c (Fref05turned x0 x1)))) := by
  refine pure_of_awF Try.func78 rfl (by kernel_rfl) (by kernel_rfl) fun W0 M0 => ?_
  refine aw_seq ?_
  refine aw_region eqok [] [] [] [1, 2, 4] [2, 4] [] ⟨[(1, tI x1), (2, tP 2 0), (4, tP 4 0)], [(2, .cells (TPoint.c x0) 102), (4, .cells [.i 0, .i 0] 102)]⟩ .nil (by kernel_rfl) .nil ?_
  refine ath_n ?_
  refine aw_seq ?_
  refine aw_seq ?_
  refine aw_region eqok [] [] [(6, cref05Turns x1)] [2, 4, 6] [2, 4] [Same (cref05Turns x1).2.1] ⟨[(2, tP 2 0), (4, tP 4 0), (6, tI (Fref05Turns x1))], [(2, .cells (TPoint.c x0) 102), (4, .cells [.i 0, .i 0] 102)]⟩ (.cons (okref05Turns x1) .nil) (by kernel_rfl) (.cons rfl .nil) ?_
  refine ath_n ?_
  refine aw_block ?_
  refine aw_seq ?_
  refine aw_region eqok [] [] [] [2, 4, 6, 7] [2, 4] [] ⟨[(2, tP 2 0), (4, tP 4 0), (6, tI (Fref05Turns x1)), (7, tB (decide (((Fref05Turns x1) : Int) = 1)))], [(2, .cells (TPoint.c x0) 102), (4, .cells [.i 0, .i 0] 102)]⟩ .nil (by kernel_rfl) .nil ?_
  refine ath_n ?_
  refine aw_cond (decide (((Fref05Turns x1) : Int) = 1)) (by kernel_rfl) (fun h1 => ?_) (fun h1 => ?_)
  · have g1 := of_decide_eq_true h1
    refine aw_seq ?_
    refine aw_region eqok [] [] [] [4] [4] [] ⟨[(4, tP 4 0)], [(4, .cells [.i (W64 (0 - x0.Y)), .i x0.X] 102)]⟩ .nil (by kernel_rfl) .nil ?_
    refine ath_n ?_
    refine aw_ret ?_
    refine abl_r ?_
    refine ath_r ?_
    exact ⟨_, Cv.refl _, .inl rfl, .av (.agg [.i (W64 (0 - x0.Y)), .i x0.X]), by kernel_rfl, tve_eq (by first | (simp only [Fref05turned, h1, cond_true, cond_false]; done) | (simp only [Fref05turned, h1, cond_true, cond_false]; rfl))⟩
  · have g1 := of_decide_eq_false h1
    refine aw_seq ?_
    refine aw_region eqok [] [] [] [2, 4, 6, 15] [2, 4] [] ⟨[(2, tP 2 0), (4, tP 4 0), (6, tI (Fref05Turns x1)), (15, tB (decide (((Fref05Turns x1) : Int) = 2)))], [(2, .cells (TPoint.c x0) 102), (4, .cells [.i 0, .i 0] 102)]⟩ .nil (by kernel_rfl) .nil ?_
    refine ath_n ?_
    refine aw_cond (decide (((Fref05Turns x1) : Int) = 2)) (by kernel_rfl) (fun h2 => ?_) (fun h2 => ?_)
    · have g2 := of_decide_eq_true h2
      refine aw_seq ?_
      refine aw_region eqok [] [] [] [4] [4] [] ⟨[(4, tP 4 0)], [(4, .cells [.i (W64 (0 - x0.X)), .i (W64 (0 - x0.Y))] 102)]⟩ .nil (by kernel_rfl) .nil ?_
      refine ath_n ?_
      refine aw_ret ?_
      refine abl_r ?_
      refine ath_r ?_
      exact ⟨_, Cv.refl _, .inl rfl, .av (.agg [.i (W64 (0 - x0.X)), .i (W64 (0 - x0.Y))]), by kernel_rfl, tve_eq (by first | (simp only [Fref05turned, h1, h2, cond_true, cond_false]; done) | (simp only [Fref05turned, h1, h2, cond_true, cond_false]; rfl))⟩
    · have g2 := of_decide_eq_false h2
      refine aw_seq ?_
      refine aw_region eqok [] [] [] [2, 4, 24] [2, 4] [] ⟨[(2, tP 2 0), (4, tP 4 0), (24, tB (decide (((Fref05Turns x1) : Int) = 3)))], [(2, .cells (TPoint.c x0) 102), (4, .cells [.i 0, .i 0] 102)]⟩ .nil (by kernel_rfl) .nil ?_
      refine ath_n ?_
      refine aw_cond (decide (((Fref05Turns x1) : Int) = 3)) (by kernel_rfl) (fun h3 => ?_) (fun h3 => ?_)
      · have g3 := of_decide_eq_true h3
        refine aw_seq ?_
        refine aw_region eqok [] [] [] [4] [4] [] ⟨[(4, tP 4 0)], [(4, .cells [.i x0.Y, .i (W64 (0 - x0.X))] 102)]⟩ .nil (by kernel_rfl) .nil ?_
        refine ath_n ?_
        refine aw_ret ?_
        refine abl_r ?_
        refine ath_r ?_
        exact ⟨_, Cv.refl _, .inl rfl, .av (.agg [.i x0.Y, .i (W64 (0 - x0.X))]), by kernel_rfl, tve_eq (by first | (simp only [Fref05turned, h1, h2, h3, cond_true, cond_false]; done) | (simp only [Fref05turned, h1, h2, h3, cond_true, cond_false]; rfl))⟩
      · have g3 := of_decide_eq_false h3
        refine aw_skip ?_
        refine abl_n ?_
        refine ath_n ?_
        refine aw_seq ?_
        refine aw_region eqok [] [] [] [4] [4] [] ⟨[(4, tP 4 0)], [(4, .cells (TPoint.c x0) 102)]⟩ .nil (by kernel_rfl) .nil ?_
        refine ath_n ?_
        refine aw_ret ?_
        exact ⟨_, Cv.refl _, .inl rfl, .av (.agg (TPoint.c x0)), by kernel_rfl, tve_eq (by first | (simp only [Fref05turned, h1, h2, h3, cond_true, cond_false]; done) | (simp only [Fref05turned, h1, h2, h3, cond_true, cond_false]; rfl))⟩
theorem okref05turned (x0 : TPoint) (x1 : Int) : CallOk Try.prog (cref05turned x0 x1).1 (cref05turned x0 x1).2.1 (cref05turned x0 x1).2.2 := callOk_pure (fun _ _ => by kernel_rfl) fun _ => pref05turned x0 x1 
def Fref05mirrored (x0 : TPoint) (x1 : Bool) : TPoint := TPoint.mk (bif x1 then (W64 (0 - x0.X)) else x0.X) x0.Y
def cref05mirrored (x0 : TPoint) (x1 : Bool) : FuncId × List Av × Ef := (79, [.agg (TPoint.c x0), .one (.b x1)], .val [] (.av (.agg (TPoint.c (Fref05mirrored x0 x1)))))
set_option maxRecDepth 100000 in
theorem pref05mirrored (x0 : TPoint) (x1 : Bool) : Pure Try.prog 79 (cref05mirrored x0 x1).2.1 (.av (.agg (TPoint.c (Fref05mirrored x0 x1)))) := by
  refine pure_of_awF Try.func79 rfl (by kernel_rfl) (by kernel_rfl) fun W0 M0 => ?_
  refine aw_seq ?_
  refine aw_region eqok [] [] [] [1, 2, 4] [2, 4] [] ⟨[(1, tB x1), (2, tP 2 0), (4, tP 4 0)], [(2, .cells (TPoint.c x0) 102), (4, .cells [.i 0, .i 0] 102)]⟩ .nil (by kernel_rfl) .nil ?_
  refine ath_n ?_
  refine aw_seq ?_
  refine aw_seq ?_
  refine aw_region eqok [] [] [] [2, 4, 5] [2, 4] [] ⟨[(2, tP 2 0), (4, tP 4 0), (5, tB x1)], [(2, .cells (TPoint.c x0) 102), (4, .cells [.i 0, .i 0] 102)]⟩ .nil (by kernel_rfl) .nil ?_
  refine ath_n ?_
  refine aw_joinC (⟨[(2, tP 2 0), (4, tP 4 0)], [(2, .cells [.i (bif x1 then (W64 (0 - x0.X)) else x0.X), .i x0.Y] 102), (4, .cells [.i 0, .i 0] 102)]⟩) ?_ ?_
  · refine aw_cond (x1) (by kernel_rfl) (fun h1 => ?_) (fun h1 => ?_)
    · refine aw_region eqok [] [] [] [2, 4] [2, 4] [] ⟨[(2, tP 2 0), (4, tP 4 0)], [(2, .cells [.i (W64 (0 - x0.X)), .i x0.Y] 102), (4, .cells [.i 0, .i 0] 102)]⟩ .nil (by kernel_rfl) .nil ?_
      refine ath_n ?_
      refine cv_eq ?_
      first | rfl | (simp only [h1, cond_true, cond_false]; done) | (simp only [h1, cond_true, cond_false]; rfl)
    · refine aw_skip ?_
      refine ath_n ?_
      refine Cv.trans (cv_keep [2, 4] [2, 4] (⟨[(2, tP 2 0), (4, tP 4 0)], [(2, .cells (TPoint.c x0) 102), (4, .cells [.i 0, .i 0] 102)]⟩) (by kernel_rfl)) (cv_eq ?_)
      first | rfl | (simp only [h1, cond_true, cond_false]; done) | (simp only [h1, cond_true, cond_false]; rfl)
  refine aw_seq ?_
  refine aw_region eqok [] [] [] [4] [4] [] ⟨[(4, tP 4 0)], [(4, .cells [.i (bif x1 then (W64 (0 - x0.X)) else x0.X), .i x0.Y] 102)]⟩ .nil (by kernel_rfl) .nil ?_
  refine ath_n ?_
  refine aw_ret ?_
  exact ⟨_, Cv.refl _, .inl rfl, .av (.agg [.i (bif x1 then (W64 (0 - x0.X)) else x0.X), .i x0.Y]), by kernel_rfl, tve_eq (by rfl)⟩
theorem okref05mirrored (x0 : TPoint) (x1 : Bool) : CallOk Try.prog (cref05mirrored x0 x1).1 (cref05mirrored x0 x1).2.1 (cref05mirrored x0 x1).2.2 := callOk_pure (fun _ _ => by kernel_rfl) fun _ => pref05mirrored x0 x1 
def wref05Apply_0 (x1 : TPoint) (x0 : TMotion) : TPoint := Fref05turned (Fref05mirrored x1 x0.Mirror) x0.Turn
def Fref05Apply (x0 : TMotion) (x1 : TPoint) : TPoint := Fref05Add (wref05Apply_0 x1 x0) x0.At
def cref05Apply (x0 : TMotion) (x1 : TPoint) : FuncId × List Av × Ef := (72, [.agg (TMotion.c x0), .agg (TPoint.c x1)], .val [] (.av (.agg (TPoint.c (Fref05Apply x0 x1)))))
set_option maxRecDepth 100000 in
theorem pref05Apply (x0 : TMotion) (x1 : TPoint) : Pure Try.prog 72 (cref05Apply x0 x1).2.1 (.av (.agg (TPoint.c (Fref05Apply x0 x1)))) := by
  refine pure_of_awF Try.func72 rfl (by kernel_rfl) (by kernel_rfl) fun W0 M0 => ?_
  refine aw_seq ?_
  refine aw_region eqok [] [] [] [2, 3, 4] [2, 3, 4] [] ⟨[(2, tP 2 0), (3, tP 3 0), (4, tP 4 0)], [(2, .cells (TMotion.c x0) 129), (3, .cells (TPoint.c x1) 102), (4, .cells [.i 0, .i 0] 102)]⟩ .nil (by kernel_rfl) .nil ?_
  refine ath_n ?_
  refine aw_seq ?_
  refine aw_draw mixed eqok [] [] [(8, cref05mirrored x1 x0.Mirror), (11, cref05turned (Fref05mirrored x1 x0.Mirror) x0.Turn), (14, cref05Add (wref05Apply_0 x1 x0) x0.At)] [4] [4] [Same (cref05mirrored x1 x0.Mirror).2.1, Same (cref05turned (Fref05mirrored x1 x0.Mirror) x0.Turn).2.1, Same (cref05Add (wref05Apply_0 x1 x0) x0.At).2.1] ⟨[(4, tP 4 0)], [(4, .cells (TPoint.c (Fref05Add (wref05Apply_0 x1 x0) x0.At)) 102)]⟩ (.cons (okref05mirrored x1 x0.Mirror) (.cons (okref05turned (Fref05mirrored x1 x0.Mirror) x0.Turn) (.cons (okref05Add (wref05Apply_0 x1 x0) x0.At) .nil))) (by kernel_rfl) (by kernel_rfl) (.cons rfl (.cons rfl (.cons rfl .nil))) ?_
  refine ath_n ?_
  refine aw_ret ?_
  exact ⟨_, Cv.refl _, .inl rfl, .av (.agg (TPoint.c (Fref05Add (wref05Apply_0 x1 x0) x0.At))), by kernel_rfl, tve_eq (by rfl)⟩
theorem okref05Apply (x0 : TMotion) (x1 : TPoint) : CallOk Try.prog (cref05Apply x0 x1).1 (cref05Apply x0 x1).2.1 (cref05Apply x0 x1).2.2 := callOk_pure (fun _ _ => by kernel_rfl) fun _ => pref05Apply x0 x1 
def Fref06Box (x0 : TEdge) : TRect := TRect.mk (min x0.A.X x0.B.X) (min x0.A.Y x0.B.Y) (max x0.A.X x0.B.X) (max x0.A.Y x0.B.Y)
def cref06Box (x0 : TEdge) : FuncId × List Av × Ef := (68, [.agg (TEdge.c x0)], .val [] (.av (.agg (TRect.c (Fref06Box x0)))))
set_option maxRecDepth 100000 in
theorem pref06Box (x0 : TEdge) : Pure Try.prog 68 (cref06Box x0).2.1 (.av (.agg (TRect.c (Fref06Box x0)))) := by
  refine pure_of_awF Try.func68 rfl (by kernel_rfl) (by kernel_rfl) fun W0 M0 => ?_
  refine aw_seq ?_
  refine aw_region eqok [] [] [] [1, 2] [1, 2] [] ⟨[(1, tP 1 0), (2, tP 2 0)], [(1, .cells (TEdge.c x0) 124), (2, .cells [.i 0, .i 0, .i 0, .i 0] 55)]⟩ .nil (by kernel_rfl) .nil ?_
  refine ath_n ?_
  refine aw_seq ?_
  refine aw_region eqok [] [] [] [2] [2] [] ⟨[(2, tP 2 0)], [(2, .cells [.i (min x0.A.X x0.B.X), .i (min x0.A.Y x0.B.Y), .i (max x0.A.X x0.B.X), .i (max x0.A.Y x0.B.Y)] 55)]⟩ .nil (by kernel_rfl) .nil ?_
  refine ath_n ?_
  refine aw_ret ?_
  exact ⟨_, Cv.refl _, .inl rfl, .av (.agg [.i (min x0.A.X x0.B.X), .i (min x0.A.Y x0.B.Y), .i (max x0.A.X x0.B.X), .i (max x0.A.Y x0.B.Y)]), by kernel_rfl, tve_eq (by rfl)⟩
theorem okref06Box (x0 : TEdge) : CallOk Try.prog (cref06Box x0).1 (cref06Box x0).2.1 (cref06Box x0).2.2 := callOk_pure (fun _ _ => by kernel_rfl) fun _ => pref06Box x0 
def wref06Arc_0 (x2 : Int) (x1 : Int) : TPoint := Fref05Apply (TMotion.mk (TPoint.mk 0 0) x2 false) (TPoint.mk x1 0)
def wref06Arc_1 (x3 : Int) (x2 : Int) (x1 : Int) : TPoint := Fref05Apply (TMotion.mk (TPoint.mk 0 0) (bif decide ((x3 : Int) = 3) then (W64 (x2 + 3)) else (W64 (x2 + 1))) false) (TPoint.mk x1 0)
def Fref06Arc (x0 : TPoint) (x1 : Int) (x2 : Int) (x3 : Int) : TEdge := TEdge.mk x3 (Fref05Add x0 (wref06Arc_0 x2 x1)) (Fref05Add x0 (wref06Arc_1 x3 x2 x1)) x0
def cref06Arc (x0 : TPoint) (x1 : Int) (x2 : Int) (x3 : Int) : FuncId × List Av × Ef := (73, [.agg (TPoint.c x0), .one (.i x1), .one (.i x2), .one (.i x3)], .val [] (.av (.agg (TEdge.c (Fref06Arc x0 x1 x2 x3)))))
set_option maxRecDepth 100000 in
theorem pref06Arc (x0 : TPoint) (x1 : Int) (x2 : Int) (x3 : Int) : Pure Try.prog 73 (cref06Arc x0 x1 x2 x3).2.1 (.av (.agg (TEdge.c (Fref06Arc x0 x1 x2 x3)))) := by
  refine pure_of_awF Try.func73 rfl (by kernel_rfl) (by kernel_rfl) fun W0 M0 => ?_
  refine aw_seq ?_
  refine aw_region eqok [] [] [] [1, 2, 3, 4, 8] [4, 8] [] ⟨[(1, tI x1), (2, tI x2), (3, tI x3), (4, tP 4 0), (8, tP 8 0)], [(4, .cells (TPoint.c x0) 102), (8, .cells [.i 0, .i 0, .i 0, .i 0, .i 0, .i 0, .i 0] 124)]⟩ .nil (by kernel_rfl) .nil ?_
  refine ath_n ?_
  refine aw_seq ?_
  refine aw_region eqok [] [] [(16, cref05Apply (TMotion.mk (TPoint.mk 0 0) x2 false) (TPoint.mk x1 0))] [1, 2, 3, 4, 8, 9] [4, 8, 9] [Same (cref05Apply (TMotion.mk (TPoint.mk 0 0) x2 false) (TPoint.mk x1 0)).2.1] ⟨[(1, tI x1), (2, tI x2), (3, tI x3), (4, tP 4 0), (8, tP 8 0), (9, tP 9 0)], [(4, .cells (TPoint.c x0) 102), (8, .cells [.i 0, .i 0, .i 0, .i 0, .i 0, .i 0, .i 0] 124), (9, .cells (TPoint.c (wref06Arc_0 x2 x1)) 102)]⟩ (.cons (okref05Apply (TMotion.mk (TPoint.mk 0 0) x2 false) (TPoint.mk x1 0)) .nil) (by kernel_rfl) (.cons rfl .nil) ?_
  refine ath_n ?_
  refine aw_seq ?_
  refine aw_region eqok [] [] [] [1, 2, 3, 4, 8, 9, 10] [4, 8, 9] [] ⟨[(1, tI x1), (2, tI x2), (3, tI x3), (4, tP 4 0), (8, tP 8 0), (9, tP 9 0), (10, tI (W64 (x2 + 1)))], [(4, .cells (TPoint.c x0) 102), (8, .cells [.i 0, .i 0, .i 0, .i 0, .i 0, .i 0, .i 0] 124), (9, .cells (TPoint.c (wref06Arc_0 x2 x1)) 102)]⟩ .nil (by kernel_rfl) .nil ?_
  refine ath_n ?_
  refine aw_seq ?_
  refine aw_seq ?_
  refine aw_region eqok [] [] [] [1, 2, 3, 4, 8, 9, 10, 20] [4, 8, 9] [] ⟨[(1, tI x1), (2, tI x2), (3, tI x3), (4, tP 4 0), (8, tP 8 0), (9, tP 9 0), (10, tI (W64 (x2 + 1))), (20, tB (decide ((x3 : Int) = 3)))], [(4, .cells (TPoint.c x0) 102), (8, .cells [.i 0, .i 0, .i 0, .i 0, .i 0, .i 0, .i 0] 124), (9, .cells (TPoint.c (wref06Arc_0 x2 x1)) 102)]⟩ .nil (by kernel_rfl) .nil ?_
  refine ath_n ?_
  refine aw_joinC (⟨[(1, tI x1), (3, tI x3), (4, tP 4 0), (8, tP 8 0), (9, tP 9 0), (10, tI (bif decide ((x3 : Int) = 3) then (W64 (x2 + 3)) else (W64 (x2 + 1))))], [(4, .cells (TPoint.c x0) 102), (8, .cells [.i 0, .i 0, .i 0, .i 0, .i 0, .i 0, .i 0] 124), (9, .cells (TPoint.c (wref06Arc_0 x2 x1)) 102)]⟩) ?_ ?_
  · refine aw_cond (decide ((x3 : Int) = 3)) (by kernel_rfl) (fun h1 => ?_) (fun h1 => ?_)
    · have g1 := of_decide_eq_true h1
      refine aw_region eqok [] [] [] [1, 3, 4, 8, 9, 10] [4, 8, 9] [] ⟨[(1, tI x1), (3, tI x3), (4, tP 4 0), (8, tP 8 0), (9, tP 9 0), (10, tI (W64 (x2 + 3)))], [(4, .cells (TPoint.c x0) 102), (8, .cells [.i 0, .i 0, .i 0, .i 0, .i 0, .i 0, .i 0] 124), (9, .cells (TPoint.c (wref06Arc_0 x2 x1)) 102)]⟩ .nil (by kernel_rfl) .nil ?_
      refine ath_n ?_
      refine cv_eq ?_
      first | rfl | (simp only [h1, cond_true, cond_false]; done) | (simp only [h1, cond_true, cond_false]; rfl)
    · have g1 := of_decide_eq_false h1
      refine aw_skip ?_
      refine ath_n ?_
      refine Cv.trans (cv_keep [1, 3, 4, 8, 9, 10] [4, 8, 9] (⟨[(1, tI x1), (3, tI x3), (4, tP 4 0), (8, tP 8 0), (9, tP 9 0), (10, tI (W64 (x2 + 1)))], [(4, .cells (TPoint.c x0) 102), (8, .cells [.i 0, .i 0, .i 0, .i 0, .i 0, .i 0, .i 0] 124), (9, .cells (TPoint.c (wref06Arc_0 x2 x1)) 102)]⟩) (by kernel_rfl)) (cv_eq ?_)
      first | rfl | (simp only [h1, cond_true, cond_false]; done) | (simp only [h1, cond_true, cond_false]; rfl)
  refine aw_seq ?_
  refine aw_region eqok [] [] [(27, cref05Apply (TMotion.mk (TPoint.mk 0 0) (bif decide ((x3 : Int) = 3) then (W64 (x2 + 3)) else (W64 (x2 + 1))) false) (TPoint.mk x1 0))] [3, 4, 8, 9, 11] [4, 8, 9, 11] [Same (cref05Apply (TMotion.mk (TPoint.mk 0 0) (bif decide ((x3 : Int) = 3) then (W64 (x2 + 3)) else (W64 (x2 + 1))) false) (TPoint.mk x1 0)).2.1] ⟨[(3, tI x3), (4, tP 4 0), (8, tP 8 0), (9, tP 9 0), (11, tP 11 0)], [(4, .cells (TPoint.c x0) 102), (8, .cells [.i 0, .i 0, .i 0, .i 0, .i 0, .i 0, .i 0] 124), (9, .cells (TPoint.c (wref06Arc_0 x2 x1)) 102), (11, .cells (TPoint.c (wref06Arc_1 x3 x2 x1)) 102)]⟩ (.cons (okref05Apply (TMotion.mk (TPoint.mk 0 0) (bif decide ((x3 : Int) = 3) then (W64 (x2 + 3)) else (W64 (x2 + 1))) false) (TPoint.mk x1 0)) .nil) (by kernel_rfl) (.cons rfl .nil) ?_
  refine ath_n ?_
  refine aw_seq ?_
  refine aw_draw mixed eqok [] [] [(31, cref05Add x0 (wref06Arc_0 x2 x1)), (34, cref05Add x0 (wref06Arc_1 x3 x2 x1))] [8] [8] [Same (cref05Add x0 (wref06Arc_0 x2 x1)).2.1, Same (cref05Add x0 (wref06Arc_1 x3 x2 x1)).2.1] ⟨[(8, tP 8 0)], [(8, .cells [.i x3, .i ((Fref05Add x0 (wref06Arc_0 x2 x1)).X), .i ((Fref05Add x0 (wref06Arc_0 x2 x1)).Y), .i ((Fref05Add x0 (wref06Arc_1 x3 x2 x1)).X), .i ((Fref05Add x0 (wref06Arc_1 x3 x2 x1)).Y), .i x0.X, .i x0.Y] 124)]⟩ (.cons (okref05Add x0 (wref06Arc_0 x2 x1)) (.cons (okref05Add x0 (wref06Arc_1 x3 x2 x1)) .nil)) (by kernel_rfl) (by kernel_rfl) (.cons rfl (.cons rfl .nil)) ?_
  refine ath_n ?_
  refine aw_ret ?_
  exact ⟨_, Cv.refl _, .inl rfl, .av (.agg [.i x3, .i ((Fref05Add x0 (wref06Arc_0 x2 x1)).X), .i ((Fref05Add x0 (wref06Arc_0 x2 x1)).Y), .i ((Fref05Add x0 (wref06Arc_1 x3 x2 x1)).X), .i ((Fref05Add x0 (wref06Arc_1 x3 x2 x1)).Y), .i x0.X, .i x0.Y]), by kernel_rfl, tve_eq (by rfl)⟩
theorem okref06Arc (x0 : TPoint) (x1 : Int) (x2 : Int) (x3 : Int) : CallOk Try.prog (cref06Arc x0 x1 x2 x3).1 (cref06Arc x0 x1 x2 x3).2.1 (cref06Arc x0 x1 x2 x3).2.2 := callOk_pure (fun _ _ => by kernel_rfl) fun _ => pref06Arc x0 x1 x2 x3 
def FMod (n : Int) (m : Int) : Int := Int.tmod (W64 ((Int.tmod n m) + m)) m
def cMod (n : Int) (m : Int) : FuncId × List Av × Ef := (42, [.one (.i n), .one (.i m)], .val [] (.av (.one (.i (FMod n m)))))
set_option maxRecDepth 100000 in
theorem pMod (n : Int) (m : Int) (hm : m ≠ 0) : Pure Try.prog 42 (cMod n m).2.1 (.av (.one (.i (FMod n m)))) := by
  refine pure_of_awF Try.func42 rfl (by kernel_rfl) (by kernel_rfl) fun W0 M0 => ?_
  refine aw_seq ?_
  refine aw_region eqok [] [] [] [0, 1] [] [] ⟨[(0, tI n), (1, tI m)], []⟩ .nil (by kernel_rfl) .nil ?_
  refine ath_n ?_
  refine aw_seq ?_
  refine aw_region eqok [] [] [] [4] [] [(m : Int) ≠ 0, (m : Int) ≠ 0] ⟨[(4, tI (Int.tmod (W64 ((Int.tmod n m) + m)) m))], []⟩ .nil (by kernel_rfl) (.cons (by first | assumption | decide | omega) (.cons (by first | assumption | decide | omega) .nil)) ?_
  refine ath_n ?_
  refine aw_ret ?_
  exact ⟨_, Cv.refl _, .inl rfl, .av (.one (.i (Int.tmod (W64 ((Int.tmod n m) + m)) m))), by kernel_rfl, tve_eq (by rfl)⟩
theorem okMod (n : Int) (m : Int) (hm : m ≠ 0) : CallOk Try.prog (cMod n m).1 (cMod n m).2.1 (cMod n m).2.2 := callOk_pure (fun _ _ => by kernel_rfl) fun _ => pMod n m hm
def DrawOk (d : TDraw) : Prop := 0 ≤ d.At ∧ d.At ≤ d.L.length ∧ (d.L.length : Int) ≤ 9223372036854775807
def FNext (d : TDraw) (n : Int) : (Int × TDraw) := bif decide ((((d.L.length : Int)) : Int) ≤ d.At) then ((0, d)) else ((FMod (d.L.getD ((W64 ((W64 (d.At + 1)) - 1)).toNat) default) n, TDraw.mk d.L (W64 (d.At + 1))))
set_option maxRecDepth 100000 in
theorem pNext  (d : TDraw) (n : Int) (hd : DrawOk d) (hn : n ≠ 0) : Wr Try.prog 29 1000 [.one (.ptr 1000 0), .one (.i n)] (.cells (TDraw.c d) 83) (.av (.one (.i ((FNext d n).1)))) (.cells (TDraw.c ((FNext d n).2)) 83) := by
  refine wr_of_awF Try.func29 rfl (by kernel_rfl) (by kernel_rfl) (by kernel_rfl) (by kernel_rfl) fun W0 M0 X hX => ?_
  obtain ⟨a1, a2, a3⟩ := hd
  refine aw_seq ?_
  refine aw_region eqok [] [] [] [0, 1] [1000] [] ⟨[(0, tP 1000 0), (1, tI n)], [(1000, .cells (TDraw.c d) 83)]⟩ .nil (by kernel_rfl) .nil ?_
  refine ath_n ?_
  refine aw_seq ?_
  refine aw_seq ?_
  refine aw_draw mixed eqok [] [] [] [0, 1, 14] [1000] [] ⟨[(0, tP 1000 0), (1, tI n), (14, tB (decide ((((d.L.length : Int)) : Int) ≤ d.At)))], [(1000, .cells (TDraw.c d) 83)]⟩ .nil (by kernel_rfl) (by kernel_rfl) .nil ?_
  refine ath_n ?_
  refine aw_cond (decide ((((d.L.length : Int)) : Int) ≤ d.At)) (by kernel_rfl) (fun h1 => ?_) (fun h1 => ?_)
  · have g1 := of_decide_eq_true h1
    refine aw_seq ?_
    refine aw_region eqok [] [] [] [4] [1000] [] ⟨[(4, tI 0)], [(1000, .cells (TDraw.c d) 83)]⟩ .nil (by kernel_rfl) .nil ?_
    refine ath_n ?_
    refine aw_ret ?_
    refine ath_r ?_
    exact ⟨_, Cv.refl _, .inl rfl, .av (.one (.i 0)), by kernel_rfl, ⟨tve_eq (by first | (simp only [FNext, h1, cond_true, cond_false]; done) | (simp only [FNext, h1, cond_true, cond_false]; rfl)), .cells (TDraw.c d) 83, by kernel_rfl, bke_eq (by first | (simp only [FNext, h1, cond_true, cond_false]; done) | (simp only [FNext, h1, cond_true, cond_false]; kernel_rfl))⟩⟩
  · have g1 := of_decide_eq_false h1
    refine aw_skip ?_
    refine ath_n ?_
    refine aw_seq ?_
    refine aw_region eqok [] [] [] [0, 1] [1000] [] ⟨[(0, tP 1000 0), (1, tI n)], [(1000, .cells [lst 1 (fun x => [.i x]) d.L, .i (W64 (d.At + 1))] 83)]⟩ .nil (by kernel_rfl) .nil ?_
    refine ath_n ?_
    refine aw_seq ?_
    refine aw_draw mixed eqok [] [] [(34, cMod (d.L.getD ((W64 ((W64 (d.At + 1)) - 1)).toNat) default) n)] [4] [1000] [0 ≤ (W64 ((W64 (d.At + 1)) - 1) : Int) ∧ (W64 ((W64 (d.At + 1)) - 1) : Int) < ((d.L.length : Nat) : Int), Same (cMod (d.L.getD ((W64 ((W64 (d.At + 1)) - 1)).toNat) default) n).2.1] ⟨[(4, tI (FMod (d.L.getD ((W64 ((W64 (d.At + 1)) - 1)).toNat) default) n))], [(1000, .cells [lst 1 (fun x => [.i x]) d.L, .i (W64 (d.At + 1))] 83)]⟩ (.cons (okMod (d.L.getD ((W64 ((W64 (d.At + 1)) - 1)).toNat) default) n (by first | assumption | decide | omega | (simp only [List.length_cons, List.length_nil, List.length_append]; omega))) .nil) (by kernel_rfl) (by kernel_rfl) (.cons (by first | decide | omega | exact idx_tmod (by first | omega | (simp only [W64_def]; omega)) (by omega) | (simp only [W64_def]; omega) | (constructor <;> omega) | (simp only [List.length_append, List.length_cons, List.length_nil]; omega) | (simp only [List.length_append, List.length_cons, List.length_nil, List.length_drop, List.length_take] at *; omega)) (.cons rfl .nil)) ?_
    refine ath_n ?_
    refine aw_ret ?_
    exact ⟨_, Cv.refl _, .inl rfl, .av (.one (.i (FMod (d.L.getD ((W64 ((W64 (d.At + 1)) - 1)).toNat) default) n))), by kernel_rfl, ⟨tve_eq (by first | (simp only [FNext, h1, cond_true, cond_false]; done) | (simp only [FNext, h1, cond_true, cond_false]; rfl)), .cells [lst 1 (fun x => [.i x]) d.L, .i (W64 (d.At + 1))] 83, by kernel_rfl, bke_eq (by first | (simp only [FNext, h1, cond_true, cond_false]; done) | (simp only [FNext, h1, cond_true, cond_false]; kernel_rfl))⟩⟩
theorem draw_new {l : List Int} (h : (l.length : Int) ≤ 9223372036854775807) : DrawOk (TDraw.mk l 0) := ⟨Int.le_refl _, by show (0 : Int) ≤ (l.length : Int); omega, h⟩
theorem next_ok {d : TDraw} {n : Int} (h : DrawOk d) : DrawOk (FNext d n).2 := by
  obtain ⟨h1, h2, h3⟩ := h
  unfold FNext
  by_cases hc : (d.L.length : Int) ≤ d.At
  · simp only [hc, decide_true, cond_true]; exact ⟨h1, h2, h3⟩
  · simp only [hc, decide_false, cond_false]
    rw [W64_id (by omega) (by omega)]
    exact ⟨by show 0 ≤ d.At + 1; omega, by show d.At + 1 ≤ (d.L.length : Int); omega, h3⟩
theorem mod_b (n m : Int) (h0 : 0 < m) (h1 : m ≤ 4611686018427387904) : 0 ≤ FMod n m ∧ FMod n m < m := by
  have e : FMod n m = n % m := by
    unfold FMod W64
    rcases Int.lt_or_le n 0 with h | h
    · have b1 := Int.emod_nonneg (-n) (show m ≠ 0 by omega)
      have b2 := Int.emod_lt_of_pos (-n) h0
      rw [show n.tmod m = -((-n) % m) by rw [← Int.tmod_eq_emod_of_nonneg (by omega), Int.neg_tmod, Int.neg_neg]]
      rw [IntKind.wrap_i64]
      rw [show (-((-n) % m) + m + 9223372036854775808) % 18446744073709551616 - 9223372036854775808 = -((-n) % m) + m by omega]
      rw [Int.tmod_eq_emod_of_nonneg (by omega)]
      have e1 := Int.emod_add_mul_ediv (-n) m
      have e2 : -((-n) % m) + m = n + m * ((-n) / m + 1) := by grind
      rw [e2, Int.add_mul_emod_self_left]
    · have b1 := Int.emod_nonneg n (show m ≠ 0 by omega)
      have b2 := Int.emod_lt_of_pos n h0
      rw [Int.tmod_eq_emod_of_nonneg h, IntKind.wrap_i64]
      rw [show (n % m + m + 9223372036854775808) % 18446744073709551616 - 9223372036854775808 = n % m + m by omega]
      rw [Int.tmod_eq_emod_of_nonneg (by omega), Int.add_emod_right, Int.emod_emod_of_dvd _ (Int.dvd_refl m)]
  rw [e]
  exact ⟨Int.emod_nonneg n (by omega), Int.emod_lt_of_pos n h0⟩
theorem next_b (d : TDraw) (n : Int) (h0 : 0 < n) (h1 : n ≤ 4611686018427387904) : 0 ≤ (FNext d n).1 ∧ (FNext d n).1 < n := by
  unfold FNext
  by_cases hc : (d.L.length : Int) ≤ d.At
  · simp only [hc, decide_true, cond_true]; omega
  · simp only [hc, decide_false, cond_false]
    exact mod_b _ n h0 h1
theorem lt_many {v a : Int} {d : TDraw} {n : Int} (h : v < W64 (a + (FNext d n).1)) (h0 : 0 < n) (h1 : n ≤ 1000000) (ha : 0 ≤ a) (hb : a ≤ 1000000) : v < a + n := by
  have := next_b d n h0 (by omega)
  rw [W64_id (by omega) (by omega)] at h
  omega
theorem ge_many {v a : Int} {d : TDraw} {n : Int} (h : ¬ v < W64 (a + (FNext d n).1)) (h0 : 0 < n) (h1 : n ≤ 1000000) (ha : 0 ≤ a) (hb : a ≤ 1000000) : W64 (a + (FNext d n).1) < a + n := by
  have := next_b d n h0 (by omega)
  rw [W64_id (by omega) (by omega)]
  omega
theorem and_dec {p q : Prop} [Decidable p] [Decidable q] (h : (bif decide p then decide q else false) = true) : p ∧ q := by
  by_cases hp : p
  · rw [decide_eq_true hp] at h; exact ⟨hp, of_decide_eq_true h⟩
  · rw [decide_eq_false hp] at h; cases h
theorem draw_bif {c : Bool} {a b : TDraw} (ha : DrawOk a) (hb : DrawOk b) : DrawOk (bif c then a else b) := by cases c <;> assumption
theorem in_next (d : TDraw) (n k : Int) (h0 : 0 < n) (h1 : n ≤ 4611686018427387904) (h2 : n ≤ k) : 0 ≤ (FNext d n).1 ∧ (FNext d n).1 < k := ⟨(next_b d n h0 h1).1, by have := (next_b d n h0 h1).2; omega⟩
theorem getD_nz {l : List Int} (h : ∀ x ∈ l, x ≠ 0) {k : Int} (hk : 0 ≤ k ∧ k < l.length) : l.getD k.toNat 0 ≠ 0 := by
  have hlt : k.toNat < l.length := by omega
  rw [List.getD_eq_getElem?_getD, List.getElem?_eq_getElem hlt]
  exact h _ (List.getElem_mem _)
def FNear (d : TDraw) (width : Int) : (TPoint × TDraw) := (TPoint.mk (W64 (((FNext d (W64 ((W64 (2 * width)) + 1))).1) - width)) (W64 (((FNext ((FNext d (W64 ((W64 (2 * width)) + 1))).2) (W64 ((W64 (2 * width)) + 1))).1) - width)), (FNext ((FNext d (W64 ((W64 (2 * width)) + 1))).2) (W64 ((W64 (2 * width)) + 1))).2)
set_option maxRecDepth 100000 in
theorem pNear  (d : TDraw) (width : Int) (hd : DrawOk d) (hw : 0 ≤ width ∧ width ≤ 1000000) : Wr Try.prog 43 1000 [.one (.ptr 1000 0), .one (.i width)] (.cells (TDraw.c d) 83) (.av (.agg (TPoint.c ((FNear d width).1)))) (.cells (TDraw.c ((FNear d width).2)) 83) := by
  refine wr_of_awF Try.func43 rfl (by kernel_rfl) (by kernel_rfl) (by kernel_rfl) (by kernel_rfl) fun W0 M0 X hX => ?_
  refine aw_seq ?_
  refine aw_region eqok [] [] [] [0, 1, 4] [4, 1000] [] ⟨[(0, tP 1000 0), (1, tI width), (4, tP 4 0)], [(4, .cells [.i 0, .i 0] 102), (1000, .cells (TDraw.c d) 83)]⟩ .nil (by kernel_rfl) .nil ?_
  refine ath_n ?_
  refine aw_seq ?_
  refine aw_region eqok [] [] [(10, (29, ([.one (.ptr 1000 0), .one (.i (W64 ((W64 (2 * width)) + 1)))] : List Av).map (renA 1000 1000), wrI 1000 (.cells (TDraw.c d) 83) (tI ((FNext d (W64 ((W64 (2 * width)) + 1))).1)) (.cells (TDraw.c ((FNext d (W64 ((W64 (2 * width)) + 1))).2)) 83)))] [0, 1, 4, 5] [4, 1000] [Same ((29, ([.one (.ptr 1000 0), .one (.i (W64 ((W64 (2 * width)) + 1)))] : List Av).map (renA 1000 1000), wrI 1000 (.cells (TDraw.c d) 83) (tI ((FNext d (W64 ((W64 (2 * width)) + 1))).1)) (.cells (TDraw.c ((FNext d (W64 ((W64 (2 * width)) + 1))).2)) 83))).2.1, SameB (.cells (TDraw.c d) 83)] ⟨[(0, tP 1000 0), (1, tI width), (4, tP 4 0), (5, tI (W64 (((FNext d (W64 ((W64 (2 * width)) + 1))).1) - width)))], [(4, .cells [.i 0, .i 0] 102), (1000, .cells (TDraw.c ((FNext d (W64 ((W64 (2 * width)) + 1))).2)) 83)]⟩ (.cons (callOk_wr (fun _ _ => by kernel_rfl) (by kernel_rfl) (by kernel_rfl) (pNext d (W64 ((W64 (2 * width)) + 1)) (by repeat (first | assumption | exact draw_new (by assumption) | refine next_ok ?_ | refine near_ok ?_ | refine draw_bif ?_ ?_ | refine hKd _ _ ?_ | refine cond_dk _ ?_)) (by first | decide | omega | (simp only [W64_def]; omega)))) .nil) (by kernel_rfl) (.cons rfl (.cons rfl .nil)) ?_
  refine ath_n ?_
  refine aw_seq ?_
  refine aw_region eqok [] [] [(18, (29, ([.one (.ptr 1000 0), .one (.i (W64 ((W64 (2 * width)) + 1)))] : List Av).map (renA 1000 1000), wrI 1000 (.cells (TDraw.c ((FNext d (W64 ((W64 (2 * width)) + 1))).2)) 83) (tI ((FNext ((FNext d (W64 ((W64 (2 * width)) + 1))).2) (W64 ((W64 (2 * width)) + 1))).1)) (.cells (TDraw.c ((FNext ((FNext d (W64 ((W64 (2 * width)) + 1))).2) (W64 ((W64 (2 * width)) + 1))).2)) 83)))] [4] [4, 1000] [Same ((29, ([.one (.ptr 1000 0), .one (.i (W64 ((W64 (2 * width)) + 1)))] : List Av).map (renA 1000 1000), wrI 1000 (.cells (TDraw.c ((FNext d (W64 ((W64 (2 * width)) + 1))).2)) 83) (tI ((FNext ((FNext d (W64 ((W64 (2 * width)) + 1))).2) (W64 ((W64 (2 * width)) + 1))).1)) (.cells (TDraw.c ((FNext ((FNext d (W64 ((W64 (2 * width)) + 1))).2) (W64 ((W64 (2 * width)) + 1))).2)) 83))).2.1, SameB (.cells (TDraw.c ((FNext d (W64 ((W64 (2 * width)) + 1))).2)) 83)] ⟨[(4, tP 4 0)], [(4, .cells [.i (W64 (((FNext d (W64 ((W64 (2 * width)) + 1))).1) - width)), .i (W64 (((FNext ((FNext d (W64 ((W64 (2 * width)) + 1))).2) (W64 ((W64 (2 * width)) + 1))).1) - width))] 102), (1000, .cells (TDraw.c ((FNext ((FNext d (W64 ((W64 (2 * width)) + 1))).2) (W64 ((W64 (2 * width)) + 1))).2)) 83)]⟩ (.cons (callOk_wr (fun _ _ => by kernel_rfl) (by kernel_rfl) (by kernel_rfl) (pNext ((FNext d (W64 ((W64 (2 * width)) + 1))).2) (W64 ((W64 (2 * width)) + 1)) (by repeat (first | assumption | exact draw_new (by assumption) | refine next_ok ?_ | refine near_ok ?_ | refine draw_bif ?_ ?_ | refine hKd _ _ ?_ | refine cond_dk _ ?_)) (by first | decide | omega | (simp only [W64_def]; omega)))) .nil) (by kernel_rfl) (.cons rfl (.cons rfl .nil)) ?_
  refine ath_n ?_
  refine aw_ret ?_
  exact ⟨_, Cv.refl _, .inl rfl, .av (.agg [.i (W64 (((FNext d (W64 ((W64 (2 * width)) + 1))).1) - width)), .i (W64 (((FNext ((FNext d (W64 ((W64 (2 * width)) + 1))).2) (W64 ((W64 (2 * width)) + 1))).1) - width))]), by kernel_rfl, ⟨tve_eq (by rfl), .cells (TDraw.c ((FNext ((FNext d (W64 ((W64 (2 * width)) + 1))).2) (W64 ((W64 (2 * width)) + 1))).2)) 83, by kernel_rfl, bke_eq (by kernel_rfl)⟩⟩
theorem near_ok {d : TDraw} {n : Int} (h : DrawOk d) : DrawOk (FNear d n).2 := next_ok (next_ok h)
theorem near_b (d : TDraw) (n : Int) (h0 : 0 ≤ n) (h1 : n ≤ 1000000) : (-n ≤ (FNear d n).1.X ∧ (FNear d n).1.X ≤ n) ∧ (-n ≤ (FNear d n).1.Y ∧ (FNear d n).1.Y ≤ n) := by
  have e : W64 (W64 (2 * n) + 1) = 2 * n + 1 := by simp only [W64_def]; omega
  unfold FNear
  simp only [e]
  have b1 := next_b d (2 * n + 1) (by omega) (by omega)
  have b2 := next_b (FNext d (2 * n + 1)).2 (2 * n + 1) (by omega) (by omega)
  simp only [W64_def]
  omega
end Go.Proofs.Ytoojlpcimogehaa
