/-
  No statement is proved in this text. It holds what functions return.
-/
import Derived.Test.YtgmhnkoifdpemaaProg
import Derived.Test.YtgmhnkoifdpemaaBk1
namespace Go.Proofs.Ytgmhnkoifdpemaa
open Go.RowKit
set_option linter.unusedVariables false
set_option linter.unusedSimpArgs false
def Fref05Right (x0 : TPoint) : Bool := bif bif bif decide ((((-67108864)) : Int) ≤ x0.X) then decide ((x0.X : Int) ≤ 67108864) else false then decide ((((-67108864)) : Int) ≤ x0.Y) else false then decide ((x0.Y : Int) ≤ 67108864) else false
def cref05Right (x0 : TPoint) : FuncId × List Av × Ef := (52, [.agg (TPoint.c x0)], .val [] (.av (.one (.b (Fref05Right x0)))))
set_option maxRecDepth 100000 in
theorem pref05Right (x0 : TPoint) : Pure Try.prog 52 (cref05Right x0).2.1 (.av (.one (.b (Fref05Right x0)))) := by
  refine pure_of_awF Try.func52 rfl (by kernel_rfl) (by kernel_rfl) fun W0 M0 => ?_
  refine aw_seq ?_
  refine aw_region eqok [] [] [] [1] [1] [] ⟨[(1, tP 1 0)], [(1, .cells (TPoint.c x0) 31)]⟩ .nil (by kernel_rfl) .nil ?_
  refine ath_n ?_
  refine aw_seq ?_
  refine aw_region eqok [] [] [] [2] [] [((decide ((((-67108864)) : Int) ≤ x0.X)) = true) → ((decide ((((-67108864)) : Int) ≤ x0.X)) = true), ((decide ((((-67108864)) : Int) ≤ x0.X)) = true) → ((decide ((((-67108864)) : Int) ≤ x0.X)) = true), (decide ((((-67108864)) : Int) ≤ x0.X)) = true → ((decide ((((-67108864)) : Int) ≤ x0.X)) = true), ((bif decide ((((-67108864)) : Int) ≤ x0.X) then decide ((x0.X : Int) ≤ 67108864) else false) = true) → ((bif decide ((((-67108864)) : Int) ≤ x0.X) then decide ((x0.X : Int) ≤ 67108864) else false) = true), ((bif decide ((((-67108864)) : Int) ≤ x0.X) then decide ((x0.X : Int) ≤ 67108864) else false) = true) → ((bif decide ((((-67108864)) : Int) ≤ x0.X) then decide ((x0.X : Int) ≤ 67108864) else false) = true), (bif decide ((((-67108864)) : Int) ≤ x0.X) then decide ((x0.X : Int) ≤ 67108864) else false) = true → ((bif decide ((((-67108864)) : Int) ≤ x0.X) then decide ((x0.X : Int) ≤ 67108864) else false) = true), ((bif bif decide ((((-67108864)) : Int) ≤ x0.X) then decide ((x0.X : Int) ≤ 67108864) else false then decide ((((-67108864)) : Int) ≤ x0.Y) else false) = true) → ((bif bif decide ((((-67108864)) : Int) ≤ x0.X) then decide ((x0.X : Int) ≤ 67108864) else false then decide ((((-67108864)) : Int) ≤ x0.Y) else false) = true), ((bif bif decide ((((-67108864)) : Int) ≤ x0.X) then decide ((x0.X : Int) ≤ 67108864) else false then decide ((((-67108864)) : Int) ≤ x0.Y) else false) = true) → ((bif bif decide ((((-67108864)) : Int) ≤ x0.X) then decide ((x0.X : Int) ≤ 67108864) else false then decide ((((-67108864)) : Int) ≤ x0.Y) else false) = true), (bif bif decide ((((-67108864)) : Int) ≤ x0.X) then decide ((x0.X : Int) ≤ 67108864) else false then decide ((((-67108864)) : Int) ≤ x0.Y) else false) = true → ((bif bif decide ((((-67108864)) : Int) ≤ x0.X) then decide ((x0.X : Int) ≤ 67108864) else false then decide ((((-67108864)) : Int) ≤ x0.Y) else false) = true)] ⟨[(2, tB (bif bif bif decide ((((-67108864)) : Int) ≤ x0.X) then decide ((x0.X : Int) ≤ 67108864) else false then decide ((((-67108864)) : Int) ≤ x0.Y) else false then decide ((x0.Y : Int) ≤ 67108864) else false))], []⟩ .nil (by kernel_rfl) (.cons id (.cons id (.cons id (.cons id (.cons id (.cons id (.cons id (.cons id (.cons id .nil))))))))) ?_
  refine ath_n ?_
  refine aw_ret ?_
  exact ⟨_, Cv.refl _, .inl rfl, .av (.one (.b (bif bif bif decide ((((-67108864)) : Int) ≤ x0.X) then decide ((x0.X : Int) ≤ 67108864) else false then decide ((((-67108864)) : Int) ≤ x0.Y) else false then decide ((x0.Y : Int) ≤ 67108864) else false))), by kernel_rfl, tve_eq (by rfl)⟩
theorem okref05Right (x0 : TPoint) : CallOk Try.prog (cref05Right x0).1 (cref05Right x0).2.1 (cref05Right x0).2.2 := callOk_pure (fun _ _ => by kernel_rfl) fun _ => pref05Right x0 
def Fref05Sub (x0 : TPoint) (x1 : TPoint) : TPoint := TPoint.mk (W64 (x0.X - x1.X)) (W64 (x0.Y - x1.Y))
def cref05Sub (x0 : TPoint) (x1 : TPoint) : FuncId × List Av × Ef := (47, [.agg (TPoint.c x0), .agg (TPoint.c x1)], .val [] (.av (.agg (TPoint.c (Fref05Sub x0 x1)))))
set_option maxRecDepth 100000 in
theorem pref05Sub (x0 : TPoint) (x1 : TPoint) : Pure Try.prog 47 (cref05Sub x0 x1).2.1 (.av (.agg (TPoint.c (Fref05Sub x0 x1)))) := by
  refine pure_of_awF Try.func47 rfl (by kernel_rfl) (by kernel_rfl) fun W0 M0 => ?_
  refine aw_seq ?_
  refine aw_region eqok [] [] [] [2, 3, 4] [2, 3, 4] [] ⟨[(2, tP 2 0), (3, tP 3 0), (4, tP 4 0)], [(2, .cells (TPoint.c x0) 31), (3, .cells (TPoint.c x1) 31), (4, .cells [.i 0, .i 0] 31)]⟩ .nil (by kernel_rfl) .nil ?_
  refine ath_n ?_
  refine aw_seq ?_
  refine aw_region eqok [] [] [] [4] [4] [] ⟨[(4, tP 4 0)], [(4, .cells [.i (W64 (x0.X - x1.X)), .i (W64 (x0.Y - x1.Y))] 31)]⟩ .nil (by kernel_rfl) .nil ?_
  refine ath_n ?_
  refine aw_ret ?_
  exact ⟨_, Cv.refl _, .inl rfl, .av (.agg [.i (W64 (x0.X - x1.X)), .i (W64 (x0.Y - x1.Y))]), by kernel_rfl, tve_eq (by rfl)⟩
theorem okref05Sub (x0 : TPoint) (x1 : TPoint) : CallOk Try.prog (cref05Sub x0 x1).1 (cref05Sub x0 x1).2.1 (cref05Sub x0 x1).2.2 := callOk_pure (fun _ _ => by kernel_rfl) fun _ => pref05Sub x0 x1 
def Fref05Add (x0 : TPoint) (x1 : TPoint) : TPoint := TPoint.mk (W64 (x0.X + x1.X)) (W64 (x0.Y + x1.Y))
def cref05Add (x0 : TPoint) (x1 : TPoint) : FuncId × List Av × Ef := (36, [.agg (TPoint.c x0), .agg (TPoint.c x1)], .val [] (.av (.agg (TPoint.c (Fref05Add x0 x1)))))
set_option maxRecDepth 100000 in
theorem pref05Add (x0 : TPoint) (x1 : TPoint) : Pure Try.prog 36 (cref05Add x0 x1).2.1 (.av (.agg (TPoint.c (Fref05Add x0 x1)))) := by
  refine pure_of_awF Try.func36 rfl (by kernel_rfl) (by kernel_rfl) fun W0 M0 => ?_
  refine aw_seq ?_
  refine aw_region eqok [] [] [] [2, 3, 4] [2, 3, 4] [] ⟨[(2, tP 2 0), (3, tP 3 0), (4, tP 4 0)], [(2, .cells (TPoint.c x0) 31), (3, .cells (TPoint.c x1) 31), (4, .cells [.i 0, .i 0] 31)]⟩ .nil (by kernel_rfl) .nil ?_
  refine ath_n ?_
  refine aw_seq ?_
  refine aw_region eqok [] [] [] [4] [4] [] ⟨[(4, tP 4 0)], [(4, .cells [.i (W64 (x0.X + x1.X)), .i (W64 (x0.Y + x1.Y))] 31)]⟩ .nil (by kernel_rfl) .nil ?_
  refine ath_n ?_
  refine aw_ret ?_
  exact ⟨_, Cv.refl _, .inl rfl, .av (.agg [.i (W64 (x0.X + x1.X)), .i (W64 (x0.Y + x1.Y))]), by kernel_rfl, tve_eq (by rfl)⟩
theorem okref05Add (x0 : TPoint) (x1 : TPoint) : CallOk Try.prog (cref05Add x0 x1).1 (cref05Add x0 x1).2.1 (cref05Add x0 x1).2.2 := callOk_pure (fun _ _ => by kernel_rfl) fun _ => pref05Add x0 x1 
def Fref05Dot (x0 : TPoint) (x1 : TPoint) : Int := W64 ((W64 (x0.X * x1.X)) + (W64 (x0.Y * x1.Y)))
def cref05Dot (x0 : TPoint) (x1 : TPoint) : FuncId × List Av × Ef := (48, [.agg (TPoint.c x0), .agg (TPoint.c x1)], .val [] (.av (.one (.i (Fref05Dot x0 x1)))))
set_option maxRecDepth 100000 in
theorem pref05Dot (x0 : TPoint) (x1 : TPoint) : Pure Try.prog 48 (cref05Dot x0 x1).2.1 (.av (.one (.i (Fref05Dot x0 x1)))) := by
  refine pure_of_awF Try.func48 rfl (by kernel_rfl) (by kernel_rfl) fun W0 M0 => ?_
  refine aw_seq ?_
  refine aw_region eqok [] [] [] [2, 3] [2, 3] [] ⟨[(2, tP 2 0), (3, tP 3 0)], [(2, .cells (TPoint.c x0) 31), (3, .cells (TPoint.c x1) 31)]⟩ .nil (by kernel_rfl) .nil ?_
  refine ath_n ?_
  refine aw_seq ?_
  refine aw_region eqok [] [] [] [4] [] [] ⟨[(4, tI (W64 ((W64 (x0.X * x1.X)) + (W64 (x0.Y * x1.Y)))))], []⟩ .nil (by kernel_rfl) .nil ?_
  refine ath_n ?_
  refine aw_ret ?_
  exact ⟨_, Cv.refl _, .inl rfl, .av (.one (.i (W64 ((W64 (x0.X * x1.X)) + (W64 (x0.Y * x1.Y)))))), by kernel_rfl, tve_eq (by rfl)⟩
theorem okref05Dot (x0 : TPoint) (x1 : TPoint) : CallOk Try.prog (cref05Dot x0 x1).1 (cref05Dot x0 x1).2.1 (cref05Dot x0 x1).2.2 := callOk_pure (fun _ _ => by kernel_rfl) fun _ => pref05Dot x0 x1 
def Fref05Turns (x0 : Int) : Int := Int.tmod (W64 ((Int.tmod x0 4) + 4)) 4
def cref05Turns (x0 : Int) : FuncId × List Av × Ef := (90, [.one (.i x0)], .val [] (.av (.one (.i (Fref05Turns x0)))))
set_option maxRecDepth 100000 in
theorem pref05Turns (x0 : Int) : Pure Try.prog 90 (cref05Turns x0).2.1 (.av (.one (.i (Fref05Turns x0)))) := by
  refine pure_of_awF Try.func90 rfl (by kernel_rfl) (by kernel_rfl) fun W0 M0 => ?_
  refine aw_seq ?_
  refine aw_region eqok [] [] [] [0] [] [] ⟨[(0, tI x0)], []⟩ .nil (by kernel_rfl) .nil ?_
  refine ath_n ?_
  refine aw_seq ?_
  refine aw_region eqok [] [] [] [2] [] [(4 : Int) ≠ 0, (4 : Int) ≠ 0] ⟨[(2, tI (Int.tmod (W64 ((Int.tmod x0 4) + 4)) 4))], []⟩ .nil (by kernel_rfl) (.cons (by first | assumption | decide | omega) (.cons (by first | assumption | decide | omega) .nil)) ?_
  refine ath_n ?_
  refine aw_ret ?_
  exact ⟨_, Cv.refl _, .inl rfl, .av (.one (.i (Int.tmod (W64 ((Int.tmod x0 4) + 4)) 4))), by kernel_rfl, tve_eq (by rfl)⟩
theorem okref05Turns (x0 : Int) : CallOk Try.prog (cref05Turns x0).1 (cref05Turns x0).2.1 (cref05Turns x0).2.2 := callOk_pure (fun _ _ => by kernel_rfl) fun _ => pref05Turns x0 
def Fref05turned (x0 : TPoint) (x1 : Int) : TPoint := bif decide (((Fref05Turns x1) : Int) = 1) then (TPoint.mk (W64 (0 - x0.Y)) x0.X) else (bif decide (((Fref05Turns x1) : Int) = 2) then (TPoint.mk (W64 (0 - x0.X)) (W64 (0 - x0.Y))) else (bif decide (((Fref05Turns x1) : Int) = 3) then (TPoint.mk x0.Y (W64 (0 - x0.X))) else (x0)))
def cref05turned (x0 : TPoint) (x1 : Int) : FuncId × List Av × Ef := (68, [.agg (TPoint.c x0), .one (.i x1)], .val [] (.av (.agg (TPoint.c (Fref05turned x0 x1)))))
set_option maxRecDepth 100000 in
theorem pref05turned (x0 : TPoint) (x1 : Int) : Pure Try.prog 68 (cref05turned x0 x1).2.1 (.av (.agg (TPoint.c (Fref05turned x0 x1)))) := by
  refine pure_of_awF Try.func68 rfl (by kernel_rfl) (by kernel_rfl) fun W0 M0 => ?_
  refine aw_seq ?_
  refine aw_region eqok [] [] [] [1, 2, 4] [2, 4] [] ⟨[(1, tI x1), (2, tP 2 0), (4, tP 4 0)], [(2, .cells (TPoint.c x0) 31), (4, .cells [.i 0, .i 0] 31)]⟩ .nil (by kernel_rfl) .nil ?_
  refine ath_n ?_
  refine aw_seq ?_
  refine aw_seq ?_
  refine aw_region eqok [] [] [(6, cref05Turns x1)] [2, 4, 6] [2, 4] [Same (cref05Turns x1).2.1] ⟨[(2, tP 2 0), (4, tP 4 0), (6, tI (Fref05Turns x1))], [(2, .cells (TPoint.c x0) 31), (4, .cells [.i 0, .i 0] 31)]⟩ (.cons (okref05Turns x1) .nil) (by kernel_rfl) (.cons rfl .nil) ?_
  refine ath_n ?_
  refine aw_block ?_
  refine aw_seq ?_
  refine aw_region eqok [] [] [] [2, 4, 6, 7] [2, 4] [] ⟨[(2, tP 2 0), (4, tP 4 0), (6, tI (Fref05Turns x1)), (7, tB (decide (((Fref05Turns x1) : Int) = 1)))], [(2, .cells (TPoint.c x0) 31), (4, .cells [.i 0, .i 0] 31)]⟩ .nil (by kernel_rfl) .nil ?_
  refine ath_n ?_
  refine aw_cond (decide (((Fref05Turns x1) : Int) = 1)) (by kernel_rfl) (fun h1 => ?_) (fun h1 => ?_)
  · have g1 := of_decide_eq_true h1
    refine aw_seq ?_
    refine aw_region eqok [] [] [] [4] [4] [] ⟨[(4, tP 4 0)], [(4, .cells [.i (W64 (0 - x0.Y)), .i x0.X] 31)]⟩ .nil (by kernel_rfl) .nil ?_
    refine ath_n ?_
    refine aw_ret ?_
    refine abl_r ?_
    refine ath_r ?_
    exact ⟨_, Cv.refl _, .inl rfl, .av (.agg [.i (W64 (0 - x0.Y)), .i x0.X]), by kernel_rfl, tve_eq (by first | (simp only [Fref05turned, h1, cond_true, cond_false]; done) | (simp only [Fref05turned, h1, cond_true, cond_false]; rfl))⟩
  · have g1 := of_decide_eq_false h1
    refine aw_seq ?_
    refine aw_region eqok [] [] [] [2, 4, 6, 15] [2, 4] [] ⟨[(2, tP 2 0), (4, tP 4 0), (6, tI (Fref05Turns x1)), (15, tB (decide (((Fref05Turns x1) : Int) = 2)))], [(2, .cells (TPoint.c x0) 31), (4, .cells [.i 0, .i 0] 31)]⟩ .nil (by kernel_rfl) .nil ?_
    refine ath_n ?_
    refine aw_cond (decide (((Fref05Turns x1) : Int) = 2)) (by kernel_rfl) (fun h2 => ?_) (fun h2 => ?_)
    · have g2 := of_decide_eq_true h2
      refine aw_seq ?_
      refine aw_region eqok [] [] [] [4] [4] [] ⟨[(4, tP 4 0)], [(4, .cells [.i (W64 (0 - x0.X)), .i (W64 (0 - x0.Y))] 31)]⟩ .nil (by kernel_rfl) .nil ?_
      refine ath_n ?_
      refine aw_ret ?_
      refine abl_r ?_
      refine ath_r ?_
      exact ⟨_, Cv.refl _, .inl rfl, .av (.agg [.i (W64 (0 - x0.X)), .i (W64 (0 - x0.Y))]), by kernel_rfl, tve_eq (by first | (simp only [Fref05turned, h1, h2, cond_true, cond_false]; done) | (simp only [Fref05turned, h1, h2, cond_true, cond_false]; rfl))⟩
    · have g2 := of_decide_eq_false h2
      refine aw_seq ?_
      refine aw_region eqok [] [] [] [2, 4, 24] [2, 4] [] ⟨[(2, tP 2 0), (4, tP 4 0), (24, tB (decide (((Fref05Turns x1) : Int) = 3)))], [(2, .cells (TPoint.c x0) 31), (4, .cells [.i 0, .i 0] 31)]⟩ .nil (by kernel_rfl) .nil ?_
      refine ath_n ?_
      refine aw_cond (decide (((Fref05Turns x1) : Int) = 3)) (by kernel_rfl) (fun h3 => ?_) (fun h3 => ?_)
      · have g3 := of_decide_eq_true h3
        refine aw_seq ?_
        refine aw_region eqok [] [] [] [4] [4] [] ⟨[(4, tP 4 0)], [(4, .cells [.i x0.Y, .i (W64 (0 - x0.X))] 31)]⟩ .nil (by kernel_rfl) .nil ?_
        refine ath_n ?_
        refine aw_ret ?_
        refine abl_r ?_
        refine ath_r ?_
        exact ⟨_, Cv.refl _, .inl rfl, .av (.agg [.i x0.Y, .i (W64 (0 - x0.X))]), by kernel_rfl, tve_eq (by first | (simp only [Fref05turned, h1, h2, h3, cond_true, cond_false]; done) | (simp only [Fref05turned, h1, h2, h3, cond_true, cond_false]; rfl))⟩
      · have g3 := of_decide_eq_false h3
        refine aw_skip ?_
        refine abl_n ?_
        refine ath_n ?_
        refine aw_seq ?_
        refine aw_region eqok [] [] [] [4] [4] [] ⟨[(4, tP 4 0)], [(4, .cells (TPoint.c x0) 31)]⟩ .nil (by kernel_rfl) .nil ?_
        refine ath_n ?_
        refine aw_ret ?_
        exact ⟨_, Cv.refl _, .inl rfl, .av (.agg (TPoint.c x0)), by kernel_rfl, tve_eq (by first | (simp only [Fref05turned, h1, h2, h3, cond_true, cond_false]; done) | (simp only [Fref05turned, h1, h2, h3, cond_true, cond_false]; rfl))⟩
theorem okref05turned (x0 : TPoint) (x1 : Int) : CallOk Try.prog (cref05turned x0 x1).1 (cref05turned x0 x1).2.1 (cref05turned x0 x1).2.2 := callOk_pure (fun _ _ => by kernel_rfl) fun _ => pref05turned x0 x1 
def Fref05mirrored (x0 : TPoint) (x1 : Bool) : TPoint := TPoint.mk (bif x1 then (W64 (0 - x0.X)) else x0.X) x0.Y
def cref05mirrored (x0 : TPoint) (x1 : Bool) : FuncId × List Av × Ef := (69, [.agg (TPoint.c x0), .one (.b x1)], .val [] (.av (.agg (TPoint.c (Fref05mirrored x0 x1)))))
set_option maxRecDepth 100000 in
theorem pref05mirrored (x0 : TPoint) (x1 : Bool) : Pure Try.prog 69 (cref05mirrored x0 x1).2.1 (.av (.agg (TPoint.c (Fref05mirrored x0 x1)))) := by
  refine pure_of_awF Try.func69 rfl (by kernel_rfl) (by kernel_rfl) fun W0 M0 => ?_
  refine aw_seq ?_
  refine aw_region eqok [] [] [] [1, 2, 4] [2, 4] [] ⟨[(1, tB x1), (2, tP 2 0), (4, tP 4 0)], [(2, .cells (TPoint.c x0) 31), (4, .cells [.i 0, .i 0] 31)]⟩ .nil (by kernel_rfl) .nil ?_
  refine ath_n ?_
  refine aw_seq ?_
  refine aw_seq ?_
  refine aw_region eqok [] [] [] [2, 4, 5] [2, 4] [] ⟨[(2, tP 2 0), (4, tP 4 0), (5, tB x1)], [(2, .cells (TPoint.c x0) 31), (4, .cells [.i 0, .i 0] 31)]⟩ .nil (by kernel_rfl) .nil ?_
  refine ath_n ?_
  refine aw_joinC (⟨[(2, tP 2 0), (4, tP 4 0)], [(2, .cells [.i (bif x1 then (W64 (0 - x0.X)) else x0.X), .i x0.Y] 31), (4, .cells [.i 0, .i 0] 31)]⟩) ?_ ?_
  · refine aw_cond (x1) (by kernel_rfl) (fun h1 => ?_) (fun h1 => ?_)
    · refine aw_region eqok [] [] [] [2, 4] [2, 4] [] ⟨[(2, tP 2 0), (4, tP 4 0)], [(2, .cells [.i (W64 (0 - x0.X)), .i x0.Y] 31), (4, .cells [.i 0, .i 0] 31)]⟩ .nil (by kernel_rfl) .nil ?_
      refine ath_n ?_
      refine cv_eq ?_
      first | rfl | (simp only [h1, cond_true, cond_false]; done) | (simp only [h1, cond_true, cond_false]; rfl)
    · refine aw_skip ?_
      refine ath_n ?_
      refine Cv.trans (cv_keep [2, 4] [2, 4] (⟨[(2, tP 2 0), (4, tP 4 0)], [(2, .cells (TPoint.c x0) 31), (4, .cells [.i 0, .i 0] 31)]⟩) (by kernel_rfl)) (cv_eq ?_)
      first | rfl | (simp only [h1, cond_true, cond_false]; done) | (simp only [h1, cond_true, cond_false]; rfl)
  refine aw_seq ?_
  refine aw_region eqok [] [] [] [4] [4] [] ⟨[(4, tP 4 0)], [(4, .cells [.i (bif x1 then (W64 (0 - x0.X)) else x0.X), .i x0.Y] 31)]⟩ .nil (by kernel_rfl) .nil ?_
  refine ath_n ?_
  refine aw_ret ?_
  exact ⟨_, Cv.refl _, .inl rfl, .av (.agg [.i (bif x1 then (W64 (0 - x0.X)) else x0.X), .i x0.Y]), by kernel_rfl, tve_eq (by rfl)⟩
theorem okref05mirrored (x0 : TPoint) (x1 : Bool) : CallOk Try.prog (cref05mirrored x0 x1).1 (cref05mirrored x0 x1).2.1 (cref05mirrored x0 x1).2.2 := callOk_pure (fun _ _ => by kernel_rfl) fun _ => pref05mirrored x0 x1 
def wref05Apply_0 (x1 : TPoint) (x0 : TMotion) : TPoint := Fref05turned (Fref05mirrored x1 x0.Mirror) x0.Turn
def Fref05Apply (x0 : TMotion) (x1 : TPoint) : TPoint := Fref05Add (wref05Apply_0 x1 x0) x0.At
def cref05Apply (x0 : TMotion) (x1 : TPoint) : FuncId × List Av × Ef := (35, [.agg (TMotion.c x0), .agg (TPoint.c x1)], .val [] (.av (.agg (TPoint.c (Fref05Apply x0 x1)))))
set_option maxRecDepth 100000 in
theorem pref05Apply (x0 : TMotion) (x1 : TPoint) : Pure Try.prog 35 (cref05Apply x0 x1).2.1 (.av (.agg (TPoint.c (Fref05Apply x0 x1)))) := by
  refine pure_of_awF Try.func35 rfl (by kernel_rfl) (by kernel_rfl) fun W0 M0 => ?_
  refine aw_seq ?_
  refine aw_region eqok [] [] [] [2, 3, 4] [2, 3, 4] [] ⟨[(2, tP 2 0), (3, tP 3 0), (4, tP 4 0)], [(2, .cells (TMotion.c x0) 84), (3, .cells (TPoint.c x1) 31), (4, .cells [.i 0, .i 0] 31)]⟩ .nil (by kernel_rfl) .nil ?_
  refine ath_n ?_
  refine aw_seq ?_
  refine aw_draw mixed eqok [] [] [(8, cref05mirrored x1 x0.Mirror), (11, cref05turned (Fref05mirrored x1 x0.Mirror) x0.Turn), (14, cref05Add (wref05Apply_0 x1 x0) x0.At)] [4] [4] [Same (cref05mirrored x1 x0.Mirror).2.1, Same (cref05turned (Fref05mirrored x1 x0.Mirror) x0.Turn).2.1, Same (cref05Add (wref05Apply_0 x1 x0) x0.At).2.1] ⟨[(4, tP 4 0)], [(4, .cells (TPoint.c (Fref05Add (wref05Apply_0 x1 x0) x0.At)) 31)]⟩ (.cons (okref05mirrored x1 x0.Mirror) (.cons (okref05turned (Fref05mirrored x1 x0.Mirror) x0.Turn) (.cons (okref05Add (wref05Apply_0 x1 x0) x0.At) .nil))) (by kernel_rfl) (by kernel_rfl) (.cons rfl (.cons rfl (.cons rfl .nil))) ?_
  refine ath_n ?_
  refine aw_ret ?_
  exact ⟨_, Cv.refl _, .inl rfl, .av (.agg (TPoint.c (Fref05Add (wref05Apply_0 x1 x0) x0.At))), by kernel_rfl, tve_eq (by rfl)⟩
theorem okref05Apply (x0 : TMotion) (x1 : TPoint) : CallOk Try.prog (cref05Apply x0 x1).1 (cref05Apply x0 x1).2.1 (cref05Apply x0 x1).2.2 := callOk_pure (fun _ _ => by kernel_rfl) fun _ => pref05Apply x0 x1 
def wref06Check_0 (x0 : TEdge) : Bool := bif !(Fref05Right x0.A) then true else !(Fref05Right x0.B)
def wref06Check_1 (x0 : TEdge) : Bool := bif wref06Check_0 x0 then true else !(Fref05Right x0.C)
def Fref06Check (x0 : TEdge) : Int := bif bif decide ((x0.Kind : Int) < 1) then true else decide ((3 : Int) < x0.Kind) then (11) else (bif wref06Check_1 x0 then (10) else (bif decide ((x0.Kind : Int) = 1) then (bif !(decide (x0.C.X = 0) && (decide (x0.C.Y = 0) && true)) then (11) else (0)) else (bif bif ((decide ((((Fref05Sub x0.A x0.C).X) : Int) = 0)) == (decide ((((Fref05Sub x0.A x0.C).Y) : Int) = 0))) then true else !(decide (((Fref05Sub x0.B x0.C).X) = (bif decide ((x0.Kind : Int) = 3) then ((Fref05Sub x0.A x0.C).Y) else (W64 (0 - ((Fref05Sub x0.A x0.C).Y))))) && (decide (((Fref05Sub x0.B x0.C).Y) = (bif decide ((x0.Kind : Int) = 3) then (W64 (0 - ((Fref05Sub x0.A x0.C).X))) else ((Fref05Sub x0.A x0.C).X))) && true)) then (11) else (0))))
def cref06Check (x0 : TEdge) : FuncId × List Av × Ef := (21, [.agg (TEdge.c x0)], .val [] (.av (.one (.i (Fref06Check x0)))))
set_option maxRecDepth 100000 in
theorem pref06Check (x0 : TEdge) : Pure Try.prog 21 (cref06Check x0).2.1 (.av (.one (.i (Fref06Check x0)))) := by
  refine pure_of_awF Try.func21 rfl (by kernel_rfl) (by kernel_rfl) fun W0 M0 => ?_
  refine aw_seq ?_
  refine aw_region eqok [] [] [] [1] [1] [] ⟨[(1, tP 1 0)], [(1, .cells (TEdge.c x0) 33)]⟩ .nil (by kernel_rfl) .nil ?_
  refine ath_n ?_
  refine aw_seq ?_
  refine aw_seq ?_
  refine aw_region eqok [] [] [] [1, 16] [1] [((decide ((x0.Kind : Int) < 1)) = false) → ((decide ((x0.Kind : Int) < 1)) = false), ((decide ((x0.Kind : Int) < 1)) = false) → ((decide ((x0.Kind : Int) < 1)) = false), (decide ((x0.Kind : Int) < 1)) = false → ((decide ((x0.Kind : Int) < 1)) = false)] ⟨[(1, tP 1 0), (16, tB (bif decide ((x0.Kind : Int) < 1) then true else decide ((3 : Int) < x0.Kind)))], [(1, .cells (TEdge.c x0) 33)]⟩ .nil (by kernel_rfl) (.cons id (.cons id (.cons id .nil))) ?_
  refine ath_n ?_
  refine aw_cond (bif decide ((x0.Kind : Int) < 1) then true else decide ((3 : Int) < x0.Kind)) (by kernel_rfl) (fun h1 => ?_) (fun h1 => ?_)
  · refine aw_seq ?_
    refine aw_region eqok [] [] [] [2] [] [] ⟨[(2, tI 11)], []⟩ .nil (by kernel_rfl) .nil ?_
    refine ath_n ?_
    refine aw_ret ?_
    refine ath_r ?_
    exact ⟨_, Cv.refl _, .inl rfl, .av (.one (.i 11)), by kernel_rfl, tve_eq (by first | (simp only [Fref06Check, h1, cond_true, cond_false]; done) | (simp only [Fref06Check, h1, cond_true, cond_false]; rfl))⟩
  · refine aw_skip ?_
    refine ath_n ?_
    refine aw_seq ?_
    refine aw_region eqok [] [] [(19, cref05Right x0.A)] [1, 3] [1] [Same (cref05Right x0.A).2.1] ⟨[(1, tP 1 0), (3, tB (Fref05Right x0.A))], [(1, .cells (TEdge.c x0) 33)]⟩ (.cons (okref05Right x0.A) .nil) (by kernel_rfl) (.cons rfl .nil) ?_
    refine ath_n ?_
    refine aw_seq ?_
    refine aw_region eqok [] [] [(22, cref05Right x0.B)] [1, 3, 4] [1] [Same (cref05Right x0.B).2.1] ⟨[(1, tP 1 0), (3, tB (Fref05Right x0.A)), (4, tB (Fref05Right x0.B))], [(1, .cells (TEdge.c x0) 33)]⟩ (.cons (okref05Right x0.B) .nil) (by kernel_rfl) (.cons rfl .nil) ?_
    refine ath_n ?_
    refine aw_seq ?_
    refine aw_region eqok [] [] [(25, cref05Right x0.C)] [1, 3, 4, 5] [1] [Same (cref05Right x0.C).2.1] ⟨[(1, tP 1 0), (3, tB (Fref05Right x0.A)), (4, tB (Fref05Right x0.B)), (5, tB (Fref05Right x0.C))], [(1, .cells (TEdge.c x0) 33)]⟩ (.cons (okref05Right x0.C) .nil) (by kernel_rfl) (.cons rfl .nil) ?_
    refine ath_n ?_
    refine aw_seq ?_
    refine aw_seq ?_
    refine aw_region eqok [] [] [] [1, 35] [1] [((!(Fref05Right x0.A)) = false) → ((!(Fref05Right x0.A)) = false), (!(Fref05Right x0.A)) = false → ((!(Fref05Right x0.A)) = false), ((wref06Check_0 x0) = false) → ((wref06Check_0 x0) = false), (wref06Check_0 x0) = false → ((wref06Check_0 x0) = false)] ⟨[(1, tP 1 0), (35, tB (wref06Check_1 x0))], [(1, .cells (TEdge.c x0) 33)]⟩ .nil (by kernel_rfl) (.cons id (.cons id (.cons id (.cons id .nil)))) ?_
    refine ath_n ?_
    refine aw_cond (wref06Check_1 x0) (by kernel_rfl) (fun h2 => ?_) (fun h2 => ?_)
    · refine aw_seq ?_
      refine aw_region eqok [] [] [] [2] [] [] ⟨[(2, tI 10)], []⟩ .nil (by kernel_rfl) .nil ?_
      refine ath_n ?_
      refine aw_ret ?_
      refine ath_r ?_
      exact ⟨_, Cv.refl _, .inl rfl, .av (.one (.i 10)), by kernel_rfl, tve_eq (by first | (simp only [Fref06Check, h1, h2, cond_true, cond_false]; done) | (simp only [Fref06Check, h1, h2, cond_true, cond_false]; rfl))⟩
    · refine aw_skip ?_
      refine ath_n ?_
      refine aw_seq ?_
      refine aw_seq ?_
      refine aw_region eqok [] [] [] [1, 38] [1] [] ⟨[(1, tP 1 0), (38, tB (decide ((x0.Kind : Int) = 1)))], [(1, .cells (TEdge.c x0) 33)]⟩ .nil (by kernel_rfl) .nil ?_
      refine ath_n ?_
      refine aw_cond (decide ((x0.Kind : Int) = 1)) (by kernel_rfl) (fun h3 => ?_) (fun h3 => ?_)
      · have g3 := of_decide_eq_true h3
        refine aw_seq ?_
        refine aw_seq ?_
        refine aw_region eqok [] [] [] [42] [] [] ⟨[(42, tB (!(decide (x0.C.X = 0) && (decide (x0.C.Y = 0) && true))))], []⟩ .nil (by kernel_rfl) .nil ?_
        refine ath_n ?_
        refine aw_cond (!(decide (x0.C.X = 0) && (decide (x0.C.Y = 0) && true))) (by kernel_rfl) (fun h4 => ?_) (fun h4 => ?_)
        · refine aw_seq ?_
          refine aw_region eqok [] [] [] [2] [] [] ⟨[(2, tI 11)], []⟩ .nil (by kernel_rfl) .nil ?_
          refine ath_n ?_
          refine aw_ret ?_
          refine ath_r ?_
          refine ath_r ?_
          exact ⟨_, Cv.refl _, .inl rfl, .av (.one (.i 11)), by kernel_rfl, tve_eq (by first | (simp only [Fref06Check, h1, h2, h3, h4, cond_true, cond_false]; done) | (simp only [Fref06Check, h1, h2, h3, h4, cond_true, cond_false]; rfl))⟩
        · refine aw_skip ?_
          refine ath_n ?_
          refine aw_seq ?_
          refine aw_region eqok [] [] [] [2] [] [] ⟨[(2, tI 0)], []⟩ .nil (by kernel_rfl) .nil ?_
          refine ath_n ?_
          refine aw_ret ?_
          refine ath_r ?_
          exact ⟨_, Cv.refl _, .inl rfl, .av (.one (.i 0)), by kernel_rfl, tve_eq (by first | (simp only [Fref06Check, h1, h2, h3, h4, cond_true, cond_false]; done) | (simp only [Fref06Check, h1, h2, h3, h4, cond_true, cond_false]; rfl))⟩
      · have g3 := of_decide_eq_false h3
        refine aw_skip ?_
        refine ath_n ?_
        refine aw_seq ?_
        refine aw_region eqok [] [] [(47, cref05Sub x0.A x0.C)] [1, 6] [1, 6] [Same (cref05Sub x0.A x0.C).2.1] ⟨[(1, tP 1 0), (6, tP 6 0)], [(1, .cells (TEdge.c x0) 33), (6, .cells (TPoint.c (Fref05Sub x0.A x0.C)) 31)]⟩ (.cons (okref05Sub x0.A x0.C) .nil) (by kernel_rfl) (.cons rfl .nil) ?_
        refine ath_n ?_
        refine aw_seq ?_
        refine aw_region eqok [] [] [(52, cref05Sub x0.B x0.C)] [1, 6, 7] [1, 6, 7] [Same (cref05Sub x0.B x0.C).2.1] ⟨[(1, tP 1 0), (6, tP 6 0), (7, tP 7 0)], [(1, .cells (TEdge.c x0) 33), (6, .cells (TPoint.c (Fref05Sub x0.A x0.C)) 31), (7, .cells (TPoint.c (Fref05Sub x0.B x0.C)) 31)]⟩ (.cons (okref05Sub x0.B x0.C) .nil) (by kernel_rfl) (.cons rfl .nil) ?_
        refine ath_n ?_
        refine aw_seq ?_
        refine aw_region eqok [] [] [] [1, 6, 7, 8] [1, 6, 7, 8] [] ⟨[(1, tP 1 0), (6, tP 6 0), (7, tP 7 0), (8, tP 8 0)], [(1, .cells (TEdge.c x0) 33), (6, .cells (TPoint.c (Fref05Sub x0.A x0.C)) 31), (7, .cells (TPoint.c (Fref05Sub x0.B x0.C)) 31), (8, .cells [.i (W64 (0 - ((Fref05Sub x0.A x0.C).Y))), .i ((Fref05Sub x0.A x0.C).X)] 31)]⟩ .nil (by kernel_rfl) .nil ?_
        refine ath_n ?_
        refine aw_seq ?_
        refine aw_seq ?_
        refine aw_region eqok [] [] [] [6, 7, 8, 61] [6, 7, 8] [] ⟨[(6, tP 6 0), (7, tP 7 0), (8, tP 8 0), (61, tB (decide ((x0.Kind : Int) = 3)))], [(6, .cells (TPoint.c (Fref05Sub x0.A x0.C)) 31), (7, .cells (TPoint.c (Fref05Sub x0.B x0.C)) 31), (8, .cells [.i (W64 (0 - ((Fref05Sub x0.A x0.C).Y))), .i ((Fref05Sub x0.A x0.C).X)] 31)]⟩ .nil (by kernel_rfl) .nil ?_
        refine ath_n ?_
        refine aw_joinC (⟨[(6, tP 6 0), (7, tP 7 0), (8, tP 8 0)], [(6, .cells (TPoint.c (Fref05Sub x0.A x0.C)) 31), (7, .cells (TPoint.c (Fref05Sub x0.B x0.C)) 31), (8, .cells [.i (bif decide ((x0.Kind : Int) = 3) then ((Fref05Sub x0.A x0.C).Y) else (W64 (0 - ((Fref05Sub x0.A x0.C).Y)))), .i (bif decide ((x0.Kind : Int) = 3) then (W64 (0 - ((Fref05Sub x0.A x0.C).X))) else ((Fref05Sub x0.A x0.C).X))] 31)]⟩) ?_ ?_
        · refine aw_cond (decide ((x0.Kind : Int) = 3)) (by kernel_rfl) (fun h4 => ?_) (fun h4 => ?_)
          · have g4 := of_decide_eq_true h4
            refine aw_region eqok [] [] [] [6, 7, 8] [6, 7, 8] [] ⟨[(6, tP 6 0), (7, tP 7 0), (8, tP 8 0)], [(6, .cells (TPoint.c (Fref05Sub x0.A x0.C)) 31), (7, .cells (TPoint.c (Fref05Sub x0.B x0.C)) 31), (8, .cells [.i ((Fref05Sub x0.A x0.C).Y), .i (W64 (0 - ((Fref05Sub x0.A x0.C).X)))] 31)]⟩ .nil (by kernel_rfl) .nil ?_
            refine ath_n ?_
            refine cv_eq ?_
            first | rfl | (simp only [h4, cond_true, cond_false]; done) | (simp only [h4, cond_true, cond_false]; rfl)
          · have g4 := of_decide_eq_false h4
            refine aw_skip ?_
            refine ath_n ?_
            refine Cv.trans (cv_keep [6, 7, 8] [6, 7, 8] (⟨[(6, tP 6 0), (7, tP 7 0), (8, tP 8 0)], [(6, .cells (TPoint.c (Fref05Sub x0.A x0.C)) 31), (7, .cells (TPoint.c (Fref05Sub x0.B x0.C)) 31), (8, .cells [.i (W64 (0 - ((Fref05Sub x0.A x0.C).Y))), .i ((Fref05Sub x0.A x0.C).X)] 31)]⟩) (by kernel_rfl)) (cv_eq ?_)
            first | rfl | (simp only [h4, cond_true, cond_false]; done) | (simp only [h4, cond_true, cond_false]; rfl)
        refine aw_seq ?_
        refine aw_seq ?_
        refine aw_region eqok [] [] [] [79] [] [((((decide ((((Fref05Sub x0.A x0.C).X) : Int) = 0)) == (decide ((((Fref05Sub x0.A x0.C).Y) : Int) = 0)))) = false) → ((((decide ((((Fref05Sub x0.A x0.C).X) : Int) = 0)) == (decide ((((Fref05Sub x0.A x0.C).Y) : Int) = 0)))) = false), ((((decide ((((Fref05Sub x0.A x0.C).X) : Int) = 0)) == (decide ((((Fref05Sub x0.A x0.C).Y) : Int) = 0)))) = false) → ((((decide ((((Fref05Sub x0.A x0.C).X) : Int) = 0)) == (decide ((((Fref05Sub x0.A x0.C).Y) : Int) = 0)))) = false), (((decide ((((Fref05Sub x0.A x0.C).X) : Int) = 0)) == (decide ((((Fref05Sub x0.A x0.C).Y) : Int) = 0)))) = false → ((((decide ((((Fref05Sub x0.A x0.C).X) : Int) = 0)) == (decide ((((Fref05Sub x0.A x0.C).Y) : Int) = 0)))) = false)] ⟨[(79, tB (bif ((decide ((((Fref05Sub x0.A x0.C).X) : Int) = 0)) == (decide ((((Fref05Sub x0.A x0.C).Y) : Int) = 0))) then true else !(decide (((Fref05Sub x0.B x0.C).X) = (bif decide ((x0.Kind : Int) = 3) then ((Fref05Sub x0.A x0.C).Y) else (W64 (0 - ((Fref05Sub x0.A x0.C).Y))))) && (decide (((Fref05Sub x0.B x0.C).Y) = (bif decide ((x0.Kind : Int) = 3) then (W64 (0 - ((Fref05Sub x0.A x0.C).X))) else ((Fref05Sub x0.A x0.C).X))) && true))))], []⟩ .nil (by kernel_rfl) (.cons id (.cons id (.cons id .nil))) ?_
        refine ath_n ?_
        refine aw_cond (bif ((decide ((((Fref05Sub x0.A x0.C).X) : Int) = 0)) == (decide ((((Fref05Sub x0.A x0.C).Y) : Int) = 0))) then true else !(decide (((Fref05Sub x0.B x0.C).X) = (bif decide ((x0.Kind : Int) = 3) then ((Fref05Sub x0.A x0.C).Y) else (W64 (0 - ((Fref05Sub x0.A x0.C).Y))))) && (decide (((Fref05Sub x0.B x0.C).Y) = (bif decide ((x0.Kind : Int) = 3) then (W64 (0 - ((Fref05Sub x0.A x0.C).X))) else ((Fref05Sub x0.A x0.C).X))) && true))) (by kernel_rfl) (fun h4 => ?_) (fun h4 => ?_)
        · refine aw_seq ?_
          refine aw_region eqok [] [] [] [2] [] [] ⟨[(2, tI 11)], []⟩ .nil (by kernel_rfl) .nil ?_
          refine ath_n ?_
          refine aw_ret ?_
          refine ath_r ?_
          exact ⟨_, Cv.refl _, .inl rfl, .av (.one (.i 11)), by kernel_rfl, tve_eq (by first | (simp only [Fref06Check, h1, h2, h3, h4, cond_true, cond_false]; done) | (simp only [Fref06Check, h1, h2, h3, h4, cond_true, cond_false]; rfl))⟩
        · refine aw_skip ?_
          refine ath_n ?_
          refine aw_seq ?_
          refine aw_region eqok [] [] [] [2] [] [] ⟨[(2, tI 0)], []⟩ .nil (by kernel_rfl) .nil ?_
          refine ath_n ?_
          refine aw_ret ?_
          exact ⟨_, Cv.refl _, .inl rfl, .av (.one (.i 0)), by kernel_rfl, tve_eq (by first | (simp only [Fref06Check, h1, h2, h3, h4, cond_true, cond_false]; done) | (simp only [Fref06Check, h1, h2, h3, h4, cond_true, cond_false]; rfl))⟩
theorem okref06Check (x0 : TEdge) : CallOk Try.prog (cref06Check x0).1 (cref06Check x0).2.1 (cref06Check x0).2.2 := callOk_pure (fun _ _ => by kernel_rfl) fun _ => pref06Check x0 
def Fref06size (x0 : Int) : Int := max x0 (W64 (0 - x0))
def cref06size (x0 : Int) : FuncId × List Av × Ef := (72, [.one (.i x0)], .val [] (.av (.one (.i (Fref06size x0)))))
set_option maxRecDepth 100000 in
theorem pref06size (x0 : Int) : Pure Try.prog 72 (cref06size x0).2.1 (.av (.one (.i (Fref06size x0)))) := by
  refine pure_of_awF Try.func72 rfl (by kernel_rfl) (by kernel_rfl) fun W0 M0 => ?_
  refine aw_seq ?_
  refine aw_region eqok [] [] [] [0] [] [] ⟨[(0, tI x0)], []⟩ .nil (by kernel_rfl) .nil ?_
  refine ath_n ?_
  refine aw_seq ?_
  refine aw_region eqok [] [] [] [2] [] [] ⟨[(2, tI (max x0 (W64 (0 - x0))))], []⟩ .nil (by kernel_rfl) .nil ?_
  refine ath_n ?_
  refine aw_ret ?_
  exact ⟨_, Cv.refl _, .inl rfl, .av (.one (.i (max x0 (W64 (0 - x0))))), by kernel_rfl, tve_eq (by rfl)⟩
theorem okref06size (x0 : Int) : CallOk Try.prog (cref06size x0).1 (cref06size x0).2.1 (cref06size x0).2.2 := callOk_pure (fun _ _ => by kernel_rfl) fun _ => pref06size x0 
def Fref06Radius (x0 : TEdge) : Int := bif bif decide ((x0.Kind : Int) = 1) then true else !decide (((Fref06Check x0) : Int) = 0) then (0) else (W64 ((Fref06size ((Fref05Sub x0.A x0.C).X)) + (Fref06size ((Fref05Sub x0.A x0.C).Y))))
def cref06Radius (x0 : TEdge) : FuncId × List Av × Ef := (46, [.agg (TEdge.c x0)], .val [] (.av (.one (.i (Fref06Radius x0)))))
set_option maxRecDepth 100000 in
theorem pref06Radius (x0 : TEdge) : Pure Try.prog 46 (cref06Radius x0).2.1 (.av (.one (.i (Fref06Radius x0)))) := by
  refine pure_of_awF Try.func46 rfl (by kernel_rfl) (by kernel_rfl) fun W0 M0 => ?_
  refine aw_seq ?_
  refine aw_region eqok [] [] [] [1] [1] [] ⟨[(1, tP 1 0)], [(1, .cells (TEdge.c x0) 33)]⟩ .nil (by kernel_rfl) .nil ?_
  refine ath_n ?_
  refine aw_seq ?_
  refine aw_seq ?_
  refine aw_region eqok [] [] [(9, cref06Check x0)] [1, 11] [1] [((decide ((x0.Kind : Int) = 1)) = false) → ((decide ((x0.Kind : Int) = 1)) = false), ((decide ((x0.Kind : Int) = 1)) = false) → (Same (cref06Check x0).2.1), ((decide ((x0.Kind : Int) = 1)) = false) → ((decide ((x0.Kind : Int) = 1)) = false), (decide ((x0.Kind : Int) = 1)) = false → ((decide ((x0.Kind : Int) = 1)) = false)] ⟨[(1, tP 1 0), (11, tB (bif decide ((x0.Kind : Int) = 1) then true else !decide (((Fref06Check x0) : Int) = 0)))], [(1, .cells (TEdge.c x0) 33)]⟩ (.cons (okref06Check x0) .nil) (by kernel_rfl) (.cons id (.cons (fun _ => rfl) (.cons id (.cons id .nil)))) ?_
  refine ath_n ?_
  refine aw_cond (bif decide ((x0.Kind : Int) = 1) then true else !decide (((Fref06Check x0) : Int) = 0)) (by kernel_rfl) (fun h1 => ?_) (fun h1 => ?_)
  · refine aw_seq ?_
    refine aw_region eqok [] [] [] [2] [] [] ⟨[(2, tI 0)], []⟩ .nil (by kernel_rfl) .nil ?_
    refine ath_n ?_
    refine aw_ret ?_
    refine ath_r ?_
    exact ⟨_, Cv.refl _, .inl rfl, .av (.one (.i 0)), by kernel_rfl, tve_eq (by first | (simp only [Fref06Radius, h1, cond_true, cond_false]; done) | (simp only [Fref06Radius, h1, cond_true, cond_false]; rfl))⟩
  · refine aw_skip ?_
    refine ath_n ?_
    refine aw_seq ?_
    refine aw_region eqok [] [] [(16, cref05Sub x0.A x0.C)] [3] [3] [Same (cref05Sub x0.A x0.C).2.1] ⟨[(3, tP 3 0)], [(3, .cells (TPoint.c (Fref05Sub x0.A x0.C)) 31)]⟩ (.cons (okref05Sub x0.A x0.C) .nil) (by kernel_rfl) (.cons rfl .nil) ?_
    refine ath_n ?_
    refine aw_seq ?_
    refine aw_draw mixed eqok [] [] [(19, cref06size ((Fref05Sub x0.A x0.C).X)), (22, cref06size ((Fref05Sub x0.A x0.C).Y))] [2] [] [Same (cref06size ((Fref05Sub x0.A x0.C).X)).2.1, Same (cref06size ((Fref05Sub x0.A x0.C).Y)).2.1] ⟨[(2, tI (W64 ((Fref06size ((Fref05Sub x0.A x0.C).X)) + (Fref06size ((Fref05Sub x0.A x0.C).Y)))))], []⟩ (.cons (okref06size ((Fref05Sub x0.A x0.C).X)) (.cons (okref06size ((Fref05Sub x0.A x0.C).Y)) .nil)) (by kernel_rfl) (by kernel_rfl) (.cons rfl (.cons rfl .nil)) ?_
    refine ath_n ?_
    refine aw_ret ?_
    exact ⟨_, Cv.refl _, .inl rfl, .av (.one (.i (W64 ((Fref06size ((Fref05Sub x0.A x0.C).X)) + (Fref06size ((Fref05Sub x0.A x0.C).Y)))))), by kernel_rfl, tve_eq (by first | (simp only [Fref06Radius, h1, cond_true, cond_false]; done) | (simp only [Fref06Radius, h1, cond_true, cond_false]; rfl))⟩
theorem okref06Radius (x0 : TEdge) : CallOk Try.prog (cref06Radius x0).1 (cref06Radius x0).2.1 (cref06Radius x0).2.2 := callOk_pure (fun _ _ => by kernel_rfl) fun _ => pref06Radius x0 
def wref06Arc_0 (x2 : Int) (x1 : Int) : TPoint := Fref05Apply (TMotion.mk (TPoint.mk 0 0) x2 false) (TPoint.mk x1 0)
def wref06Arc_1 (x3 : Int) (x2 : Int) (x1 : Int) : TPoint := Fref05Apply (TMotion.mk (TPoint.mk 0 0) (bif decide ((x3 : Int) = 3) then (W64 (x2 + 3)) else (W64 (x2 + 1))) false) (TPoint.mk x1 0)
def Fref06Arc (x0 : TPoint) (x1 : Int) (x2 : Int) (x3 : Int) : TEdge := TEdge.mk x3 (Fref05Add x0 (wref06Arc_0 x2 x1)) (Fref05Add x0 (wref06Arc_1 x3 x2 x1)) x0
def cref06Arc (x0 : TPoint) (x1 : Int) (x2 : Int) (x3 : Int) : FuncId × List Av × Ef := (76, [.agg (TPoint.c x0), .one (.i x1), .one (.i x2), .one (.i x3)], .val [] (.av (.agg (TEdge.c (Fref06Arc x0 x1 x2 x3)))))
set_option maxRecDepth 100000 in
theorem pref06Arc (x0 : TPoint) (x1 : Int) (x2 : Int) (x3 : Int) : Pure Try.prog 76 (cref06Arc x0 x1 x2 x3).2.1 (.av (.agg (TEdge.c (Fref06Arc x0 x1 x2 x3)))) := by
  refine pure_of_awF Try.func76 rfl (by kernel_rfl) (by kernel_rfl) fun W0 M0 => ?_
  refine aw_seq ?_
  refine aw_region eqok [] [] [] [1, 2, 3, 4, 8] [4, 8] [] ⟨[(1, tI x1), (2, tI x2), (3, tI x3), (4, tP 4 0), (8, tP 8 0)], [(4, .cells (TPoint.c x0) 31), (8, .cells [.i 0, .i 0, .i 0, .i 0, .i 0, .i 0, .i 0] 33)]⟩ .nil (by kernel_rfl) .nil ?_
  refine ath_n ?_
  refine aw_seq ?_
  refine aw_region eqok [] [] [(16, cref05Apply (TMotion.mk (TPoint.mk 0 0) x2 false) (TPoint.mk x1 0))] [1, 2, 3, 4, 8, 9] [4, 8, 9] [Same (cref05Apply (TMotion.mk (TPoint.mk 0 0) x2 false) (TPoint.mk x1 0)).2.1] ⟨[(1, tI x1), (2, tI x2), (3, tI x3), (4, tP 4 0), (8, tP 8 0), (9, tP 9 0)], [(4, .cells (TPoint.c x0) 31), (8, .cells [.i 0, .i 0, .i 0, .i 0, .i 0, .i 0, .i 0] 33), (9, .cells (TPoint.c (wref06Arc_0 x2 x1)) 31)]⟩ (.cons (okref05Apply (TMotion.mk (TPoint.mk 0 0) x2 false) (TPoint.mk x1 0)) .nil) (by kernel_rfl) (.cons rfl .nil) ?_
  refine ath_n ?_
  refine aw_seq ?_
  refine aw_region eqok [] [] [] [1, 2, 3, 4, 8, 9, 10] [4, 8, 9] [] ⟨[(1, tI x1), (2, tI x2), (3, tI x3), (4, tP 4 0), (8, tP 8 0), (9, tP 9 0), (10, tI (W64 (x2 + 1)))], [(4, .cells (TPoint.c x0) 31), (8, .cells [.i 0, .i 0, .i 0, .i 0, .i 0, .i 0, .i 0] 33), (9, .cells (TPoint.c (wref06Arc_0 x2 x1)) 31)]⟩ .nil (by kernel_rfl) .nil ?_
  refine ath_n ?_
  refine aw_seq ?_
  refine aw_seq ?_
  refine aw_region eqok [] [] [] [1, 2, 3, 4, 8, 9, 10, 20] [4, 8, 9] [] ⟨[(1, tI x1), (2, tI x2), (3, tI x3), (4, tP 4 0), (8, tP 8 0), (9, tP 9 0), (10, tI (W64 (x2 + 1))), (20, tB (decide ((x3 : Int) = 3)))], [(4, .cells (TPoint.c x0) 31), (8, .cells [.i 0, .i 0, .i 0, .i 0, .i 0, .i 0, .i 0] 33), (9, .cells (TPoint.c (wref06Arc_0 x2 x1)) 31)]⟩ .nil (by kernel_rfl) .nil ?_
  refine ath_n ?_
  refine aw_joinC (⟨[(1, tI x1), (3, tI x3), (4, tP 4 0), (8, tP 8 0), (9, tP 9 0), (10, tI (bif decide ((x3 : Int) = 3) then (W64 (x2 + 3)) else (W64 (x2 + 1))))], [(4, .cells (TPoint.c x0) 31), (8, .cells [.i 0, .i 0, .i 0, .i 0, .i 0, .i 0, .i 0] 33), (9, .cells (TPoint.c (wref06Arc_0 x2 x1)) 31)]⟩) ?_ ?_
  · refine aw_cond (decide ((x3 : Int) = 3)) (by kernel_rfl) (fun h1 => ?_) (fun h1 => ?_)
    · have g1 := of_decide_eq_true h1
      refine aw_region eqok [] [] [] [1, 3, 4, 8, 9, 10] [4, 8, 9] [] ⟨[(1, tI x1), (3, tI x3), (4, tP 4 0), (8, tP 8 0), (9, tP 9 0), (10, tI (W64 (x2 + 3)))], [(4, .cells (TPoint.c x0) 31), (8, .cells [.i 0, .i 0, .i 0, .i 0, .i 0, .i 0, .i 0] 33), (9, .cells (TPoint.c (wref06Arc_0 x2 x1)) 31)]⟩ .nil (by kernel_rfl) .nil ?_
      refine ath_n ?_
      refine cv_eq ?_
      first | rfl | (simp only [h1, cond_true, cond_false]; done) | (simp only [h1, cond_true, cond_false]; rfl)
    · have g1 := of_decide_eq_false h1
      refine aw_skip ?_
      refine ath_n ?_
      refine Cv.trans (cv_keep [1, 3, 4, 8, 9, 10] [4, 8, 9] (⟨[(1, tI x1), (3, tI x3), (4, tP 4 0), (8, tP 8 0), (9, tP 9 0), (10, tI (W64 (x2 + 1)))], [(4, .cells (TPoint.c x0) 31), (8, .cells [.i 0, .i 0, .i 0, .i 0, .i 0, .i 0, .i 0] 33), (9, .cells (TPoint.c (wref06Arc_0 x2 x1)) 31)]⟩) (by kernel_rfl)) (cv_eq ?_)
      first | rfl | (simp only [h1, cond_true, cond_false]; done) | (simp only [h1, cond_true, cond_false]; rfl)
  refine aw_seq ?_
  refine aw_region eqok [] [] [(27, cref05Apply (TMotion.mk (TPoint.mk 0 0) (bif decide ((x3 : Int) = 3) then (W64 (x2 + 3)) else (W64 (x2 + 1))) false) (TPoint.mk x1 0))] [3, 4, 8, 9, 11] [4, 8, 9, 11] [Same (cref05Apply (TMotion.mk (TPoint.mk 0 0) (bif decide ((x3 : Int) = 3) then (W64 (x2 + 3)) else (W64 (x2 + 1))) false) (TPoint.mk x1 0)).2.1] ⟨[(3, tI x3), (4, tP 4 0), (8, tP 8 0), (9, tP 9 0), (11, tP 11 0)], [(4, .cells (TPoint.c x0) 31), (8, .cells [.i 0, .i 0, .i 0, .i 0, .i 0, .i 0, .i 0] 33), (9, .cells (TPoint.c (wref06Arc_0 x2 x1)) 31), (11, .cells (TPoint.c (wref06Arc_1 x3 x2 x1)) 31)]⟩ (.cons (okref05Apply (TMotion.mk (TPoint.mk 0 0) (bif decide ((x3 : Int) = 3) then (W64 (x2 + 3)) else (W64 (x2 + 1))) false) (TPoint.mk x1 0)) .nil) (by kernel_rfl) (.cons rfl .nil) ?_
  refine ath_n ?_
  refine aw_seq ?_
  refine aw_draw mixed eqok [] [] [(31, cref05Add x0 (wref06Arc_0 x2 x1)), (34, cref05Add x0 (wref06Arc_1 x3 x2 x1))] [8] [8] [Same (cref05Add x0 (wref06Arc_0 x2 x1)).2.1, Same (cref05Add x0 (wref06Arc_1 x3 x2 x1)).2.1] ⟨[(8, tP 8 0)], [(8, .cells [.i x3, .i ((Fref05Add x0 (wref06Arc_0 x2 x1)).X), .i ((Fref05Add x0 (wref06Arc_0 x2 x1)).Y), .i ((Fref05Add x0 (wref06Arc_1 x3 x2 x1)).X), .i ((Fref05Add x0 (wref06Arc_1 x3 x2 x1)).Y), .i x0.X, .i x0.Y] 33)]⟩ (.cons (okref05Add x0 (wref06Arc_0 x2 x1)) (.cons (okref05Add x0 (wref06Arc_1 x3 x2 x1)) .nil)) (by kernel_rfl) (by kernel_rfl) (.cons rfl (.cons rfl .nil)) ?_
  refine ath_n ?_
  refine aw_ret ?_
  exact ⟨_, Cv.refl _, .inl rfl, .av (.agg [.i x3, .i ((Fref05Add x0 (wref06Arc_0 x2 x1)).X), .i ((Fref05Add x0 (wref06Arc_0 x2 x1)).Y), .i ((Fref05Add x0 (wref06Arc_1 x3 x2 x1)).X), .i ((Fref05Add x0 (wref06Arc_1 x3 x2 x1)).Y), .i x0.X, .i x0.Y]), by kernel_rfl, tve_eq (by rfl)⟩
theorem okref06Arc (x0 : TPoint) (x1 : Int) (x2 : Int) (x3 : Int) : CallOk Try.prog (cref06Arc x0 x1 x2 x3).1 (cref06Arc x0 x1 x2 x3).2.1 (cref06Arc x0 x1 x2 x3).2.2 := callOk_pure (fun _ _ => by kernel_rfl) fun _ => pref06Arc x0 x1 x2 x3 
def FMod (n : Int) (m : Int) : Int := Int.tmod (W64 ((Int.tmod n m) + m)) m
def cMod (n : Int) (m : Int) : FuncId × List Av × Ef := (20, [.one (.i n), .one (.i m)], .val [] (.av (.one (.i (FMod n m)))))
set_option maxRecDepth 100000 in
theorem pMod (n : Int) (m : Int) (hm : m ≠ 0) : Pure Try.prog 20 (cMod n m).2.1 (.av (.one (.i (FMod n m)))) := by
  refine pure_of_awF Try.func20 rfl (by kernel_rfl) (by kernel_rfl) fun W0 M0 => ?_
  refine aw_seq ?_
  refine aw_region eqok [] [] [] [0, 1] [] [] ⟨[(0, tI n), (1, tI m)], []⟩ .nil (by kernel_rfl) .nil ?_
  refine ath_n ?_
  refine aw_seq ?_
  refine aw_region eqok [] [] [] [4] [] [(m : Int) ≠ 0, (m : Int) ≠ 0] ⟨[(4, tI (Int.tmod (W64 ((Int.tmod n m) + m)) m))], []⟩ .nil (by kernel_rfl) (.cons (by first | assumption | decide | omega) (.cons (by first | assumption | decide | omega) .nil)) ?_
  refine ath_n ?_
  refine aw_ret ?_
  exact ⟨_, Cv.refl _, .inl rfl, .av (.one (.i (Int.tmod (W64 ((Int.tmod n m) + m)) m))), by kernel_rfl, tve_eq (by rfl)⟩
theorem okMod (n : Int) (m : Int) (hm : m ≠ 0) : CallOk Try.prog (cMod n m).1 (cMod n m).2.1 (cMod n m).2.2 := callOk_pure (fun _ _ => by kernel_rfl) fun _ => pMod n m hm
def DrawOk (d : TDraw) : Prop := 0 ≤ d.At ∧ d.At ≤ d.L.length ∧ (d.L.length : Int) ≤ 9223372036854775807
def FNext (d : TDraw) (n : Int) : (Int × TDraw) := bif decide ((((d.L.length : Int)) : Int) ≤ d.At) then ((0, d)) else ((FMod (d.L.getD ((W64 ((W64 (d.At + 1)) - 1)).toNat) default) n, TDraw.mk d.L (W64 (d.At + 1))))
set_option maxRecDepth 100000 in
theorem pNext  (d : TDraw) (n : Int) (hd : DrawOk d) (hn : n ≠ 0) : Wr Try.prog 34 1000 [.one (.ptr 1000 0), .one (.i n)] (.cells (TDraw.c d) 94) (.av (.one (.i ((FNext d n).1)))) (.cells (TDraw.c ((FNext d n).2)) 94) := by
  refine wr_of_awF Try.func34 rfl (by kernel_rfl) (by kernel_rfl) (by kernel_rfl) (by kernel_rfl) fun W0 M0 X hX => ?_
  obtain ⟨a1, a2, a3⟩ := hd
  refine aw_seq ?_
  refine aw_region eqok [] [] [] [0, 1] [1000] [] ⟨[(0, tP 1000 0), (1, tI n)], [(1000, .cells (TDraw.c d) 94)]⟩ .nil (by kernel_rfl) .nil ?_
  refine ath_n ?_
  refine aw_seq ?_
  refine aw_seq ?_
  refine aw_draw mixed eqok [] [] [] [0, 1, 14] [1000] [] ⟨[(0, tP 1000 0), (1, tI n), (14, tB (decide ((((d.L.length : Int)) : Int) ≤ d.At)))], [(1000, .cells (TDraw.c d) 94)]⟩ .nil (by kernel_rfl) (by kernel_rfl) .nil ?_
  refine ath_n ?_
  refine aw_cond (decide ((((d.L.length : Int)) : Int) ≤ d.At)) (by kernel_rfl) (fun h1 => ?_) (fun h1 => ?_)
  · have g1 := of_decide_eq_true h1
    refine aw_seq ?_
    refine aw_region eqok [] [] [] [4] [1000] [] ⟨[(4, tI 0)], [(1000, .cells (TDraw.c d) 94)]⟩ .nil (by kernel_rfl) .nil ?_
    refine ath_n ?_
    refine aw_ret ?_
    refine ath_r ?_
    exact ⟨_, Cv.refl _, .inl rfl, .av (.one (.i 0)), by kernel_rfl, ⟨tve_eq (by first | (simp only [FNext, h1, cond_true, cond_false]; done) | (simp only [FNext, h1, cond_true, cond_false]; rfl)), .cells (TDraw.c d) 94, by kernel_rfl, bke_eq (by first | (simp only [FNext, h1, cond_true, cond_false]; done) | (simp only [FNext, h1, cond_true, cond_false]; kernel_rfl))⟩⟩
  · have g1 := of_decide_eq_false h1
    refine aw_skip ?_
    refine ath_n ?_
    refine aw_seq ?_
    refine aw_region eqok [] [] [] [0, 1] [1000] [] ⟨[(0, tP 1000 0), (1, tI n)], [(1000, .cells [lst 1 (fun x => [.i x]) d.L, .i (W64 (d.At + 1))] 94)]⟩ .nil (by kernel_rfl) .nil ?_
    refine ath_n ?_
    refine aw_seq ?_
    refine aw_draw mixed eqok [] [] [(34, cMod (d.L.getD ((W64 ((W64 (d.At + 1)) - 1)).toNat) default) n)] [4] [1000] [0 ≤ (W64 ((W64 (d.At + 1)) - 1) : Int) ∧ (W64 ((W64 (d.At + 1)) - 1) : Int) < ((d.L.length : Nat) : Int), Same (cMod (d.L.getD ((W64 ((W64 (d.At + 1)) - 1)).toNat) default) n).2.1] ⟨[(4, tI (FMod (d.L.getD ((W64 ((W64 (d.At + 1)) - 1)).toNat) default) n))], [(1000, .cells [lst 1 (fun x => [.i x]) d.L, .i (W64 (d.At + 1))] 94)]⟩ (.cons (okMod (d.L.getD ((W64 ((W64 (d.At + 1)) - 1)).toNat) default) n (by first | with_reducible assumption | omega | decide | (simp only [List.length_cons, List.length_nil, List.length_append]; omega) | assumption)) .nil) (by kernel_rfl) (by kernel_rfl) (.cons (by first | decide | omega | exact idx_tmod (by first | omega | (simp only [W64_def]; omega)) (by omega) | (simp only [W64_def]; omega) | (constructor <;> omega) | (simp only [List.length_append, List.length_cons, List.length_nil]; omega) | (simp only [List.length_append, List.length_cons, List.length_nil, List.length_drop, List.length_take] at *; omega)) (.cons rfl .nil)) ?_
    refine ath_n ?_
    refine aw_ret ?_
    exact ⟨_, Cv.refl _, .inl rfl, .av (.one (.i (FMod (d.L.getD ((W64 ((W64 (d.At + 1)) - 1)).toNat) default) n))), by kernel_rfl, ⟨tve_eq (by first | (simp only [FNext, h1, cond_true, cond_false]; done) | (simp only [FNext, h1, cond_true, cond_false]; rfl)), .cells [lst 1 (fun x => [.i x]) d.L, .i (W64 (d.At + 1))] 94, by kernel_rfl, bke_eq (by first | (simp only [FNext, h1, cond_true, cond_false]; done) | (simp only [FNext, h1, cond_true, cond_false]; kernel_rfl))⟩⟩
theorem draw_new {l : List Int} (h : (l.length : Int) ≤ 9223372036854775807) : DrawOk (TDraw.mk l 0) := ⟨Int.le_refl _, by show (0 : Int) ≤ (l.length : Int); omega, h⟩
theorem next_ok {d : TDraw} {n : Int} (h : DrawOk d) : DrawOk (FNext d n).2 := by
  obtain ⟨h1, h2, h3⟩ := h
  unfold FNext
  by_cases hc : (d.L.length : Int) ≤ d.At
  · simp only [hc, decide_true, cond_true]; exact ⟨h1, h2, h3⟩
  · simp only [hc, decide_false, cond_false]
    rw [W64_id (by omega) (by omega)]
    exact ⟨by show 0 ≤ d.At + 1; omega, by show d.At + 1 ≤ (d.L.length : Int); omega, h3⟩
theorem mod_b (n m : Int) (h0 : 0 < m) (h1 : m ≤ 4611686018427387904) : 0 ≤ FMod n m ∧ FMod n m < m := by
  have e : FMod n m = n % m := by
    unfold FMod W64
    rcases Int.lt_or_le n 0 with h | h
    · have b1 := Int.emod_nonneg (-n) (show m ≠ 0 by omega)
      have b2 := Int.emod_lt_of_pos (-n) h0
      rw [show n.tmod m = -((-n) % m) by rw [← Int.tmod_eq_emod_of_nonneg (by omega), Int.neg_tmod, Int.neg_neg]]
      rw [IntKind.wrap_i64]
      rw [show (-((-n) % m) + m + 9223372036854775808) % 18446744073709551616 - 9223372036854775808 = -((-n) % m) + m by omega]
      rw [Int.tmod_eq_emod_of_nonneg (by omega)]
      have e1 := Int.emod_add_mul_ediv (-n) m
      have e2 : -((-n) % m) + m = n + m * ((-n) / m + 1) := by grind
      rw [e2, Int.add_mul_emod_self_left]
    · have b1 := Int.emod_nonneg n (show m ≠ 0 by omega)
      have b2 := Int.emod_lt_of_pos n h0
      rw [Int.tmod_eq_emod_of_nonneg h, IntKind.wrap_i64]
      rw [show (n % m + m + 9223372036854775808) % 18446744073709551616 - 9223372036854775808 = n % m + m by omega]
      rw [Int.tmod_eq_emod_of_nonneg (by omega), Int.add_emod_right, Int.emod_emod_of_dvd _ (Int.dvd_refl m)]
  rw [e]
  exact ⟨Int.emod_nonneg n (by omega), Int.emod_lt_of_pos n h0⟩
theorem next_b (d : TDraw) (n : Int) (h0 : 0 < n) (h1 : n ≤ 4611686018427387904) : 0 ≤ (FNext d n).1 ∧ (FNext d n).1 < n := by
  unfold FNext
  by_cases hc : (d.L.length : Int) ≤ d.At
  · simp only [hc, decide_true, cond_true]; omega
  · simp only [hc, decide_false, cond_false]
    exact mod_b _ n h0 h1
theorem lt_many {v a : Int} {d : TDraw} {n : Int} (h : v < W64 (a + (FNext d n).1)) (h0 : 0 < n) (h1 : n ≤ 1000000) (ha : 0 ≤ a) (hb : a ≤ 1000000) : v < a + n := by
  have := next_b d n h0 (by omega)
  rw [W64_id (by omega) (by omega)] at h
  omega
theorem ge_many {v a : Int} {d : TDraw} {n : Int} (h : ¬ v < W64 (a + (FNext d n).1)) (h0 : 0 < n) (h1 : n ≤ 1000000) (ha : 0 ≤ a) (hb : a ≤ 1000000) : W64 (a + (FNext d n).1) < a + n := by
  have := next_b d n h0 (by omega)
  rw [W64_id (by omega) (by omega)]
  omega
theorem and_dec {p q : Prop} [Decidable p] [Decidable q] (h : (bif decide p then decide q else false) = true) : p ∧ q := by
  by_cases hp : p
  · rw [decide_eq_true hp] at h; exact ⟨hp, of_decide_eq_true h⟩
  · rw [decide_eq_false hp] at h; cases h
theorem draw_bif {c : Bool} {a b : TDraw} (ha : DrawOk a) (hb : DrawOk b) : DrawOk (bif c then a else b) := by cases c <;> assumption
theorem in_next (d : TDraw) (n k : Int) (h0 : 0 < n) (h1 : n ≤ 4611686018427387904) (h2 : n ≤ k) : 0 ≤ (FNext d n).1 ∧ (FNext d n).1 < k := ⟨(next_b d n h0 h1).1, by have := (next_b d n h0 h1).2; omega⟩
theorem getD_nz {l : List Int} (h : ∀ x ∈ l, x ≠ 0) {k : Int} (hk : 0 ≤ k ∧ k < l.length) : l.getD k.toNat 0 ≠ 0 := by
  have hlt : k.toNat < l.length := by omega
  rw [List.getD_eq_getElem?_getD, List.getElem?_eq_getElem hlt]
  exact h _ (List.getElem_mem _)
end Go.Proofs.Ytgmhnkoifdpemaa
