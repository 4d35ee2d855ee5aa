/-
  No statement is proved in this text. It holds a part of what the proof of LengthSpread needs.
-/
import Derived.Test.YtgmhnkoifdpemaaLengthSpreadQc
namespace Go.Proofs.Ytgmhnkoifdpemaa
set_option maxRecDepth 100000
set_option linter.unusedVariables false
set_option linter.unusedSimpArgs false
section
open Go.RowKit
def Fref10line (x0 : TPoint) (x1 : TPoint) : TEdge := TEdge.mk 1 x0 x1 (TPoint.mk 0 0)
def cref10line (x0 : TPoint) (x1 : TPoint) : FuncId × List Av × Ef := (39, [.agg (TPoint.c x0), .agg (TPoint.c x1)], .val [] (.av (.agg (TEdge.c (Fref10line x0 x1)))))
theorem pref10line (x0 : TPoint) (x1 : TPoint) : Pure Try.prog 39 (cref10line x0 x1).2.1 (.av (.agg (TEdge.c (Fref10line x0 x1)))) := by
 refine pure_of_awF Try.func39 rfl kr kr fun W0 M0 => ?_
 refine aw_seq ?_
 refine aw_region eqok [] [] [] [2, 3, 4] [2, 3, 4] [] ⟨[(2, tP 2 0), (3, tP 3 0), (4, tP 4 0)], [(2, .cells (TPoint.c x0) 31), (3, .cells (TPoint.c x1) 31), (4, .cells [.i 0, .i 0, .i 0, .i 0, .i 0, .i 0, .i 0] 33)]⟩ .nil kr .nil <| ath_n <| aw_seq ?_
 refine aw_region eqok [] [] [] [4] [4] [] ⟨[(4, tP 4 0)], [(4, .cells [.i 1, .i x0.X, .i x0.Y, .i x1.X, .i x1.Y, .i 0, .i 0] 33)]⟩ .nil kr .nil <| ath_n <| aw_ret ?_
 exact ⟨_, Cv.refl _, .inl rfl, .av (.agg [.i 1, .i x0.X, .i x0.Y, .i x1.X, .i x1.Y, .i 0, .i 0]), by kernel_rfl, tve_eq (by rfl)⟩
theorem okref10line (x0 : TPoint) (x1 : TPoint) : CallOk Try.prog (cref10line x0 x1).1 (cref10line x0 x1).2.1 (cref10line x0 x1).2.2 := callOk_pure (fun _ _ => kr) fun _ => pref10line x0 x1
def Z0F : Blk := .cells [.i 0, .i 0, .i 0, .i 0, .i 0, .i 0, .i 0] 33
def Z0G (turn : Int) (r : Int) : TPoint := Fref05Apply (TMotion.mk (TPoint.mk 0 0) turn false) (TPoint.mk r 0)
def Z0H (p : TPoint) (turn : Int) (r : Int) : Blk := .cells (TPoint.c (Fref05Add p (Z0G turn r))) 31
def Z0I (p : TPoint) (turn : Int) (r : Int) : TPoint := Fref05Sub p (Fref05Add p (Z0G turn r))
def Z0J (p : TPoint) (turn : Int) (r : Int) : TPoint := Fref05Apply (TMotion.mk (TPoint.mk 0 0) 1 false) (Z0I p turn r)
def Z0K (p : TPoint) (turn : Int) (r : Int) : TPoint := Fref05Apply (TMotion.mk (TPoint.mk 0 0) 3 false) (Z0I p turn r)
def Z0L (right : Bool) (p : TPoint) (turn : Int) (r : Int) : TPoint := bif right then (Z0K p turn r) else (Z0J p turn r)
def Z0M (p : TPoint) (turn : Int) (r : Int) (right : Bool) : TPoint := Fref05Add (Fref05Add p (Z0G turn r)) (Z0L right p turn r)
def Fquarter10 (p : TPoint) (r : Int) (turn : Int) (right : Bool) : TEdge := TEdge.mk (bif right then 3 else 2) p (Z0M p turn r right) (Fref05Add p (Z0G turn r))
def cquarter10 (p : TPoint) (r : Int) (turn : Int) (right : Bool) : FuncId × List Av × Ef := (41, [.agg (TPoint.c p), .one (.i r), .one (.i turn), .one (.b right)], .val [] (.av (.agg (TEdge.c (Fquarter10 p r turn right)))))
theorem pquarter10 (p : TPoint) (r : Int) (turn : Int) (right : Bool) : Pure Try.prog 41 (cquarter10 p r turn right).2.1 (.av (.agg (TEdge.c (Fquarter10 p r turn right)))) := by
 refine pure_of_awF Try.func41 rfl kr kr fun W0 M0 => ?_
 refine aw_seq ?_
 refine aw_region eqok [] [] [] [1, 2, 3, 4, 8] [4, 8] [] ⟨[(1, tI r), (2, tI turn), (3, tB right), (4, tP 4 0), (8, tP 8 0)], [(4, .cells (TPoint.c p) 31), (8, Z0F)]⟩ .nil kr .nil <| ath_n <| aw_seq ?_
 refine aw_region eqok [] [] [] [1, 3, 4, 8, 9] [4, 8, 9] [] ⟨[(1, tI r), (3, tB right), (4, tP 4 0), (8, tP 8 0), (9, tP 9 0)], [(4, .cells (TPoint.c p) 31), (8, Z0F), (9, .cells [.i 0, .i 0, .i turn, .b false] 84)]⟩ .nil kr .nil <| ath_n <| aw_seq ?_
 refine aw_draw mixed eqok [] [] [(20, cref05Apply (TMotion.mk (TPoint.mk 0 0) turn false) (TPoint.mk r 0)), (21, cref05Add p (Z0G turn r))] [3, 4, 8, 10] [4, 8, 10] [Same (cref05Apply (TMotion.mk (TPoint.mk 0 0) turn false) (TPoint.mk r 0)).2.1, Same (cref05Add p (Z0G turn r)).2.1] ⟨[(3, tB right), (4, tP 4 0), (8, tP 8 0), (10, tP 10 0)], [(4, .cells (TPoint.c p) 31), (8, Z0F), (10, Z0H p turn r)]⟩ (.cons (okref05Apply (TMotion.mk (TPoint.mk 0 0) turn false) (TPoint.mk r 0)) (.cons (okref05Add p (Z0G turn r)) .nil)) kr kr (.cons rfl (.cons rfl .nil)) <| ath_n <| aw_seq ?_
 refine aw_region eqok [] [] [(24, cref05Sub p (Fref05Add p (Z0G turn r)))] [3, 4, 8, 10, 11] [4, 8, 10, 11] [Same (cref05Sub p (Fref05Add p (Z0G turn r))).2.1] ⟨[(3, tB right), (4, tP 4 0), (8, tP 8 0), (10, tP 10 0), (11, tP 11 0)], [(4, .cells (TPoint.c p) 31), (8, Z0F), (10, Z0H p turn r), (11, .cells (TPoint.c (Z0I p turn r)) 31)]⟩ (.cons (okref05Sub p (Fref05Add p (Z0G turn r))) .nil) kr (.cons rfl .nil) <| ath_n <| aw_seq ?_
 refine aw_region eqok [] [] [] [3, 4, 8, 10, 11, 12] [4, 8, 10, 11] [] ⟨[(3, tB right), (4, tP 4 0), (8, tP 8 0), (10, tP 10 0), (11, tP 11 0), (12, tI 2)], [(4, .cells (TPoint.c p) 31), (8, Z0F), (10, Z0H p turn r), (11, .cells (TPoint.c (Z0I p turn r)) 31)]⟩ .nil kr .nil <| ath_n <| aw_seq ?_
 refine aw_region eqok [] [] [(27, cref05Apply (TMotion.mk (TPoint.mk 0 0) 1 false) (Z0I p turn r))] [3, 4, 8, 10, 11, 12, 13] [4, 8, 10, 11, 13] [Same (cref05Apply (TMotion.mk (TPoint.mk 0 0) 1 false) (Z0I p turn r)).2.1] ⟨[(3, tB right), (4, tP 4 0), (8, tP 8 0), (10, tP 10 0), (11, tP 11 0), (12, tI 2), (13, tP 13 0)], [(4, .cells (TPoint.c p) 31), (8, Z0F), (10, Z0H p turn r), (11, .cells (TPoint.c (Z0I p turn r)) 31), (13, .cells (TPoint.c (Z0J p turn r)) 31)]⟩ (.cons (okref05Apply (TMotion.mk (TPoint.mk 0 0) 1 false) (Z0I p turn r)) .nil) kr (.cons rfl .nil) <| ath_n ?_
 refine aw_seq <| aw_seq ?_
 refine aw_region eqok [] [] [] [4, 8, 10, 11, 12, 13, 28] [4, 8, 10, 11, 13] [] ⟨[(4, tP 4 0), (8, tP 8 0), (10, tP 10 0), (11, tP 11 0), (12, tI 2), (13, tP 13 0), (28, tB right)], [(4, .cells (TPoint.c p) 31), (8, Z0F), (10, Z0H p turn r), (11, .cells (TPoint.c (Z0I p turn r)) 31), (13, .cells (TPoint.c (Z0J p turn r)) 31)]⟩ .nil kr .nil <| ath_n ?_
 refine aw_joinC (⟨[(4, tP 4 0), (8, tP 8 0), (10, tP 10 0), (12, tI (bif right then 3 else 2)), (13, tP 13 0)], [(4, .cells (TPoint.c p) 31), (8, .cells [.i 0, .i 0, .i 0, .i 0, .i 0, .i 0, .i 0] 33), (10, .cells (TPoint.c (Fref05Add p (Z0G turn r))) 31), (13, .cells (TPoint.c (bif right then (Z0K p turn r) else (Z0J p turn r))) 31)]⟩) ?_ ?_
 ·refine aw_cond (right) kr (fun h1 => ?_) (fun h1 => ?_)
  ·refine aw_seq ?_
   refine aw_region eqok [] [] [] [4, 8, 10, 11, 12, 13] [4, 8, 10, 11, 13] [] ⟨[(4, tP 4 0), (8, tP 8 0), (10, tP 10 0), (11, tP 11 0), (12, tI 3), (13, tP 13 0)], [(4, .cells (TPoint.c p) 31), (8, Z0F), (10, Z0H p turn r), (11, .cells (TPoint.c (Z0I p turn r)) 31), (13, .cells (TPoint.c (Z0J p turn r)) 31)]⟩ .nil kr .nil <| ath_n ?_
   refine aw_region eqok [] [] [(31, cref05Apply (TMotion.mk (TPoint.mk 0 0) 3 false) (Z0I p turn r))] [4, 8, 10, 12, 13] [4, 8, 10, 13] [Same (cref05Apply (TMotion.mk (TPoint.mk 0 0) 3 false) (Z0I p turn r)).2.1] ⟨[(4, tP 4 0), (8, tP 8 0), (10, tP 10 0), (12, tI 3), (13, tP 13 0)], [(4, .cells (TPoint.c p) 31), (8, Z0F), (10, Z0H p turn r), (13, .cells (TPoint.c (Z0K p turn r)) 31)]⟩ (.cons (okref05Apply (TMotion.mk (TPoint.mk 0 0) 3 false) (Z0I p turn r)) .nil) kr (.cons rfl .nil) <| ath_n ?_
   refine cv_eq ?_
   first | rfl | (simp only [h1, cond_true, cond_false] <;> rfl)
  ·refine aw_skip <| ath_n ?_
   refine Cv.trans (cv_keep [4, 8, 10, 12, 13] [4, 8, 10, 13] (⟨[(4, tP 4 0), (8, tP 8 0), (10, tP 10 0), (12, tI 2), (13, tP 13 0)], [(4, .cells (TPoint.c p) 31), (8, Z0F), (10, Z0H p turn r), (13, .cells (TPoint.c (Z0J p turn r)) 31)]⟩) kr) (cv_eq ?_)
   first | rfl | (simp only [h1, cond_true, cond_false] <;> rfl)
 refine aw_seq ?_
 refine aw_draw mixed eqok [] [] [(36, cref05Add (Fref05Add p (Z0G turn r)) (Z0L right p turn r))] [8] [8] [Same (cref05Add (Fref05Add p (Z0G turn r)) (Z0L right p turn r)).2.1] ⟨[(8, tP 8 0)], [(8, .cells [.i (bif right then 3 else 2), .i p.X, .i p.Y, .i ((Z0M p turn r right).X), .i ((Z0M p turn r right).Y), .i ((Fref05Add p (Z0G turn r)).X), .i ((Fref05Add p (Z0G turn r)).Y)] 33)]⟩ (.cons (okref05Add (Fref05Add p (Z0G turn r)) (Z0L right p turn r)) .nil) kr kr (.cons rfl .nil) <| ath_n <| aw_ret ?_
 exact ⟨_, Cv.refl _, .inl rfl, .av (.agg [.i (bif right then 3 else 2), .i p.X, .i p.Y, .i ((Z0M p turn r right).X), .i ((Z0M p turn r right).Y), .i ((Fref05Add p (Z0G turn r)).X), .i ((Fref05Add p (Z0G turn r)).Y)]), by kernel_rfl, tve_eq (by rfl)⟩
theorem okquarter10 (p : TPoint) (r : Int) (turn : Int) (right : Bool) : CallOk Try.prog (cquarter10 p r turn right).1 (cquarter10 p r turn right).2.1 (cquarter10 p r turn right).2.2 := callOk_pure (fun _ _ => kr) fun _ => pquarter10 p r turn right
def Z0N : Blk := .cells [.i 0, vN, .i 0] 36
def Z0O : Blk := .cells [.i 2, vN, .i 0] 36
def Z0P (w_ : Int) : TPoint := Fref05Apply (TMotion.mk (TPoint.mk 0 0) 0 false) (TPoint.mk w_ 0)
def Z0Q (p : TPoint) (r : Int) (w_ : Int) : TPoint := Fref05Add (TPoint.mk (W64 (p.X + r)) p.Y) (Z0P w_)
def Z0R (r : Int) : TPoint := Fref05Apply (TMotion.mk (TPoint.mk 0 0) 0 false) (TPoint.mk 0 r)
def Z0S (p : TPoint) (r : Int) (w_ : Int) : TPoint := Fref05Add (Z0Q p r w_) (Z0R r)
def Z0T (r : Int) : TPoint := Fref05Apply (TMotion.mk (TPoint.mk 0 0) 0 false) (TPoint.mk r 0)
def Z0U (p : TPoint) (r : Int) (w_ : Int) : TPoint := Fref05Add (Z0S p r w_) (Z0T r)
def Z0V (p : TPoint) (r : Int) (w_ : Int) : TEdge := Fref10line (TPoint.mk (W64 (p.X + r)) p.Y) (Z0Q p r w_)
def Z0W (p : TPoint) (r : Int) (w_ : Int) : Blk := .cells [.i 2, .own 65 7 ([Z0V p r w_, TEdge.mk 2 (Z0Q p r w_) (Z0U p r w_) (Z0S p r w_)].length), .i 0] 36
def Z0X (p : TPoint) (r : Int) (w_ : Int) : Blk := .row 7 ([Z0V p r w_, TEdge.mk 2 (Z0Q p r w_) (Z0U p r w_) (Z0S p r w_)].length) (rowF TEdge.c [Z0V p r w_, TEdge.mk 2 (Z0Q p r w_) (Z0U p r w_) (Z0S p r w_)]) 33
def Z0Y (p : TPoint) (r : Int) (w_ : Int) : Blk := .cells [.i 2, .own 100000 7 ([Z0V p r w_, TEdge.mk 2 (Z0Q p r w_) (Z0U p r w_) (Z0S p r w_)].length), .i 0] 36
def Z0Z (h_ : Int) : TPoint := Fref05Apply (TMotion.mk (TPoint.mk 0 0) 1 false) (TPoint.mk h_ 0)
def Z10 (p : TPoint) (r : Int) (w_ : Int) (h_ : Int) : TPoint := Fref05Add (Z0U p r w_) (Z0Z h_)
def Z11 (r : Int) : TPoint := Fref05Apply (TMotion.mk (TPoint.mk 0 0) 1 false) (TPoint.mk 0 r)
def Z12 (p : TPoint) (r : Int) (w_ : Int) (h_ : Int) : TPoint := Fref05Add (Z10 p r w_ h_) (Z11 r)
def Z13 (r : Int) : TPoint := Fref05Apply (TMotion.mk (TPoint.mk 0 0) 1 false) (TPoint.mk r 0)
def Z14 (p : TPoint) (r : Int) (w_ : Int) (h_ : Int) : TPoint := Fref05Add (Z12 p r w_ h_) (Z13 r)
def Z15 (p : TPoint) (r : Int) (w_ : Int) (h_ : Int) : TEdge := Fref10line (Z0U p r w_) (Z10 p r w_ h_)
def Z16 (p : TPoint) (r : Int) (w_ : Int) (h_ : Int) : Blk := .cells [.i 2, .own 65 7 (([Z0V p r w_, TEdge.mk 2 (Z0Q p r w_) (Z0U p r w_) (Z0S p r w_)] ++ [Z15 p r w_ h_, TEdge.mk 2 (Z10 p r w_ h_) (Z14 p r w_ h_) (Z12 p r w_ h_)]).length), .i 0] 36
def Z17 (p : TPoint) (r : Int) (w_ : Int) (h_ : Int) : Blk := .row 7 (([Z0V p r w_, TEdge.mk 2 (Z0Q p r w_) (Z0U p r w_) (Z0S p r w_)] ++ [Z15 p r w_ h_, TEdge.mk 2 (Z10 p r w_ h_) (Z14 p r w_ h_) (Z12 p r w_ h_)]).length) (rowF TEdge.c ([Z0V p r w_, TEdge.mk 2 (Z0Q p r w_) (Z0U p r w_) (Z0S p r w_)] ++ [Z15 p r w_ h_, TEdge.mk 2 (Z10 p r w_ h_) (Z14 p r w_ h_) (Z12 p r w_ h_)])) 33
def Z18 (p : TPoint) (r : Int) (w_ : Int) (h_ : Int) : Blk := .cells [.i 2, .own 100001 7 (([Z0V p r w_, TEdge.mk 2 (Z0Q p r w_) (Z0U p r w_) (Z0S p r w_)] ++ [Z15 p r w_ h_, TEdge.mk 2 (Z10 p r w_ h_) (Z14 p r w_ h_) (Z12 p r w_ h_)]).length), .i 0] 36
def Z19 (w_ : Int) : TPoint := Fref05Apply (TMotion.mk (TPoint.mk 0 0) 2 false) (TPoint.mk w_ 0)
def Z1a (p : TPoint) (r : Int) (w_ : Int) (h_ : Int) : TPoint := Fref05Add (Z14 p r w_ h_) (Z19 w_)
def Z1b (r : Int) : TPoint := Fref05Apply (TMotion.mk (TPoint.mk 0 0) 2 false) (TPoint.mk 0 r)
def Z1c (p : TPoint) (r : Int) (w_ : Int) (h_ : Int) : TPoint := Fref05Add (Z1a p r w_ h_) (Z1b r)
def Z1d (r : Int) : TPoint := Fref05Apply (TMotion.mk (TPoint.mk 0 0) 2 false) (TPoint.mk r 0)
def Z1e (p : TPoint) (r : Int) (w_ : Int) (h_ : Int) : TPoint := Fref05Add (Z1c p r w_ h_) (Z1d r)
def Z1f (p : TPoint) (r : Int) (w_ : Int) (h_ : Int) : TEdge := Fref10line (Z14 p r w_ h_) (Z1a p r w_ h_)
def Z1g (p : TPoint) (r : Int) (w_ : Int) (h_ : Int) : Blk := .cells [.i 2, .own 65 7 ((([Z0V p r w_, TEdge.mk 2 (Z0Q p r w_) (Z0U p r w_) (Z0S p r w_)] ++ [Z15 p r w_ h_, TEdge.mk 2 (Z10 p r w_ h_) (Z14 p r w_ h_) (Z12 p r w_ h_)]) ++ [Z1f p r w_ h_, TEdge.mk 2 (Z1a p r w_ h_) (Z1e p r w_ h_) (Z1c p r w_ h_)]).length), .i 0] 36
def Z1h (p : TPoint) (r : Int) (w_ : Int) (h_ : Int) : Blk := .row 7 ((([Z0V p r w_, TEdge.mk 2 (Z0Q p r w_) (Z0U p r w_) (Z0S p r w_)] ++ [Z15 p r w_ h_, TEdge.mk 2 (Z10 p r w_ h_) (Z14 p r w_ h_) (Z12 p r w_ h_)]) ++ [Z1f p r w_ h_, TEdge.mk 2 (Z1a p r w_ h_) (Z1e p r w_ h_) (Z1c p r w_ h_)]).length) (rowF TEdge.c (([Z0V p r w_, TEdge.mk 2 (Z0Q p r w_) (Z0U p r w_) (Z0S p r w_)] ++ [Z15 p r w_ h_, TEdge.mk 2 (Z10 p r w_ h_) (Z14 p r w_ h_) (Z12 p r w_ h_)]) ++ [Z1f p r w_ h_, TEdge.mk 2 (Z1a p r w_ h_) (Z1e p r w_ h_) (Z1c p r w_ h_)])) 33
def Z1i (p : TPoint) (r : Int) (w_ : Int) (h_ : Int) : Blk := .cells [.i 2, .own 100002 7 ((([Z0V p r w_, TEdge.mk 2 (Z0Q p r w_) (Z0U p r w_) (Z0S p r w_)] ++ [Z15 p r w_ h_, TEdge.mk 2 (Z10 p r w_ h_) (Z14 p r w_ h_) (Z12 p r w_ h_)]) ++ [Z1f p r w_ h_, TEdge.mk 2 (Z1a p r w_ h_) (Z1e p r w_ h_) (Z1c p r w_ h_)]).length), .i 0] 36
def Z1j (h_ : Int) : TPoint := Fref05Apply (TMotion.mk (TPoint.mk 0 0) 3 false) (TPoint.mk h_ 0)
def Z1k (p : TPoint) (r : Int) (w_ : Int) (h_ : Int) : TPoint := Fref05Add (Z1e p r w_ h_) (Z1j h_)
def Z1l (r : Int) : TPoint := Fref05Apply (TMotion.mk (TPoint.mk 0 0) 3 false) (TPoint.mk 0 r)
def Z1m (p : TPoint) (r : Int) (w_ : Int) (h_ : Int) : TPoint := Fref05Add (Z1k p r w_ h_) (Z1l r)
def Z1n (r : Int) : TPoint := Fref05Apply (TMotion.mk (TPoint.mk 0 0) 3 false) (TPoint.mk r 0)
def Z1o (p : TPoint) (r : Int) (w_ : Int) (h_ : Int) : TPoint := Fref05Add (Z1m p r w_ h_) (Z1n r)
def Z1p (p : TPoint) (r : Int) (w_ : Int) (h_ : Int) : TEdge := Fref10line (Z1e p r w_ h_) (Z1k p r w_ h_)
def Z1q (p : TPoint) (r : Int) (w_ : Int) (h_ : Int) : Blk := .cells [.i 2, .own 65 7 (((([Z0V p r w_, TEdge.mk 2 (Z0Q p r w_) (Z0U p r w_) (Z0S p r w_)] ++ [Z15 p r w_ h_, TEdge.mk 2 (Z10 p r w_ h_) (Z14 p r w_ h_) (Z12 p r w_ h_)]) ++ [Z1f p r w_ h_, TEdge.mk 2 (Z1a p r w_ h_) (Z1e p r w_ h_) (Z1c p r w_ h_)]) ++ [Z1p p r w_ h_, TEdge.mk 2 (Z1k p r w_ h_) (Z1o p r w_ h_) (Z1m p r w_ h_)]).length), .i 0] 36
def Z1r (p : TPoint) (r : Int) (w_ : Int) (h_ : Int) : Blk := .row 7 (((([Z0V p r w_, TEdge.mk 2 (Z0Q p r w_) (Z0U p r w_) (Z0S p r w_)] ++ [Z15 p r w_ h_, TEdge.mk 2 (Z10 p r w_ h_) (Z14 p r w_ h_) (Z12 p r w_ h_)]) ++ [Z1f p r w_ h_, TEdge.mk 2 (Z1a p r w_ h_) (Z1e p r w_ h_) (Z1c p r w_ h_)]) ++ [Z1p p r w_ h_, TEdge.mk 2 (Z1k p r w_ h_) (Z1o p r w_ h_) (Z1m p r w_ h_)]).length) (rowF TEdge.c ((([Z0V p r w_, TEdge.mk 2 (Z0Q p r w_) (Z0U p r w_) (Z0S p r w_)] ++ [Z15 p r w_ h_, TEdge.mk 2 (Z10 p r w_ h_) (Z14 p r w_ h_) (Z12 p r w_ h_)]) ++ [Z1f p r w_ h_, TEdge.mk 2 (Z1a p r w_ h_) (Z1e p r w_ h_) (Z1c p r w_ h_)]) ++ [Z1p p r w_ h_, TEdge.mk 2 (Z1k p r w_ h_) (Z1o p r w_ h_) (Z1m p r w_ h_)])) 33
def Z1s (p : TPoint) (r : Int) (w_ : Int) (h_ : Int) : Blk := .cells [.i 2, .own 100003 7 (((([Z0V p r w_, TEdge.mk 2 (Z0Q p r w_) (Z0U p r w_) (Z0S p r w_)] ++ [Z15 p r w_ h_, TEdge.mk 2 (Z10 p r w_ h_) (Z14 p r w_ h_) (Z12 p r w_ h_)]) ++ [Z1f p r w_ h_, TEdge.mk 2 (Z1a p r w_ h_) (Z1e p r w_ h_) (Z1c p r w_ h_)]) ++ [Z1p p r w_ h_, TEdge.mk 2 (Z1k p r w_ h_) (Z1o p r w_ h_) (Z1m p r w_ h_)]).length), .i 0] 36
def Fround10 (p : TPoint) (r : Int) (w_ : Int) (h_ : Int) : TShape := TShape.mk 2 ((([Z0V p r w_, TEdge.mk 2 (Z0Q p r w_) (Z0U p r w_) (Z0S p r w_)] ++ [Z15 p r w_ h_, TEdge.mk 2 (Z10 p r w_ h_) (Z14 p r w_ h_) (Z12 p r w_ h_)]) ++ [Z1f p r w_ h_, TEdge.mk 2 (Z1a p r w_ h_) (Z1e p r w_ h_) (Z1c p r w_ h_)]) ++ [Z1p p r w_ h_, TEdge.mk 2 (Z1k p r w_ h_) (Z1o p r w_ h_) (Z1m p r w_ h_)]) 0
def cround10 (p : TPoint) (r : Int) (w_ : Int) (h_ : Int) : FuncId × List Av × Ef := (38, [.agg (TPoint.c p), .one (.i r), .one (.i w_), .one (.i h_)], .val [] (.av (.agg (TShape.c (Fround10 p r w_ h_)))))
theorem au1 {p : Prop} (h : p := by first | (unfold maxLen; omega) | (unfold maxLen; simp only [List.length_append, List.length_cons, List.length_nil]; omega) | first | omega | (simp only [List.length_append, List.length_cons, List.length_nil]; omega)) : p := h
theorem au2 {p : Prop} (h : p := by first | (simp; done) | (simp; omega)) : p := h
theorem pround10 (p : TPoint) (r : Int) (w_ : Int) (h_ : Int) : Pure Try.prog 38 (cround10 p r w_ h_).2.1 (.av (.agg (TShape.c (Fround10 p r w_ h_)))) := by
 refine pure_of_awF Try.func38 rfl kr kr fun W0 M0 => ?_
 refine aw_seq ?_
 refine aw_region eqok [] [] [] [1, 2, 3, 4, 8] [4, 8] [] ⟨[(1, tI r), (2, tI w_), (3, tI h_), (4, tP 4 0), (8, tP 8 0)], [(4, .cells (TPoint.c p) 31), (8, Z0N)]⟩ .nil kr .nil <| ath_n <| aw_seq ?_
 refine aw_region eqok [] [] [] [1, 2, 3, 4, 8, 9] [4, 8, 9] [] ⟨[(1, tI r), (2, tI w_), (3, tI h_), (4, tP 4 0), (8, tP 8 0), (9, tP 9 0)], [(4, .cells (TPoint.c p) 31), (8, Z0N), (9, Z0N)]⟩ .nil kr .nil <| ath_n <| aw_seq ?_
 refine aw_region eqok [] [] [] [1, 2, 3, 4, 8, 9] [4, 8, 9] [] ⟨[(1, tI r), (2, tI w_), (3, tI h_), (4, tP 4 0), (8, tP 8 0), (9, tP 9 0)], [(4, .cells (TPoint.c p) 31), (8, Z0N), (9, Z0O)]⟩ .nil kr .nil <| ath_n <| aw_seq ?_
 refine aw_region eqok [] [] [] [1, 2, 3, 8, 9, 10] [8, 9, 10] [] ⟨[(1, tI r), (2, tI w_), (3, tI h_), (8, tP 8 0), (9, tP 9 0), (10, tP 10 0)], [(8, Z0N), (9, Z0O), (10, .cells [.i (W64 (p.X + r)), .i p.Y] 31)]⟩ .nil kr .nil <| ath_n <| aw_seq ?_
 refine aw_region eqok [] [] [] [1, 8, 9, 10, 11] [8, 9, 10, 11] [] ⟨[(1, tI r), (8, tP 8 0), (9, tP 9 0), (10, tP 10 0), (11, tP 11 0)], [(8, Z0N), (9, Z0O), (10, .cells [.i (W64 (p.X + r)), .i p.Y] 31), (11, .cells [.i w_, .i h_] 161)]⟩ .nil kr .nil <| ath_n ?_
 refine aw_seq <| aw_seq ?_
 refine aw_region eqok [] [] [] [1, 8, 9, 10, 11, 12] [8, 9, 10, 11] [] ⟨[(1, tI r), (8, tP 8 0), (9, tP 9 0), (10, tP 10 0), (11, tP 11 0), (12, tI 0)], [(8, Z0N), (9, Z0O), (10, .cells [.i (W64 (p.X + r)), .i p.Y] 31), (11, .cells [.i w_, .i h_] 161)]⟩ .nil kr .nil <| ath_n <| aw_block ?_
 refine aw_unroll 5 ?_
 refine aw_round <| aw_seq <| aw_seq ?_
 refine aw_region eqok [] [] [] [1, 8, 9, 10, 11, 12, 29] [8, 9, 10, 11] [] ⟨[(1, tI r), (8, tP 8 0), (9, tP 9 0), (10, tP 10 0), (11, tP 11 0), (12, tI 0), (29, tB true)], [(8, Z0N), (9, Z0O), (10, .cells [.i (W64 (p.X + r)), .i p.Y] 31), (11, .cells [.i w_, .i h_] 161)]⟩ .nil kr .nil <| ath_n ?_
 refine aw_cond_t kr <| aw_skip ?_
 refine ath_n <| aw_seq ?_
 refine aw_block <| aw_seq ?_
 refine aw_region eqok [] [] [] [1, 8, 9, 10, 11, 12, 13] [8, 9, 10, 11, 13] [] ⟨[(1, tI r), (8, tP 8 0), (9, tP 9 0), (10, tP 10 0), (11, tP 11 0), (12, tI 0), (13, tP 13 0)], [(8, Z0N), (9, Z0O), (10, .cells [.i (W64 (p.X + r)), .i p.Y] 31), (11, .cells [.i w_, .i h_] 161), (13, .cells [.i 0, .i 0, .i 0, .b false] 84)]⟩ .nil kr .nil <| ath_n <| aw_seq ?_
 refine aw_draw mixed eqok [] [] [(41, cref05Apply (TMotion.mk (TPoint.mk 0 0) 0 false) (TPoint.mk w_ 0)), (42, cref05Add (TPoint.mk (W64 (p.X + r)) p.Y) (Z0P w_))] [1, 8, 9, 10, 11, 12, 13, 14] [8, 9, 10, 11, 13, 14] [(2 : Int) ≠ 0, 0 <= (0 : Int) /\ (0 : Int) < (2 : Int), Same (cref05Apply (TMotion.mk (TPoint.mk 0 0) 0 false) (TPoint.mk w_ 0)).2.1, Same (cref05Add (TPoint.mk (W64 (p.X + r)) p.Y) (Z0P w_)).2.1] ⟨[(1, tI r), (8, tP 8 0), (9, tP 9 0), (10, tP 10 0), (11, tP 11 0), (12, tI 0), (13, tP 13 0), (14, tP 14 0)], [(8, Z0N), (9, Z0O), (10, .cells [.i (W64 (p.X + r)), .i p.Y] 31), (11, .cells [.i w_, .i h_] 161), (13, .cells [.i 0, .i 0, .i 0, .b false] 84), (14, .cells (TPoint.c (Z0Q p r w_)) 31)]⟩ (.cons (okref05Apply (TMotion.mk (TPoint.mk 0 0) 0 false) (TPoint.mk w_ 0)) (.cons (okref05Add (TPoint.mk (W64 (p.X + r)) p.Y) (Z0P w_)) .nil)) kr kr (.cons au13 (.cons (by decide) (.cons rfl (.cons rfl .nil)))) <| ath_n <| aw_seq ?_
 refine aw_draw mixed eqok [] [] [(47, cref05Apply (TMotion.mk (TPoint.mk 0 0) 0 false) (TPoint.mk 0 r)), (48, cref05Add (Z0Q p r w_) (Z0R r))] [1, 8, 9, 10, 11, 12, 13, 14, 15] [8, 9, 10, 11, 13, 14, 15] [Same (cref05Apply (TMotion.mk (TPoint.mk 0 0) 0 false) (TPoint.mk 0 r)).2.1, Same (cref05Add (Z0Q p r w_) (Z0R r)).2.1] ⟨[(1, tI r), (8, tP 8 0), (9, tP 9 0), (10, tP 10 0), (11, tP 11 0), (12, tI 0), (13, tP 13 0), (14, tP 14 0), (15, tP 15 0)], [(8, Z0N), (9, Z0O), (10, .cells [.i (W64 (p.X + r)), .i p.Y] 31), (11, .cells [.i w_, .i h_] 161), (13, .cells [.i 0, .i 0, .i 0, .b false] 84), (14, .cells (TPoint.c (Z0Q p r w_)) 31), (15, .cells (TPoint.c (Z0S p r w_)) 31)]⟩ (.cons (okref05Apply (TMotion.mk (TPoint.mk 0 0) 0 false) (TPoint.mk 0 r)) (.cons (okref05Add (Z0Q p r w_) (Z0R r)) .nil)) kr kr (.cons rfl (.cons rfl .nil)) <| ath_n <| aw_seq ?_
 refine aw_draw mixed eqok [] [] [(53, cref05Apply (TMotion.mk (TPoint.mk 0 0) 0 false) (TPoint.mk r 0)), (54, cref05Add (Z0S p r w_) (Z0T r))] [1, 8, 9, 10, 11, 12, 14, 15, 16] [8, 9, 10, 11, 14, 15, 16] [Same (cref05Apply (TMotion.mk (TPoint.mk 0 0) 0 false) (TPoint.mk r 0)).2.1, Same (cref05Add (Z0S p r w_) (Z0T r)).2.1] ⟨[(1, tI r), (8, tP 8 0), (9, tP 9 0), (10, tP 10 0), (11, tP 11 0), (12, tI 0), (14, tP 14 0), (15, tP 15 0), (16, tP 16 0)], [(8, Z0N), (9, Z0O), (10, .cells [.i (W64 (p.X + r)), .i p.Y] 31), (11, .cells [.i w_, .i h_] 161), (14, .cells (TPoint.c (Z0Q p r w_)) 31), (15, .cells (TPoint.c (Z0S p r w_)) 31), (16, .cells (TPoint.c (Z0U p r w_)) 31)]⟩ (.cons (okref05Apply (TMotion.mk (TPoint.mk 0 0) 0 false) (TPoint.mk r 0)) (.cons (okref05Add (Z0S p r w_) (Z0T r)) .nil)) kr kr (.cons rfl (.cons rfl .nil)) <| ath_n <| aw_seq ?_
 refine aw_draw mixed eqok [] [] [(59, cref10line (TPoint.mk (W64 (p.X + r)) p.Y) (Z0Q p r w_))] [1, 8, 9, 10, 11, 12, 16] [8, 9, 10, 11, 16, 65] [Same (cref10line (TPoint.mk (W64 (p.X + r)) p.Y) (Z0Q p r w_)).2.1, 2 <= maxLen, 2 * 56 <= 140737488355328] ⟨[(1, tI r), (8, tP 8 0), (9, tP 9 0), (10, tP 10 0), (11, tP 11 0), (12, tI 0), (16, tP 16 0)], [(8, Z0N), (9, .cells [.i 2, .own 65 7 2, .i 0] 36), (10, .cells [.i (W64 (p.X + r)), .i p.Y] 31), (11, .cells [.i w_, .i h_] 161), (16, .cells (TPoint.c (Z0U p r w_)) 31), (65, .row 7 2 (colsC 7 2 [.i ((Z0V p r w_).Kind), .i (((Z0V p r w_).A).X), .i (((Z0V p r w_).A).Y), .i (((Z0V p r w_).B).X), .i (((Z0V p r w_).B).Y), .i (((Z0V p r w_).C).X), .i (((Z0V p r w_).C).Y), .i 2, .i ((Z0Q p r w_).X), .i ((Z0Q p r w_).Y), .i ((Z0U p r w_).X), .i ((Z0U p r w_).Y), .i ((Z0S p r w_).X), .i ((Z0S p r w_).Y)]) 33)]⟩ (.cons (okref10line (TPoint.mk (W64 (p.X + r)) p.Y) (Z0Q p r w_)) .nil) kr kr (.cons rfl (.cons au1 (.cons au1 .nil))) <| ath_n ?_
 refine aw_cv (Cv.trans (cv_ce (⟨[(1, tI r), (8, tP 8 0), (9, tP 9 0), (10, tP 10 0), (11, tP 11 0), (12, tI 0), (16, tP 16 0)], [(8, Z0N), (9, Z0W p r w_), (10, .cells [.i (W64 (p.X + r)), .i p.Y] 31), (11, .cells [.i w_, .i h_] 161), (16, .cells (TPoint.c (Z0U p r w_)) 31), (65, Z0X p r w_)]⟩) lr (.cons ⟨rfl, .refl _⟩ (.cons ⟨rfl, .cells _ (.cons (.refl _) (.cons (.own _ _ au2) (.cons (.refl _) .nil)))⟩ (.cons ⟨rfl, .refl _⟩ (.cons ⟨rfl, .refl _⟩ (.cons ⟨rfl, .refl _⟩ (.cons ⟨rfl, bke_told 33 (told_lit (c := TEdge.c) (xs := ([Z0V p r w_, TEdge.mk 2 (Z0Q p r w_) (Z0U p r w_) (Z0S p r w_)] : List TEdge)) rfl kr)⟩ .nil))))))) (Cv.refl _)) ?_
 refine aw_region eqok [] [] [] [1, 8, 9, 10, 11, 12] [8, 9, 10, 11, 65] [] ⟨[(1, tI r), (8, tP 8 0), (9, tP 9 0), (10, tP 10 0), (11, tP 11 0), (12, tI 0)], [(8, Z0N), (9, Z0W p r w_), (10, .cells (TPoint.c (Z0U p r w_)) 31), (11, .cells [.i w_, .i h_] 161), (65, Z0X p r w_)]⟩ .nil kr .nil <| abl_n <| ath_n ?_
 refine aw_region eqok [] [] [] [1, 8, 9, 10, 11, 12] [8, 9, 10, 11, 65] [] ⟨[(1, tI r), (8, tP 8 0), (9, tP 9 0), (10, tP 10 0), (11, tP 11 0), (12, tI 1)], [(8, Z0N), (9, Z0W p r w_), (10, .cells (TPoint.c (Z0U p r w_)) 31), (11, .cells [.i w_, .i h_] 161), (65, Z0X p r w_)]⟩ .nil kr .nil <| ath_n ?_
 refine aw_round ?_
 refine aw_cv (Cv.trans (cv_ren (⟨[(1, tI r), (8, tP 8 0), (9, tP 9 0), (10, tP 10 0), (11, tP 11 0), (12, tI 1)], [(8, Z0N), (9, Z0Y p r w_), (10, .cells (TPoint.c (Z0U p r w_)) 31), (11, .cells [.i w_, .i h_] 161), (100000, Z0X p r w_)]⟩) 65 100000 (K := []) (fun k x h => by cases h) rfl rfl kr kr) (Cv.refl _)) <| aw_seq <| aw_seq ?_
 refine aw_region eqok [] [] [] [1, 8, 9, 10, 11, 12, 29] [8, 9, 10, 11, 100000] [] ⟨[(1, tI r), (8, tP 8 0), (9, tP 9 0), (10, tP 10 0), (11, tP 11 0), (12, tI 1), (29, tB true)], [(8, Z0N), (9, Z0Y p r w_), (10, .cells (TPoint.c (Z0U p r w_)) 31), (11, .cells [.i w_, .i h_] 161), (100000, Z0X p r w_)]⟩ .nil kr .nil <| ath_n ?_
 refine aw_cond_t kr <| aw_skip ?_
 refine ath_n <| aw_seq ?_
 refine aw_block <| aw_seq ?_
 refine aw_region eqok [] [] [] [1, 8, 9, 10, 11, 12, 13] [8, 9, 10, 11, 13, 100000] [] ⟨[(1, tI r), (8, tP 8 0), (9, tP 9 0), (10, tP 10 0), (11, tP 11 0), (12, tI 1), (13, tP 13 0)], [(8, Z0N), (9, Z0Y p r w_), (10, .cells (TPoint.c (Z0U p r w_)) 31), (11, .cells [.i w_, .i h_] 161), (13, .cells [.i 0, .i 0, .i 1, .b false] 84), (100000, Z0X p r w_)]⟩ .nil kr .nil <| ath_n <| aw_seq ?_
 refine aw_draw mixed eqok [] [] [(41, cref05Apply (TMotion.mk (TPoint.mk 0 0) 1 false) (TPoint.mk h_ 0)), (42, cref05Add (Z0U p r w_) (Z0Z h_))] [1, 8, 9, 10, 11, 12, 13, 14] [8, 9, 10, 11, 13, 14, 100000] [(2 : Int) ≠ 0, 0 <= (1 : Int) /\ (1 : Int) < (2 : Int), Same (cref05Apply (TMotion.mk (TPoint.mk 0 0) 1 false) (TPoint.mk h_ 0)).2.1, Same (cref05Add (Z0U p r w_) (Z0Z h_)).2.1] ⟨[(1, tI r), (8, tP 8 0), (9, tP 9 0), (10, tP 10 0), (11, tP 11 0), (12, tI 1), (13, tP 13 0), (14, tP 14 0)], [(8, Z0N), (9, Z0Y p r w_), (10, .cells (TPoint.c (Z0U p r w_)) 31), (11, .cells [.i w_, .i h_] 161), (13, .cells [.i 0, .i 0, .i 1, .b false] 84), (14, .cells (TPoint.c (Z10 p r w_ h_)) 31), (100000, Z0X p r w_)]⟩ (.cons (okref05Apply (TMotion.mk (TPoint.mk 0 0) 1 false) (TPoint.mk h_ 0)) (.cons (okref05Add (Z0U p r w_) (Z0Z h_)) .nil)) kr kr (.cons au13 (.cons (by decide) (.cons rfl (.cons rfl .nil)))) <| ath_n <| aw_seq ?_
 refine aw_draw mixed eqok [] [] [(47, cref05Apply (TMotion.mk (TPoint.mk 0 0) 1 false) (TPoint.mk 0 r)), (48, cref05Add (Z10 p r w_ h_) (Z11 r))] [1, 8, 9, 10, 11, 12, 13, 14, 15] [8, 9, 10, 11, 13, 14, 15, 100000] [Same (cref05Apply (TMotion.mk (TPoint.mk 0 0) 1 false) (TPoint.mk 0 r)).2.1, Same (cref05Add (Z10 p r w_ h_) (Z11 r)).2.1] ⟨[(1, tI r), (8, tP 8 0), (9, tP 9 0), (10, tP 10 0), (11, tP 11 0), (12, tI 1), (13, tP 13 0), (14, tP 14 0), (15, tP 15 0)], [(8, Z0N), (9, Z0Y p r w_), (10, .cells (TPoint.c (Z0U p r w_)) 31), (11, .cells [.i w_, .i h_] 161), (13, .cells [.i 0, .i 0, .i 1, .b false] 84), (14, .cells (TPoint.c (Z10 p r w_ h_)) 31), (15, .cells (TPoint.c (Z12 p r w_ h_)) 31), (100000, Z0X p r w_)]⟩ (.cons (okref05Apply (TMotion.mk (TPoint.mk 0 0) 1 false) (TPoint.mk 0 r)) (.cons (okref05Add (Z10 p r w_ h_) (Z11 r)) .nil)) kr kr (.cons rfl (.cons rfl .nil)) <| ath_n <| aw_seq ?_
 refine aw_draw mixed eqok [] [] [(53, cref05Apply (TMotion.mk (TPoint.mk 0 0) 1 false) (TPoint.mk r 0)), (54, cref05Add (Z12 p r w_ h_) (Z13 r))] [1, 8, 9, 10, 11, 12, 14, 15, 16] [8, 9, 10, 11, 14, 15, 16, 100000] [Same (cref05Apply (TMotion.mk (TPoint.mk 0 0) 1 false) (TPoint.mk r 0)).2.1, Same (cref05Add (Z12 p r w_ h_) (Z13 r)).2.1] ⟨[(1, tI r), (8, tP 8 0), (9, tP 9 0), (10, tP 10 0), (11, tP 11 0), (12, tI 1), (14, tP 14 0), (15, tP 15 0), (16, tP 16 0)], [(8, Z0N), (9, Z0Y p r w_), (10, .cells (TPoint.c (Z0U p r w_)) 31), (11, .cells [.i w_, .i h_] 161), (14, .cells (TPoint.c (Z10 p r w_ h_)) 31), (15, .cells (TPoint.c (Z12 p r w_ h_)) 31), (16, .cells (TPoint.c (Z14 p r w_ h_)) 31), (100000, Z0X p r w_)]⟩ (.cons (okref05Apply (TMotion.mk (TPoint.mk 0 0) 1 false) (TPoint.mk r 0)) (.cons (okref05Add (Z12 p r w_ h_) (Z13 r)) .nil)) kr kr (.cons rfl (.cons rfl .nil)) <| ath_n <| aw_seq ?_
 refine aw_draw mixed eqok [] [] [(59, cref10line (Z0U p r w_) (Z10 p r w_ h_))] [1, 8, 9, 10, 11, 12, 16] [8, 9, 10, 11, 16, 65] [Same (cref10line (Z0U p r w_) (Z10 p r w_ h_)).2.1, [Z0V p r w_, TEdge.mk 2 (Z0Q p r w_) (Z0U p r w_) (Z0S p r w_)].length = [Z0V p r w_, TEdge.mk 2 (Z0Q p r w_) (Z0U p r w_) (Z0S p r w_)].length, ([Z0V p r w_, TEdge.mk 2 (Z0Q p r w_) (Z0U p r w_) (Z0S p r w_)].length) + 2 <= maxLen, (([Z0V p r w_, TEdge.mk 2 (Z0Q p r w_) (Z0U p r w_) (Z0S p r w_)].length) + 2) * 56 <= 140737488355328] ⟨[(1, tI r), (8, tP 8 0), (9, tP 9 0), (10, tP 10 0), (11, tP 11 0), (12, tI 1), (16, tP 16 0)], [(8, Z0N), (9, .cells [.i 2, .own 65 7 (([Z0V p r w_, TEdge.mk 2 (Z0Q p r w_) (Z0U p r w_) (Z0S p r w_)].length) + 2), .i 0] 36), (10, .cells (TPoint.c (Z0U p r w_)) 31), (11, .cells [.i w_, .i h_] 161), (16, .cells (TPoint.c (Z14 p r w_ h_)) 31), (65, .row 7 (([Z0V p r w_, TEdge.mk 2 (Z0Q p r w_) (Z0U p r w_) (Z0S p r w_)].length) + 2) (fun i j => if i < ([Z0V p r w_, TEdge.mk 2 (Z0Q p r w_) (Z0U p r w_) (Z0S p r w_)].length) then (rowF TEdge.c [Z0V p r w_, TEdge.mk 2 (Z0Q p r w_) (Z0U p r w_) (Z0S p r w_)]) i j else (colsC 7 2 [.i ((Z15 p r w_ h_).Kind), .i (((Z15 p r w_ h_).A).X), .i (((Z15 p r w_ h_).A).Y), .i (((Z15 p r w_ h_).B).X), .i (((Z15 p r w_ h_).B).Y), .i (((Z15 p r w_ h_).C).X), .i (((Z15 p r w_ h_).C).Y), .i 2, .i ((Z10 p r w_ h_).X), .i ((Z10 p r w_ h_).Y), .i ((Z14 p r w_ h_).X), .i ((Z14 p r w_ h_).Y), .i ((Z12 p r w_ h_).X), .i ((Z12 p r w_ h_).Y)]) (i - ([Z0V p r w_, TEdge.mk 2 (Z0Q p r w_) (Z0U p r w_) (Z0S p r w_)].length)) j) 33)]⟩ (.cons (okref10line (Z0U p r w_) (Z10 p r w_ h_)) .nil) kr kr (.cons rfl (.cons rfl (.cons au1 (.cons au1 .nil)))) <| ath_n ?_
 refine aw_cv (Cv.trans (cv_ce (⟨[(1, tI r), (8, tP 8 0), (9, tP 9 0), (10, tP 10 0), (11, tP 11 0), (12, tI 1), (16, tP 16 0)], [(8, Z0N), (9, Z16 p r w_ h_), (10, .cells (TPoint.c (Z0U p r w_)) 31), (11, .cells [.i w_, .i h_] 161), (16, .cells (TPoint.c (Z14 p r w_ h_)) 31), (65, Z17 p r w_ h_)]⟩) lr (.cons ⟨rfl, .refl _⟩ (.cons ⟨rfl, .cells _ (.cons (.refl _) (.cons (.own _ _ au2) (.cons (.refl _) .nil)))⟩ (.cons ⟨rfl, .refl _⟩ (.cons ⟨rfl, .refl _⟩ (.cons ⟨rfl, .refl _⟩ (.cons ⟨rfl, bke_told 33 (told_app (told_rfl 7 TEdge.c [Z0V p r w_, TEdge.mk 2 (Z0Q p r w_) (Z0U p r w_) (Z0S p r w_)]) (told_lit (c := TEdge.c) (xs := ([Z15 p r w_ h_, TEdge.mk 2 (Z10 p r w_ h_) (Z14 p r w_ h_) (Z12 p r w_ h_)] : List TEdge)) rfl kr))⟩ .nil))))))) (Cv.refl _)) ?_
 refine aw_region eqok [] [] [] [1, 8, 9, 10, 11, 12] [8, 9, 10, 11, 65] [] ⟨[(1, tI r), (8, tP 8 0), (9, tP 9 0), (10, tP 10 0), (11, tP 11 0), (12, tI 1)], [(8, Z0N), (9, Z16 p r w_ h_), (10, .cells (TPoint.c (Z14 p r w_ h_)) 31), (11, .cells [.i w_, .i h_] 161), (65, Z17 p r w_ h_)]⟩ .nil kr .nil <| abl_n <| ath_n ?_
 refine aw_region eqok [] [] [] [1, 8, 9, 10, 11, 12] [8, 9, 10, 11, 65] [] ⟨[(1, tI r), (8, tP 8 0), (9, tP 9 0), (10, tP 10 0), (11, tP 11 0), (12, tI 2)], [(8, Z0N), (9, Z16 p r w_ h_), (10, .cells (TPoint.c (Z14 p r w_ h_)) 31), (11, .cells [.i w_, .i h_] 161), (65, Z17 p r w_ h_)]⟩ .nil kr .nil <| ath_n ?_
 refine aw_round ?_
 refine aw_cv (Cv.trans (cv_ren (⟨[(1, tI r), (8, tP 8 0), (9, tP 9 0), (10, tP 10 0), (11, tP 11 0), (12, tI 2)], [(8, Z0N), (9, Z18 p r w_ h_), (10, .cells (TPoint.c (Z14 p r w_ h_)) 31), (11, .cells [.i w_, .i h_] 161), (100001, Z17 p r w_ h_)]⟩) 65 100001 (K := []) (fun k x h => by cases h) rfl rfl kr kr) (Cv.refl _)) <| aw_seq <| aw_seq ?_
 refine aw_region eqok [] [] [] [1, 8, 9, 10, 11, 12, 29] [8, 9, 10, 11, 100001] [] ⟨[(1, tI r), (8, tP 8 0), (9, tP 9 0), (10, tP 10 0), (11, tP 11 0), (12, tI 2), (29, tB true)], [(8, Z0N), (9, Z18 p r w_ h_), (10, .cells (TPoint.c (Z14 p r w_ h_)) 31), (11, .cells [.i w_, .i h_] 161), (100001, Z17 p r w_ h_)]⟩ .nil kr .nil <| ath_n ?_
 refine aw_cond_t kr <| aw_skip ?_
 refine ath_n <| aw_seq ?_
 refine aw_block <| aw_seq ?_
 refine aw_region eqok [] [] [] [1, 8, 9, 10, 11, 12, 13] [8, 9, 10, 11, 13, 100001] [] ⟨[(1, tI r), (8, tP 8 0), (9, tP 9 0), (10, tP 10 0), (11, tP 11 0), (12, tI 2), (13, tP 13 0)], [(8, Z0N), (9, Z18 p r w_ h_), (10, .cells (TPoint.c (Z14 p r w_ h_)) 31), (11, .cells [.i w_, .i h_] 161), (13, .cells [.i 0, .i 0, .i 2, .b false] 84), (100001, Z17 p r w_ h_)]⟩ .nil kr .nil <| ath_n <| aw_seq ?_
 refine aw_draw mixed eqok [] [] [(41, cref05Apply (TMotion.mk (TPoint.mk 0 0) 2 false) (TPoint.mk w_ 0)), (42, cref05Add (Z14 p r w_ h_) (Z19 w_))] [1, 8, 9, 10, 11, 12, 13, 14] [8, 9, 10, 11, 13, 14, 100001] [(2 : Int) ≠ 0, 0 <= (0 : Int) /\ (0 : Int) < (2 : Int), Same (cref05Apply (TMotion.mk (TPoint.mk 0 0) 2 false) (TPoint.mk w_ 0)).2.1, Same (cref05Add (Z14 p r w_ h_) (Z19 w_)).2.1] ⟨[(1, tI r), (8, tP 8 0), (9, tP 9 0), (10, tP 10 0), (11, tP 11 0), (12, tI 2), (13, tP 13 0), (14, tP 14 0)], [(8, Z0N), (9, Z18 p r w_ h_), (10, .cells (TPoint.c (Z14 p r w_ h_)) 31), (11, .cells [.i w_, .i h_] 161), (13, .cells [.i 0, .i 0, .i 2, .b false] 84), (14, .cells (TPoint.c (Z1a p r w_ h_)) 31), (100001, Z17 p r w_ h_)]⟩ (.cons (okref05Apply (TMotion.mk (TPoint.mk 0 0) 2 false) (TPoint.mk w_ 0)) (.cons (okref05Add (Z14 p r w_ h_) (Z19 w_)) .nil)) kr kr (.cons au13 (.cons (by decide) (.cons rfl (.cons rfl .nil)))) <| ath_n <| aw_seq ?_
 refine aw_draw mixed eqok [] [] [(47, cref05Apply (TMotion.mk (TPoint.mk 0 0) 2 false) (TPoint.mk 0 r)), (48, cref05Add (Z1a p r w_ h_) (Z1b r))] [1, 8, 9, 10, 11, 12, 13, 14, 15] [8, 9, 10, 11, 13, 14, 15, 100001] [Same (cref05Apply (TMotion.mk (TPoint.mk 0 0) 2 false) (TPoint.mk 0 r)).2.1, Same (cref05Add (Z1a p r w_ h_) (Z1b r)).2.1] ⟨[(1, tI r), (8, tP 8 0), (9, tP 9 0), (10, tP 10 0), (11, tP 11 0), (12, tI 2), (13, tP 13 0), (14, tP 14 0), (15, tP 15 0)], [(8, Z0N), (9, Z18 p r w_ h_), (10, .cells (TPoint.c (Z14 p r w_ h_)) 31), (11, .cells [.i w_, .i h_] 161), (13, .cells [.i 0, .i 0, .i 2, .b false] 84), (14, .cells (TPoint.c (Z1a p r w_ h_)) 31), (15, .cells (TPoint.c (Z1c p r w_ h_)) 31), (100001, Z17 p r w_ h_)]⟩ (.cons (okref05Apply (TMotion.mk (TPoint.mk 0 0) 2 false) (TPoint.mk 0 r)) (.cons (okref05Add (Z1a p r w_ h_) (Z1b r)) .nil)) kr kr (.cons rfl (.cons rfl .nil)) <| ath_n <| aw_seq ?_
 refine aw_draw mixed eqok [] [] [(53, cref05Apply (TMotion.mk (TPoint.mk 0 0) 2 false) (TPoint.mk r 0)), (54, cref05Add (Z1c p r w_ h_) (Z1d r))] [1, 8, 9, 10, 11, 12, 14, 15, 16] [8, 9, 10, 11, 14, 15, 16, 100001] [Same (cref05Apply (TMotion.mk (TPoint.mk 0 0) 2 false) (TPoint.mk r 0)).2.1, Same (cref05Add (Z1c p r w_ h_) (Z1d r)).2.1] ⟨[(1, tI r), (8, tP 8 0), (9, tP 9 0), (10, tP 10 0), (11, tP 11 0), (12, tI 2), (14, tP 14 0), (15, tP 15 0), (16, tP 16 0)], [(8, Z0N), (9, Z18 p r w_ h_), (10, .cells (TPoint.c (Z14 p r w_ h_)) 31), (11, .cells [.i w_, .i h_] 161), (14, .cells (TPoint.c (Z1a p r w_ h_)) 31), (15, .cells (TPoint.c (Z1c p r w_ h_)) 31), (16, .cells (TPoint.c (Z1e p r w_ h_)) 31), (100001, Z17 p r w_ h_)]⟩ (.cons (okref05Apply (TMotion.mk (TPoint.mk 0 0) 2 false) (TPoint.mk r 0)) (.cons (okref05Add (Z1c p r w_ h_) (Z1d r)) .nil)) kr kr (.cons rfl (.cons rfl .nil)) <| ath_n <| aw_seq ?_
 refine aw_draw mixed eqok [] [] [(59, cref10line (Z14 p r w_ h_) (Z1a p r w_ h_))] [1, 8, 9, 10, 11, 12, 16] [8, 9, 10, 11, 16, 65] [Same (cref10line (Z14 p r w_ h_) (Z1a p r w_ h_)).2.1, ([Z0V p r w_, TEdge.mk 2 (Z0Q p r w_) (Z0U p r w_) (Z0S p r w_)] ++ [Z15 p r w_ h_, TEdge.mk 2 (Z10 p r w_ h_) (Z14 p r w_ h_) (Z12 p r w_ h_)]).length = ([Z0V p r w_, TEdge.mk 2 (Z0Q p r w_) (Z0U p r w_) (Z0S p r w_)] ++ [Z15 p r w_ h_, TEdge.mk 2 (Z10 p r w_ h_) (Z14 p r w_ h_) (Z12 p r w_ h_)]).length, (([Z0V p r w_, TEdge.mk 2 (Z0Q p r w_) (Z0U p r w_) (Z0S p r w_)] ++ [Z15 p r w_ h_, TEdge.mk 2 (Z10 p r w_ h_) (Z14 p r w_ h_) (Z12 p r w_ h_)]).length) + 2 <= maxLen, ((([Z0V p r w_, TEdge.mk 2 (Z0Q p r w_) (Z0U p r w_) (Z0S p r w_)] ++ [Z15 p r w_ h_, TEdge.mk 2 (Z10 p r w_ h_) (Z14 p r w_ h_) (Z12 p r w_ h_)]).length) + 2) * 56 <= 140737488355328] ⟨[(1, tI r), (8, tP 8 0), (9, tP 9 0), (10, tP 10 0), (11, tP 11 0), (12, tI 2), (16, tP 16 0)], [(8, Z0N), (9, .cells [.i 2, .own 65 7 ((([Z0V p r w_, TEdge.mk 2 (Z0Q p r w_) (Z0U p r w_) (Z0S p r w_)] ++ [Z15 p r w_ h_, TEdge.mk 2 (Z10 p r w_ h_) (Z14 p r w_ h_) (Z12 p r w_ h_)]).length) + 2), .i 0] 36), (10, .cells (TPoint.c (Z14 p r w_ h_)) 31), (11, .cells [.i w_, .i h_] 161), (16, .cells (TPoint.c (Z1e p r w_ h_)) 31), (65, .row 7 ((([Z0V p r w_, TEdge.mk 2 (Z0Q p r w_) (Z0U p r w_) (Z0S p r w_)] ++ [Z15 p r w_ h_, TEdge.mk 2 (Z10 p r w_ h_) (Z14 p r w_ h_) (Z12 p r w_ h_)]).length) + 2) (fun i j => if i < (([Z0V p r w_, TEdge.mk 2 (Z0Q p r w_) (Z0U p r w_) (Z0S p r w_)] ++ [Z15 p r w_ h_, TEdge.mk 2 (Z10 p r w_ h_) (Z14 p r w_ h_) (Z12 p r w_ h_)]).length) then (rowF TEdge.c ([Z0V p r w_, TEdge.mk 2 (Z0Q p r w_) (Z0U p r w_) (Z0S p r w_)] ++ [Z15 p r w_ h_, TEdge.mk 2 (Z10 p r w_ h_) (Z14 p r w_ h_) (Z12 p r w_ h_)])) i j else (colsC 7 2 [.i ((Z1f p r w_ h_).Kind), .i (((Z1f p r w_ h_).A).X), .i (((Z1f p r w_ h_).A).Y), .i (((Z1f p r w_ h_).B).X), .i (((Z1f p r w_ h_).B).Y), .i (((Z1f p r w_ h_).C).X), .i (((Z1f p r w_ h_).C).Y), .i 2, .i ((Z1a p r w_ h_).X), .i ((Z1a p r w_ h_).Y), .i ((Z1e p r w_ h_).X), .i ((Z1e p r w_ h_).Y), .i ((Z1c p r w_ h_).X), .i ((Z1c p r w_ h_).Y)]) (i - (([Z0V p r w_, TEdge.mk 2 (Z0Q p r w_) (Z0U p r w_) (Z0S p r w_)] ++ [Z15 p r w_ h_, TEdge.mk 2 (Z10 p r w_ h_) (Z14 p r w_ h_) (Z12 p r w_ h_)]).length)) j) 33)]⟩ (.cons (okref10line (Z14 p r w_ h_) (Z1a p r w_ h_)) .nil) kr kr (.cons rfl (.cons rfl (.cons au1 (.cons au1 .nil)))) <| ath_n ?_
 refine aw_cv (Cv.trans (cv_ce (⟨[(1, tI r), (8, tP 8 0), (9, tP 9 0), (10, tP 10 0), (11, tP 11 0), (12, tI 2), (16, tP 16 0)], [(8, Z0N), (9, Z1g p r w_ h_), (10, .cells (TPoint.c (Z14 p r w_ h_)) 31), (11, .cells [.i w_, .i h_] 161), (16, .cells (TPoint.c (Z1e p r w_ h_)) 31), (65, Z1h p r w_ h_)]⟩) lr (.cons ⟨rfl, .refl _⟩ (.cons ⟨rfl, .cells _ (.cons (.refl _) (.cons (.own _ _ au2) (.cons (.refl _) .nil)))⟩ (.cons ⟨rfl, .refl _⟩ (.cons ⟨rfl, .refl _⟩ (.cons ⟨rfl, .refl _⟩ (.cons ⟨rfl, bke_told 33 (told_app (told_rfl 7 TEdge.c ([Z0V p r w_, TEdge.mk 2 (Z0Q p r w_) (Z0U p r w_) (Z0S p r w_)] ++ [Z15 p r w_ h_, TEdge.mk 2 (Z10 p r w_ h_) (Z14 p r w_ h_) (Z12 p r w_ h_)])) (told_lit (c := TEdge.c) (xs := ([Z1f p r w_ h_, TEdge.mk 2 (Z1a p r w_ h_) (Z1e p r w_ h_) (Z1c p r w_ h_)] : List TEdge)) rfl kr))⟩ .nil))))))) (Cv.refl _)) ?_
 refine aw_region eqok [] [] [] [1, 8, 9, 10, 11, 12] [8, 9, 10, 11, 65] [] ⟨[(1, tI r), (8, tP 8 0), (9, tP 9 0), (10, tP 10 0), (11, tP 11 0), (12, tI 2)], [(8, Z0N), (9, Z1g p r w_ h_), (10, .cells (TPoint.c (Z1e p r w_ h_)) 31), (11, .cells [.i w_, .i h_] 161), (65, Z1h p r w_ h_)]⟩ .nil kr .nil <| abl_n <| ath_n ?_
 refine aw_region eqok [] [] [] [1, 8, 9, 10, 11, 12] [8, 9, 10, 11, 65] [] ⟨[(1, tI r), (8, tP 8 0), (9, tP 9 0), (10, tP 10 0), (11, tP 11 0), (12, tI 3)], [(8, Z0N), (9, Z1g p r w_ h_), (10, .cells (TPoint.c (Z1e p r w_ h_)) 31), (11, .cells [.i w_, .i h_] 161), (65, Z1h p r w_ h_)]⟩ .nil kr .nil <| ath_n ?_
 refine aw_round ?_
 refine aw_cv (Cv.trans (cv_ren (⟨[(1, tI r), (8, tP 8 0), (9, tP 9 0), (10, tP 10 0), (11, tP 11 0), (12, tI 3)], [(8, Z0N), (9, Z1i p r w_ h_), (10, .cells (TPoint.c (Z1e p r w_ h_)) 31), (11, .cells [.i w_, .i h_] 161), (100002, Z1h p r w_ h_)]⟩) 65 100002 (K := []) (fun k x h => by cases h) rfl rfl kr kr) (Cv.refl _)) <| aw_seq <| aw_seq ?_
 refine aw_region eqok [] [] [] [1, 8, 9, 10, 11, 12, 29] [8, 9, 10, 11, 100002] [] ⟨[(1, tI r), (8, tP 8 0), (9, tP 9 0), (10, tP 10 0), (11, tP 11 0), (12, tI 3), (29, tB true)], [(8, Z0N), (9, Z1i p r w_ h_), (10, .cells (TPoint.c (Z1e p r w_ h_)) 31), (11, .cells [.i w_, .i h_] 161), (100002, Z1h p r w_ h_)]⟩ .nil kr .nil <| ath_n ?_
 refine aw_cond_t kr <| aw_skip ?_
 refine ath_n <| aw_seq ?_
 refine aw_block <| aw_seq ?_
 refine aw_region eqok [] [] [] [1, 8, 9, 10, 11, 12, 13] [8, 9, 10, 11, 13, 100002] [] ⟨[(1, tI r), (8, tP 8 0), (9, tP 9 0), (10, tP 10 0), (11, tP 11 0), (12, tI 3), (13, tP 13 0)], [(8, Z0N), (9, Z1i p r w_ h_), (10, .cells (TPoint.c (Z1e p r w_ h_)) 31), (11, .cells [.i w_, .i h_] 161), (13, .cells [.i 0, .i 0, .i 3, .b false] 84), (100002, Z1h p r w_ h_)]⟩ .nil kr .nil <| ath_n <| aw_seq ?_
 refine aw_draw mixed eqok [] [] [(41, cref05Apply (TMotion.mk (TPoint.mk 0 0) 3 false) (TPoint.mk h_ 0)), (42, cref05Add (Z1e p r w_ h_) (Z1j h_))] [1, 8, 9, 10, 11, 12, 13, 14] [8, 9, 10, 11, 13, 14, 100002] [(2 : Int) ≠ 0, 0 <= (1 : Int) /\ (1 : Int) < (2 : Int), Same (cref05Apply (TMotion.mk (TPoint.mk 0 0) 3 false) (TPoint.mk h_ 0)).2.1, Same (cref05Add (Z1e p r w_ h_) (Z1j h_)).2.1] ⟨[(1, tI r), (8, tP 8 0), (9, tP 9 0), (10, tP 10 0), (11, tP 11 0), (12, tI 3), (13, tP 13 0), (14, tP 14 0)], [(8, Z0N), (9, Z1i p r w_ h_), (10, .cells (TPoint.c (Z1e p r w_ h_)) 31), (11, .cells [.i w_, .i h_] 161), (13, .cells [.i 0, .i 0, .i 3, .b false] 84), (14, .cells (TPoint.c (Z1k p r w_ h_)) 31), (100002, Z1h p r w_ h_)]⟩ (.cons (okref05Apply (TMotion.mk (TPoint.mk 0 0) 3 false) (TPoint.mk h_ 0)) (.cons (okref05Add (Z1e p r w_ h_) (Z1j h_)) .nil)) kr kr (.cons au13 (.cons (by decide) (.cons rfl (.cons rfl .nil)))) <| ath_n <| aw_seq ?_
 refine aw_draw mixed eqok [] [] [(47, cref05Apply (TMotion.mk (TPoint.mk 0 0) 3 false) (TPoint.mk 0 r)), (48, cref05Add (Z1k p r w_ h_) (Z1l r))] [1, 8, 9, 10, 11, 12, 13, 14, 15] [8, 9, 10, 11, 13, 14, 15, 100002] [Same (cref05Apply (TMotion.mk (TPoint.mk 0 0) 3 false) (TPoint.mk 0 r)).2.1, Same (cref05Add (Z1k p r w_ h_) (Z1l r)).2.1] ⟨[(1, tI r), (8, tP 8 0), (9, tP 9 0), (10, tP 10 0), (11, tP 11 0), (12, tI 3), (13, tP 13 0), (14, tP 14 0), (15, tP 15 0)], [(8, Z0N), (9, Z1i p r w_ h_), (10, .cells (TPoint.c (Z1e p r w_ h_)) 31), (11, .cells [.i w_, .i h_] 161), (13, .cells [.i 0, .i 0, .i 3, .b false] 84), (14, .cells (TPoint.c (Z1k p r w_ h_)) 31), (15, .cells (TPoint.c (Z1m p r w_ h_)) 31), (100002, Z1h p r w_ h_)]⟩ (.cons (okref05Apply (TMotion.mk (TPoint.mk 0 0) 3 false) (TPoint.mk 0 r)) (.cons (okref05Add (Z1k p r w_ h_) (Z1l r)) .nil)) kr kr (.cons rfl (.cons rfl .nil)) <| ath_n <| aw_seq ?_
 refine aw_draw mixed eqok [] [] [(53, cref05Apply (TMotion.mk (TPoint.mk 0 0) 3 false) (TPoint.mk r 0)), (54, cref05Add (Z1m p r w_ h_) (Z1n r))] [1, 8, 9, 10, 11, 12, 14, 15, 16] [8, 9, 10, 11, 14, 15, 16, 100002] [Same (cref05Apply (TMotion.mk (TPoint.mk 0 0) 3 false) (TPoint.mk r 0)).2.1, Same (cref05Add (Z1m p r w_ h_) (Z1n r)).2.1] ⟨[(1, tI r), (8, tP 8 0), (9, tP 9 0), (10, tP 10 0), (11, tP 11 0), (12, tI 3), (14, tP 14 0), (15, tP 15 0), (16, tP 16 0)], [(8, Z0N), (9, Z1i p r w_ h_), (10, .cells (TPoint.c (Z1e p r w_ h_)) 31), (11, .cells [.i w_, .i h_] 161), (14, .cells (TPoint.c (Z1k p r w_ h_)) 31), (15, .cells (TPoint.c (Z1m p r w_ h_)) 31), (16, .cells (TPoint.c (Z1o p r w_ h_)) 31), (100002, Z1h p r w_ h_)]⟩ (.cons (okref05Apply (TMotion.mk (TPoint.mk 0 0) 3 false) (TPoint.mk r 0)) (.cons (okref05Add (Z1m p r w_ h_) (Z1n r)) .nil)) kr kr (.cons rfl (.cons rfl .nil)) <| ath_n <| aw_seq ?_
 refine aw_draw mixed eqok [] [] [(59, cref10line (Z1e p r w_ h_) (Z1k p r w_ h_))] [1, 8, 9, 10, 11, 12, 16] [8, 9, 10, 11, 16, 65] [Same (cref10line (Z1e p r w_ h_) (Z1k p r w_ h_)).2.1, (([Z0V p r w_, TEdge.mk 2 (Z0Q p r w_) (Z0U p r w_) (Z0S p r w_)] ++ [Z15 p r w_ h_, TEdge.mk 2 (Z10 p r w_ h_) (Z14 p r w_ h_) (Z12 p r w_ h_)]) ++ [Z1f p r w_ h_, TEdge.mk 2 (Z1a p r w_ h_) (Z1e p r w_ h_) (Z1c p r w_ h_)]).length = (([Z0V p r w_, TEdge.mk 2 (Z0Q p r w_) (Z0U p r w_) (Z0S p r w_)] ++ [Z15 p r w_ h_, TEdge.mk 2 (Z10 p r w_ h_) (Z14 p r w_ h_) (Z12 p r w_ h_)]) ++ [Z1f p r w_ h_, TEdge.mk 2 (Z1a p r w_ h_) (Z1e p r w_ h_) (Z1c p r w_ h_)]).length, ((([Z0V p r w_, TEdge.mk 2 (Z0Q p r w_) (Z0U p r w_) (Z0S p r w_)] ++ [Z15 p r w_ h_, TEdge.mk 2 (Z10 p r w_ h_) (Z14 p r w_ h_) (Z12 p r w_ h_)]) ++ [Z1f p r w_ h_, TEdge.mk 2 (Z1a p r w_ h_) (Z1e p r w_ h_) (Z1c p r w_ h_)]).length) + 2 <= maxLen, (((([Z0V p r w_, TEdge.mk 2 (Z0Q p r w_) (Z0U p r w_) (Z0S p r w_)] ++ [Z15 p r w_ h_, TEdge.mk 2 (Z10 p r w_ h_) (Z14 p r w_ h_) (Z12 p r w_ h_)]) ++ [Z1f p r w_ h_, TEdge.mk 2 (Z1a p r w_ h_) (Z1e p r w_ h_) (Z1c p r w_ h_)]).length) + 2) * 56 <= 140737488355328] ⟨[(1, tI r), (8, tP 8 0), (9, tP 9 0), (10, tP 10 0), (11, tP 11 0), (12, tI 3), (16, tP 16 0)], [(8, Z0N), (9, .cells [.i 2, .own 65 7 (((([Z0V p r w_, TEdge.mk 2 (Z0Q p r w_) (Z0U p r w_) (Z0S p r w_)] ++ [Z15 p r w_ h_, TEdge.mk 2 (Z10 p r w_ h_) (Z14 p r w_ h_) (Z12 p r w_ h_)]) ++ [Z1f p r w_ h_, TEdge.mk 2 (Z1a p r w_ h_) (Z1e p r w_ h_) (Z1c p r w_ h_)]).length) + 2), .i 0] 36), (10, .cells (TPoint.c (Z1e p r w_ h_)) 31), (11, .cells [.i w_, .i h_] 161), (16, .cells (TPoint.c (Z1o p r w_ h_)) 31), (65, .row 7 (((([Z0V p r w_, TEdge.mk 2 (Z0Q p r w_) (Z0U p r w_) (Z0S p r w_)] ++ [Z15 p r w_ h_, TEdge.mk 2 (Z10 p r w_ h_) (Z14 p r w_ h_) (Z12 p r w_ h_)]) ++ [Z1f p r w_ h_, TEdge.mk 2 (Z1a p r w_ h_) (Z1e p r w_ h_) (Z1c p r w_ h_)]).length) + 2) (fun i j => if i < ((([Z0V p r w_, TEdge.mk 2 (Z0Q p r w_) (Z0U p r w_) (Z0S p r w_)] ++ [Z15 p r w_ h_, TEdge.mk 2 (Z10 p r w_ h_) (Z14 p r w_ h_) (Z12 p r w_ h_)]) ++ [Z1f p r w_ h_, TEdge.mk 2 (Z1a p r w_ h_) (Z1e p r w_ h_) (Z1c p r w_ h_)]).length) then (rowF TEdge.c (([Z0V p r w_, TEdge.mk 2 (Z0Q p r w_) (Z0U p r w_) (Z0S p r w_)] ++ [Z15 p r w_ h_, TEdge.mk 2 (Z10 p r w_ h_) (Z14 p r w_ h_) (Z12 p r w_ h_)]) ++ [Z1f p r w_ h_, TEdge.mk 2 (Z1a p r w_ h_) (Z1e p r w_ h_) (Z1c p r w_ h_)])) i j else (colsC 7 2 [.i ((Z1p p r w_ h_).Kind), .i (((Z1p p r w_ h_).A).X), .i (((Z1p p r w_ h_).A).Y), .i (((Z1p p r w_ h_).B).X), .i (((Z1p p r w_ h_).B).Y), .i (((Z1p p r w_ h_).C).X), .i (((Z1p p r w_ h_).C).Y), .i 2, .i ((Z1k p r w_ h_).X), .i ((Z1k p r w_ h_).Y), .i ((Z1o p r w_ h_).X), .i ((Z1o p r w_ h_).Y), .i ((Z1m p r w_ h_).X), .i ((Z1m p r w_ h_).Y)]) (i - ((([Z0V p r w_, TEdge.mk 2 (Z0Q p r w_) (Z0U p r w_) (Z0S p r w_)] ++ [Z15 p r w_ h_, TEdge.mk 2 (Z10 p r w_ h_) (Z14 p r w_ h_) (Z12 p r w_ h_)]) ++ [Z1f p r w_ h_, TEdge.mk 2 (Z1a p r w_ h_) (Z1e p r w_ h_) (Z1c p r w_ h_)]).length)) j) 33)]⟩ (.cons (okref10line (Z1e p r w_ h_) (Z1k p r w_ h_)) .nil) kr kr (.cons rfl (.cons rfl (.cons au1 (.cons au1 .nil)))) <| ath_n ?_
 refine aw_cv (Cv.trans (cv_ce (⟨[(1, tI r), (8, tP 8 0), (9, tP 9 0), (10, tP 10 0), (11, tP 11 0), (12, tI 3), (16, tP 16 0)], [(8, Z0N), (9, Z1q p r w_ h_), (10, .cells (TPoint.c (Z1e p r w_ h_)) 31), (11, .cells [.i w_, .i h_] 161), (16, .cells (TPoint.c (Z1o p r w_ h_)) 31), (65, Z1r p r w_ h_)]⟩) lr (.cons ⟨rfl, .refl _⟩ (.cons ⟨rfl, .cells _ (.cons (.refl _) (.cons (.own _ _ au2) (.cons (.refl _) .nil)))⟩ (.cons ⟨rfl, .refl _⟩ (.cons ⟨rfl, .refl _⟩ (.cons ⟨rfl, .refl _⟩ (.cons ⟨rfl, bke_told 33 (told_app (told_rfl 7 TEdge.c (([Z0V p r w_, TEdge.mk 2 (Z0Q p r w_) (Z0U p r w_) (Z0S p r w_)] ++ [Z15 p r w_ h_, TEdge.mk 2 (Z10 p r w_ h_) (Z14 p r w_ h_) (Z12 p r w_ h_)]) ++ [Z1f p r w_ h_, TEdge.mk 2 (Z1a p r w_ h_) (Z1e p r w_ h_) (Z1c p r w_ h_)])) (told_lit (c := TEdge.c) (xs := ([Z1p p r w_ h_, TEdge.mk 2 (Z1k p r w_ h_) (Z1o p r w_ h_) (Z1m p r w_ h_)] : List TEdge)) rfl kr))⟩ .nil))))))) (Cv.refl _)) ?_
 refine aw_region eqok [] [] [] [1, 8, 9, 10, 11, 12] [8, 9, 10, 11, 65] [] ⟨[(1, tI r), (8, tP 8 0), (9, tP 9 0), (10, tP 10 0), (11, tP 11 0), (12, tI 3)], [(8, Z0N), (9, Z1q p r w_ h_), (10, .cells (TPoint.c (Z1o p r w_ h_)) 31), (11, .cells [.i w_, .i h_] 161), (65, Z1r p r w_ h_)]⟩ .nil kr .nil <| abl_n <| ath_n ?_
 refine aw_region eqok [] [] [] [1, 8, 9, 10, 11, 12] [8, 9, 10, 11, 65] [] ⟨[(1, tI r), (8, tP 8 0), (9, tP 9 0), (10, tP 10 0), (11, tP 11 0), (12, tI 4)], [(8, Z0N), (9, Z1q p r w_ h_), (10, .cells (TPoint.c (Z1o p r w_ h_)) 31), (11, .cells [.i w_, .i h_] 161), (65, Z1r p r w_ h_)]⟩ .nil kr .nil <| ath_n ?_
 refine aw_round ?_
 refine aw_cv (Cv.trans (cv_ren (⟨[(1, tI r), (8, tP 8 0), (9, tP 9 0), (10, tP 10 0), (11, tP 11 0), (12, tI 4)], [(8, Z0N), (9, Z1s p r w_ h_), (10, .cells (TPoint.c (Z1o p r w_ h_)) 31), (11, .cells [.i w_, .i h_] 161), (100003, Z1r p r w_ h_)]⟩) 65 100003 (K := []) (fun k x h => by cases h) rfl rfl kr kr) (Cv.refl _)) <| aw_seq <| aw_seq ?_
 refine aw_region eqok [] [] [] [1, 8, 9, 10, 11, 12, 29] [8, 9, 10, 11, 100003] [] ⟨[(1, tI r), (8, tP 8 0), (9, tP 9 0), (10, tP 10 0), (11, tP 11 0), (12, tI 4), (29, tB false)], [(8, Z0N), (9, Z1s p r w_ h_), (10, .cells (TPoint.c (Z1o p r w_ h_)) 31), (11, .cells [.i w_, .i h_] 161), (100003, Z1r p r w_ h_)]⟩ .nil kr .nil <| ath_n ?_
 refine aw_cond_f kr <| aw_exit ?_
 refine ath_e <| ath_e ?_
 refine abl_hit <| ath_n <| aw_seq ?_
 refine aw_region eqok [] [] [] [8] [8, 100003] [] ⟨[(8, tP 8 0)], [(8, Z1s p r w_ h_), (100003, Z1r p r w_ h_)]⟩ .nil kr .nil <| ath_n <| aw_ret ?_
 exact ⟨_, Cv.trans (cv_fz (⟨[(8, tP 8 0)], [(8, .cells [.i 2, lst 7 TEdge.c ((([Z0V p r w_, TEdge.mk 2 (Z0Q p r w_) (Z0U p r w_) (Z0S p r w_)] ++ [Z15 p r w_ h_, TEdge.mk 2 (Z10 p r w_ h_) (Z14 p r w_ h_) (Z12 p r w_ h_)]) ++ [Z1f p r w_ h_, TEdge.mk 2 (Z1a p r w_ h_) (Z1e p r w_ h_) (Z1c p r w_ h_)]) ++ [Z1p p r w_ h_, TEdge.mk 2 (Z1k p r w_ h_) (Z1o p r w_ h_) (Z1m p r w_ h_)]), .i 0] 36)]⟩) 100003 7 (((([Z0V p r w_, TEdge.mk 2 (Z0Q p r w_) (Z0U p r w_) (Z0S p r w_)] ++ [Z15 p r w_ h_, TEdge.mk 2 (Z10 p r w_ h_) (Z14 p r w_ h_) (Z12 p r w_ h_)]) ++ [Z1f p r w_ h_, TEdge.mk 2 (Z1a p r w_ h_) (Z1e p r w_ h_) (Z1c p r w_ h_)]) ++ [Z1p p r w_ h_, TEdge.mk 2 (Z1k p r w_ h_) (Z1o p r w_ h_) (Z1m p r w_ h_)]).length) (rowF TEdge.c ((([Z0V p r w_, TEdge.mk 2 (Z0Q p r w_) (Z0U p r w_) (Z0S p r w_)] ++ [Z15 p r w_ h_, TEdge.mk 2 (Z10 p r w_ h_) (Z14 p r w_ h_) (Z12 p r w_ h_)]) ++ [Z1f p r w_ h_, TEdge.mk 2 (Z1a p r w_ h_) (Z1e p r w_ h_) (Z1c p r w_ h_)]) ++ [Z1p p r w_ h_, TEdge.mk 2 (Z1k p r w_ h_) (Z1o p r w_ h_) (Z1m p r w_ h_)])) 33 (K := []) (fun k x h => by cases h) kr kr (.cons ⟨rfl, rfl⟩ .nil) kr) (Cv.refl _), .inl rfl, .av (.agg [.i 2, lst 7 TEdge.c ((([Z0V p r w_, TEdge.mk 2 (Z0Q p r w_) (Z0U p r w_) (Z0S p r w_)] ++ [Z15 p r w_ h_, TEdge.mk 2 (Z10 p r w_ h_) (Z14 p r w_ h_) (Z12 p r w_ h_)]) ++ [Z1f p r w_ h_, TEdge.mk 2 (Z1a p r w_ h_) (Z1e p r w_ h_) (Z1c p r w_ h_)]) ++ [Z1p p r w_ h_, TEdge.mk 2 (Z1k p r w_ h_) (Z1o p r w_ h_) (Z1m p r w_ h_)]), .i 0]), by kernel_rfl, tve_eq (by rfl)⟩
theorem okround10 (p : TPoint) (r : Int) (w_ : Int) (h_ : Int) : CallOk Try.prog (cround10 p r w_ h_).1 (cround10 p r w_ h_).2.1 (cround10 p r w_ h_).2.2 := callOk_pure (fun _ _ => kr) fun _ => pround10 p r w_ h_
def Z1t : Blk := .cells [.i 0, vN, .i 0] 36
def Z1u : Blk := .row 7 ((([] : List TEdge)).length) (rowF TEdge.c (([] : List TEdge))) 33
def Z1v : Blk := .cells [.i 2, .own 100000 7 ((([] : List TEdge)).length), .i 0] 36
def Z1w (l : (List TPoint)) (k : Int) : TPoint := l.getD ((Int.tmod (W64 (k + 1)) ((l.length : Int))).toNat) default
def Z1x (s_1 : List TEdge) (l : (List TPoint)) (k : Int) : Blk := .cells [.i 2, .own 28 7 ((s_1 ++ [TEdge.mk 1 (l.getD k.toNat default) (Z1w l k) (TPoint.mk 0 0)]).length), .i 0] 36
def Z1y (s_1 : List TEdge) (l : (List TPoint)) (k : Int) : Blk := .row 7 ((s_1 ++ [TEdge.mk 1 (l.getD k.toNat default) (Z1w l k) (TPoint.mk 0 0)]).length) (rowF TEdge.c (s_1 ++ [TEdge.mk 1 (l.getD k.toNat default) (Z1w l k) (TPoint.mk 0 0)])) 33
def FLoop_l0 (l : (List TPoint)) : Nat -> List TEdge -> Int -> TShape
 | 0, _, _ => default
 | n0 + 1, s_1, k => bif decide ((k : Int) < ((l.length : Int))) then ((FLoop_l0 l n0) (s_1 ++ [TEdge.mk 1 (l.getD k.toNat default) (Z1w l k) (TPoint.mk 0 0)]) (k + 1)) else (TShape.mk 2 s_1 0)
def FLoop (l : (List TPoint)) : TShape := FLoop_l0 l (((((l.length : Int))) - 0).toNat + 1) (([] : List TEdge)) 0
def cLoop (l : (List TPoint)) : FuncId × List Av × Ef := (70, [.one (lst 2 TPoint.c l)], .val [] (.av (.agg (TShape.c (FLoop l)))))
theorem pLoop (l : (List TPoint)) (h0 : (l.length : Int) <= 1000000) : Pure Try.prog 70 (cLoop l).2.1 (.av (.agg (TShape.c (FLoop l)))) := by
 refine pure_of_awF Try.func70 rfl kr kr fun W0 M0 => ?_
 refine aw_seq ?_
 refine aw_region eqok [] [] [] [0, 2] [2] [] ⟨[(0, .av (.one (lst 2 TPoint.c l))), (2, tP 2 0)], [(2, Z1t)]⟩ .nil kr .nil <| ath_n <| aw_seq ?_
 refine aw_region eqok [] [] [] [0, 2, 3] [2, 3] [] ⟨[(0, .av (.one (lst 2 TPoint.c l))), (2, tP 2 0), (3, tP 3 0)], [(2, Z1t), (3, .cells [.i 2, vN, .i 0] 36)]⟩ .nil kr .nil <| ath_n ?_
 refine aw_seq <| aw_seq ?_
 refine aw_region eqok [] [] [] [0, 2, 3, 4] [2, 3] [] ⟨[(0, .av (.one (lst 2 TPoint.c l))), (2, tP 2 0), (3, tP 3 0), (4, tI 0)], [(2, Z1t), (3, .cells [.i 2, vN, .i 0] 36)]⟩ .nil kr .nil <| ath_n <| aw_block ?_
 refine aw_cv (Cv.trans (cv_ghost (⟨[(0, .av (.one (lst 2 TPoint.c l))), (2, tP 2 0), (3, tP 3 0), (4, tI 0)], [(100000, .row 7 0 (fun _ _ => default) 33), (2, Z1t), (3, .cells [.i 2, .own 100000 7 0, .i 0] 36)]⟩) 100000 7 (fun _ _ => default) 33 [] [(3, [1])] (K := []) (fun k x h => by cases h) rfl kr kr) (Cv.trans (cv_ce (⟨[(0, .av (.one (lst 2 TPoint.c l))), (2, tP 2 0), (3, tP 3 0), (4, tI 0)], [(100000, Z1u), (2, Z1t), (3, Z1v)]⟩) lr (.cons ⟨rfl, bke_told 33 (told_nil 7 (fun _ _ => default) TEdge.c)⟩ (.cons ⟨rfl, .refl _⟩ (.cons ⟨rfl, .cells _ (.cons (.refl _) (.cons (.own _ _ au2) (.cons (.refl _) .nil)))⟩ .nil)))) (Cv.trans (cv_keep [0, 2, 3, 4] [2, 3, 100000] (⟨[(0, .av (.one (lst 2 TPoint.c l))), (2, tP 2 0), (3, tP 3 0), (4, tI 0)], [(2, Z1t), (3, Z1v), (100000, Z1u)]⟩) kr) (Cv.refl _)))) ?_
 refine aw_loopC (ι := Nat × List TEdge × Int) (fun x => ⟨[(0, .av (.one (lst 2 TPoint.c l))), (2, tP 2 0), (3, tP 3 0), (4, tI x.2.2)], [(2, Z1t), (3, .cells [.i 2, .own 100000 7 x.2.1.length, .i 0] 36), (100000, .row 7 x.2.1.length (rowF TEdge.c x.2.1) 33)]⟩) (fun x => ((((l.length : Int))) - x.2.2).toNat < x.1 /\ (0 <= x.2.2 /\ (x.2.2 <= ((l.length : Int)) \/ x.2.2 = 0) /\ (x.2.1.length : Int) <= 0 + 1 * (x.2.2 - 0)) /\ FLoop_l0 l x.1 x.2.1 x.2.2 = FLoop l) (fun x => x.1) ?_ (((((l.length : Int))) - 0).toNat + 1, ([] : List TEdge), 0) ⟨Nat.lt_succ_self _, ⟨(by show 0 <= 0; first | trivial | omega | exact at0 | exact at1 | exact at2 | (simp; omega) | simp), (by show (0 <= ((l.length : Int)) \/ 0 = 0); first | trivial | omega | exact at0 | exact at1 | exact at2 | (simp; omega) | simp), (by show ((([] : List TEdge)).length : Int) <= 0 + 1 * (0 - 0); first | trivial | omega | exact at0 | exact at1 | exact at2 | (simp; omega) | simp)⟩, (by simp only [FLoop, cond_true, cond_false])⟩
 rintro ⟨n0, s_1, k⟩ ⟨hn, hinv, hF⟩
 have hm0 : ((((l.length : Int))) - k).toNat < n0 := hn; have hinv0 : 0 <= k /\ (k <= ((l.length : Int)) \/ k = 0) /\ (s_1.length : Int) <= 0 + 1 * (k - 0) := hinv; have hF0 : FLoop_l0 l n0 s_1 k = FLoop l := hF; clear hn hinv hF
 cases n0 with
 | zero => exact absurd hm0 (Nat.not_lt_zero _)
 | succ n0 =>
  refine aw_seq <| aw_seq ?_
  refine aw_region eqok [] [] [] [0, 2, 3, 4, 9] [2, 3, 100000] [] ⟨[(0, .av (.one (lst 2 TPoint.c l))), (2, tP 2 0), (3, tP 3 0), (4, tI k), (9, tB (decide ((k : Int) < ((l.length : Int)))))], [(2, Z1t), (3, .cells [.i 2, .own 100000 7 s_1.length, .i 0] 36), (100000, .row 7 s_1.length (rowF TEdge.c s_1) 33)]⟩ .nil kr .nil <| ath_n ?_
  refine aw_cond (decide ((k : Int) < ((l.length : Int)))) kr (fun h1 => ?_) (fun h1 => ?_)
  ·have g1 := of_decide_eq_true h1
   refine aw_skip <| ath_n ?_
   refine aw_seq <| aw_block ?_
   refine aw_draw mixed eqok [] [] [] [0, 2, 3, 4] [2, 3, 28] [0 <= (k : Int) /\ (k : Int) < ((l.length : Nat) : Int), ((l.length : Int) : Int) ≠ 0, 0 <= (Int.tmod (W64 (k + 1)) ((l.length : Int)) : Int) /\ (Int.tmod (W64 (k + 1)) ((l.length : Int)) : Int) < ((l.length : Nat) : Int), s_1.length = s_1.length, s_1.length + 1 <= maxLen, (s_1.length + 1) * 56 <= 140737488355328] ⟨[(0, .av (.one (lst 2 TPoint.c l))), (2, tP 2 0), (3, tP 3 0), (4, tI k)], [(2, Z1t), (3, .cells [.i 2, .own 28 7 (s_1.length + 1), .i 0] 36), (28, .row 7 (s_1.length + 1) (fun i j => if i < s_1.length then (rowF TEdge.c s_1) i j else (colsC 7 1 [.i 1, .i ((l.getD k.toNat default).X), .i ((l.getD k.toNat default).Y), .i ((Z1w l k).X), .i ((Z1w l k).Y), .i 0, .i 0]) (i - s_1.length) j) 33)]⟩ .nil kr kr (.cons au6 (.cons au13 (.cons au6 (.cons rfl (.cons au1 (.cons au1 .nil)))))) <| abl_n <| ath_n ?_
   refine aw_cv (Cv.trans (cv_ce (⟨[(0, .av (.one (lst 2 TPoint.c l))), (2, tP 2 0), (3, tP 3 0), (4, tI k)], [(2, Z1t), (3, Z1x s_1 l k), (28, Z1y s_1 l k)]⟩) lr (.cons ⟨rfl, .refl _⟩ (.cons ⟨rfl, .cells _ (.cons (.refl _) (.cons (.own _ _ au2) (.cons (.refl _) .nil)))⟩ (.cons ⟨rfl, bke_told 33 (told_app (told_rfl 7 TEdge.c s_1) (told_lit (c := TEdge.c) (xs := ([TEdge.mk 1 (l.getD k.toNat default) (Z1w l k) (TPoint.mk 0 0)] : List TEdge)) rfl kr))⟩ .nil)))) (Cv.refl _)) ?_
   refine aw_region eqok [] [] [] [0, 2, 3, 4] [2, 3, 28] [] ⟨[(0, .av (.one (lst 2 TPoint.c l))), (2, tP 2 0), (3, tP 3 0), (4, tI (W64 (k + 1)))], [(2, Z1t), (3, Z1x s_1 l k), (28, Z1y s_1 l k)]⟩ .nil kr .nil ?_
   (try rw [(show W64 (k + 1) = k + 1 from W64_id (by omega) au10)])
   refine ath_n ?_
   refine ⟨(n0, s_1 ++ [TEdge.mk 1 (l.getD k.toNat default) (Z1w l k) (TPoint.mk 0 0)], k + 1), ⟨?_, ?_, (by rw [<- hF0]; simp only [FLoop_l0, h1, cond_true, cond_false])⟩, Nat.lt_succ_self _, Cv.trans (cv_ren (⟨[(0, .av (.one (lst 2 TPoint.c l))), (2, tP 2 0), (3, tP 3 0), (4, tI (k + 1))], [(2, Z1t), (3, .cells [.i 2, .own 100000 7 ((s_1 ++ [TEdge.mk 1 (l.getD k.toNat default) (Z1w l k) (TPoint.mk 0 0)]).length), .i 0] 36), (100000, Z1y s_1 l k)]⟩) 28 100000 (K := []) (fun k x h => by cases h) rfl rfl kr kr) (cv_eq kr)⟩
   ·show ((((l.length : Int))) - (k + 1)).toNat < n0; omega
   ·exact ⟨(by show 0 <= (k + 1); first | trivial | omega | exact at0 | exact at1 | exact at2 | (simp; omega) | simp), (by show ((k + 1) <= ((l.length : Int)) \/ (k + 1) = 0); first | trivial | omega | exact at0 | exact at1 | exact at2 | (simp; omega) | simp), (by show ((s_1 ++ [TEdge.mk 1 (l.getD k.toNat default) (Z1w l k) (TPoint.mk 0 0)]).length : Int) <= 0 + 1 * ((k + 1) - 0); first | trivial | omega | exact at0 | exact at1 | exact at2 | (simp; omega) | simp)⟩
  ·have g1 := of_decide_eq_false h1
   refine aw_exit <| ath_e ?_
   refine ath_e <| abl_hit ?_
   refine ath_n <| aw_seq ?_
   refine aw_region eqok [] [] [] [2] [2, 100000] [] ⟨[(2, tP 2 0)], [(2, .cells [.i 2, .own 100000 7 s_1.length, .i 0] 36), (100000, .row 7 s_1.length (rowF TEdge.c s_1) 33)]⟩ .nil kr .nil <| ath_n <| aw_ret ?_
   exact ⟨_, Cv.trans (cv_fz (⟨[(2, tP 2 0)], [(2, .cells [.i 2, lst 7 TEdge.c s_1, .i 0] 36)]⟩) 100000 7 s_1.length (rowF TEdge.c s_1) 33 (K := []) (fun k x h => by cases h) kr kr (.cons ⟨rfl, rfl⟩ .nil) kr) (Cv.refl _), .inl rfl, .av (.agg [.i 2, lst 7 TEdge.c s_1, .i 0]), by kernel_rfl, tve_eq (by rw [<- hF0]; first | (simp only [FLoop_l0, h1, cond_true, cond_false] <;> rfl))⟩
theorem okLoop (l : (List TPoint)) (h0 : (l.length : Int) <= 1000000) : CallOk Try.prog (cLoop l).1 (cLoop l).2.1 (cLoop l).2.2 := callOk_pure (fun _ _ => kr) fun _ => pLoop l h0
def Z1z (r : TRect) : TShape := FLoop [TPoint.mk r.X0 r.Y0, TPoint.mk r.X1 r.Y0, TPoint.mk r.X1 r.Y1, TPoint.mk r.X0 r.Y1]
def FRectR (r : TRect) : TShape := Z1z r
def cRectR (r : TRect) : FuncId × List Av × Ef := (37, [.agg (TRect.c r)], .val [] (.av (.agg (TShape.c (FRectR r)))))
theorem pRectR (r : TRect) : Pure Try.prog 37 (cRectR r).2.1 (.av (.agg (TShape.c (FRectR r)))) := by
 refine pure_of_awF Try.func37 rfl kr kr fun W0 M0 => ?_
 refine aw_seq ?_
 refine aw_region eqok [] [] [] [1, 2] [1, 2] [] ⟨[(1, tP 1 0), (2, tP 2 0)], [(1, .cells (TRect.c r) 99), (2, .cells [.i 0, vN, .i 0] 36)]⟩ .nil kr .nil <| ath_n <| aw_seq ?_
 refine aw_region eqok [] [] [(24, ceI [.one (.list true 2 4 (colsC 2 4 [.i r.X0, .i r.Y0, .i r.X1, .i r.Y0, .i r.X1, .i r.Y1, .i r.X0, .i r.Y1]))] (cLoop [TPoint.mk r.X0 r.Y0, TPoint.mk r.X1 r.Y0, TPoint.mk r.X1 r.Y1, TPoint.mk r.X0 r.Y1]))] [2] [2] [Same (ceI [.one (.list true 2 4 (colsC 2 4 [.i r.X0, .i r.Y0, .i r.X1, .i r.Y0, .i r.X1, .i r.Y1, .i r.X0, .i r.Y1]))] (cLoop [TPoint.mk r.X0 r.Y0, TPoint.mk r.X1 r.Y0, TPoint.mk r.X1 r.Y1, TPoint.mk r.X0 r.Y1])).2.1] ⟨[(2, tP 2 0)], [(2, .cells (TShape.c (Z1z r)) 36)]⟩ (.cons (callOk_ce (okLoop [TPoint.mk r.X0 r.Y0, TPoint.mk r.X1 r.Y0, TPoint.mk r.X1 r.Y1, TPoint.mk r.X0 r.Y1] au16) (.cons (.one (cle_told true (told_lit (c := TPoint.c) (xs := ([TPoint.mk r.X0 r.Y0, TPoint.mk r.X1 r.Y0, TPoint.mk r.X1 r.Y1, TPoint.mk r.X0 r.Y1] : List TPoint)) rfl kr))) .nil)) .nil) kr (.cons rfl .nil) <| ath_n <| aw_ret ?_
 exact ⟨_, Cv.refl _, .inl rfl, .av (.agg (TShape.c (Z1z r))), by kernel_rfl, tve_eq (by rfl)⟩
theorem okRectR (r : TRect) : CallOk Try.prog (cRectR r).1 (cRectR r).2.1 (cRectR r).2.2 := callOk_pure (fun _ _ => kr) fun _ => pRectR r
def FDiscR (x0 : TPoint) (x1 : Int) : TShape := TShape.mk 1 [TEdge.mk 1 x0 x0 (TPoint.mk 0 0)] x1
def cDiscR (x0 : TPoint) (x1 : Int) : FuncId × List Av × Ef := (40, [.agg (TPoint.c x0), .one (.i x1)], .val [] (.av (.agg (TShape.c (FDiscR x0 x1)))))
theorem pDiscR (x0 : TPoint) (x1 : Int) : Pure Try.prog 40 (cDiscR x0 x1).2.1 (.av (.agg (TShape.c (FDiscR x0 x1)))) := by
 refine pure_of_awF Try.func40 rfl kr kr fun W0 M0 => ?_
 refine aw_seq ?_
 refine aw_region eqok [] [] [] [1, 2, 4] [2, 4] [] ⟨[(1, tI x1), (2, tP 2 0), (4, tP 4 0)], [(2, .cells (TPoint.c x0) 31), (4, .cells [.i 0, vN, .i 0] 36)]⟩ .nil kr .nil <| ath_n <| aw_seq ?_
 refine aw_region eqok [] [] [] [4] [4] [] ⟨[(4, tP 4 0)], [(4, .cells [.i 1, .list true 7 1 (colsC 7 1 [.i 1, .i x0.X, .i x0.Y, .i x0.X, .i x0.Y, .i 0, .i 0]), .i x1] 36)]⟩ .nil kr .nil <| ath_n <| aw_ret ?_
 exact ⟨_, Cv.refl _, .inl rfl, .av (.agg [.i 1, .list true 7 1 (colsC 7 1 [.i 1, .i x0.X, .i x0.Y, .i x0.X, .i x0.Y, .i 0, .i 0]), .i x1]), by kernel_rfl, tve_of (y := .av (.agg [.i 1, lst 7 TEdge.c [TEdge.mk 1 x0 x0 (TPoint.mk 0 0)], .i x1])) (.av (.agg (.cons (.refl _) (.cons (cle_told true (told_lit (c := TEdge.c) (xs := ([TEdge.mk 1 x0 x0 (TPoint.mk 0 0)] : List TEdge)) rfl kr)) (.cons (.refl _) .nil))))) (by rfl)⟩
theorem okDiscR (x0 : TPoint) (x1 : Int) : CallOk Try.prog (cDiscR x0 x1).1 (cDiscR x0 x1).2.1 (cDiscR x0 x1).2.2 := callOk_pure (fun _ _ => kr) fun _ => pDiscR x0 x1
def Z1A : Blk := .cells [.i 0, vN, .i 0] 36
def Z1B (l : (List Int)) : FuncId × List Av × Ef := (34, ([.one (.ptr 1000 0), .one (.i 50)] : List Av).map (renA 1000 13), wrI 13 (.cells [lst 1 (fun x => [.i x]) l, .i 0] 94) (tI ((FNext (TDraw.mk l 0) 50).1)) (.cells (TDraw.c ((FNext (TDraw.mk l 0) 50).2)) 94))
def Z1C (l : (List Int)) : FuncId × List Av × Ef := (34, ([.one (.ptr 1000 0), .one (.i 50)] : List Av).map (renA 1000 13), wrI 13 (.cells (TDraw.c ((FNext (TDraw.mk l 0) 50).2)) 94) (tI ((FNext ((FNext (TDraw.mk l 0) 50).2) 50).1)) (.cells (TDraw.c ((FNext ((FNext (TDraw.mk l 0) 50).2) 50).2)) 94))
def Z1D (l : (List Int)) : TDraw := (FNext ((FNext (TDraw.mk l 0) 50).2) 50).2
def Z1E (l : (List Int)) : Blk := .cells [.i ((FNext (TDraw.mk l 0) 50).1), .i ((FNext ((FNext (TDraw.mk l 0) 50).2) 50).1)] 31
def Z1F (l : (List Int)) : FuncId × List Av × Ef := (34, ([.one (.ptr 1000 0), .one (.i 6)] : List Av).map (renA 1000 13), wrI 13 (.cells (TDraw.c (Z1D l)) 94) (tI ((FNext (Z1D l) 6).1)) (.cells (TDraw.c ((FNext (Z1D l) 6).2)) 94))
def Z1G (l : (List Int)) : Blk := .cells (TDraw.c ((FNext (Z1D l) 6).2)) 94
def Z1H (l : (List Int)) : FuncId × List Av × Ef := (34, ([.one (.ptr 1000 0), .one (.i 20)] : List Av).map (renA 1000 13), wrI 13 (.cells (TDraw.c ((FNext (Z1D l) 6).2)) 94) (tI ((FNext ((FNext (Z1D l) 6).2) 20).1)) (.cells (TDraw.c ((FNext ((FNext (Z1D l) 6).2) 20).2)) 94))
def Z1I (l : (List Int)) : FuncId × List Av × Ef := (34, ([.one (.ptr 1000 0), .one (.i 20)] : List Av).map (renA 1000 13), wrI 13 (.cells (TDraw.c ((FNext ((FNext (Z1D l) 6).2) 20).2)) 94) (tI ((FNext ((FNext ((FNext (Z1D l) 6).2) 20).2) 20).1)) (.cells (TDraw.c ((FNext ((FNext ((FNext (Z1D l) 6).2) 20).2) 20).2)) 94))
def Z1J (l : (List Int)) : TShape := FRectR (TRect.mk ((FNext (TDraw.mk l 0) 50).1) ((FNext ((FNext (TDraw.mk l 0) 50).2) 50).1) (W64 ((W64 (((FNext (TDraw.mk l 0) 50).1) + 1)) + ((FNext ((FNext (Z1D l) 6).2) 20).1))) (W64 ((W64 (((FNext ((FNext (TDraw.mk l 0) 50).2) 50).1) + 1)) + ((FNext ((FNext ((FNext (Z1D l) 6).2) 20).2) 20).1))))
def Z1K (l : (List Int)) : FuncId × List Av × Ef := (34, ([.one (.ptr 1000 0), .one (.i 6)] : List Av).map (renA 1000 13), wrI 13 (.cells (TDraw.c ((FNext (Z1D l) 6).2)) 94) (tI ((FNext ((FNext (Z1D l) 6).2) 6).1)) (.cells (TDraw.c ((FNext ((FNext (Z1D l) 6).2) 6).2)) 94))
def Z1L (l : (List Int)) : FuncId × List Av × Ef := (34, ([.one (.ptr 1000 0), .one (.i 9)] : List Av).map (renA 1000 13), wrI 13 (.cells (TDraw.c ((FNext ((FNext (Z1D l) 6).2) 6).2)) 94) (tI ((FNext ((FNext ((FNext (Z1D l) 6).2) 6).2) 9).1)) (.cells (TDraw.c ((FNext ((FNext ((FNext (Z1D l) 6).2) 6).2) 9).2)) 94))
def Z1M (l : (List Int)) : TDraw := (FNext ((FNext ((FNext (Z1D l) 6).2) 6).2) 9).2
def Z1N (l : (List Int)) : FuncId × List Av × Ef := (34, ([.one (.ptr 1000 0), .one (.i 9)] : List Av).map (renA 1000 13), wrI 13 (.cells (TDraw.c (Z1M l)) 94) (tI ((FNext (Z1M l) 9).1)) (.cells (TDraw.c ((FNext (Z1M l) 9).2)) 94))
def Z1O (l : (List Int)) : TShape := Fround10 (TPoint.mk ((FNext (TDraw.mk l 0) 50).1) ((FNext ((FNext (TDraw.mk l 0) 50).2) 50).1)) (W64 (1 + ((FNext ((FNext (Z1D l) 6).2) 6).1))) (W64 (1 + ((FNext ((FNext ((FNext (Z1D l) 6).2) 6).2) 9).1))) (W64 (1 + ((FNext (Z1M l) 9).1)))
def Z1P (l : (List Int)) : FuncId × List Av × Ef := (34, ([.one (.ptr 1000 0), .one (.i 9)] : List Av).map (renA 1000 13), wrI 13 (.cells (TDraw.c ((FNext ((FNext (Z1D l) 6).2) 20).2)) 94) (tI ((FNext ((FNext ((FNext (Z1D l) 6).2) 20).2) 9).1)) (.cells (TDraw.c ((FNext ((FNext ((FNext (Z1D l) 6).2) 20).2) 9).2)) 94))
def Z1Q (l : (List Int)) : TDraw := (FNext ((FNext ((FNext (Z1D l) 6).2) 20).2) 9).2
def Z1R (l : (List Int)) : Blk := .cells [.i (W64 ((W64 (((FNext (TDraw.mk l 0) 50).1) + 1)) + ((FNext ((FNext (Z1D l) 6).2) 20).1))), .i (W64 (((FNext ((FNext (TDraw.mk l 0) 50).2) 50).1) + ((FNext ((FNext ((FNext (Z1D l) 6).2) 20).2) 9).1)))] 31
def Z1S (l : (List Int)) : FuncId × List Av × Ef := (34, ([.one (.ptr 1000 0), .one (.i 9)] : List Av).map (renA 1000 13), wrI 13 (.cells (TDraw.c (Z1Q l)) 94) (tI ((FNext (Z1Q l) 9).1)) (.cells (TDraw.c ((FNext (Z1Q l) 9).2)) 94))
def Z1T (l : (List Int)) : FuncId × List Av × Ef := (34, ([.one (.ptr 1000 0), .one (.i 20)] : List Av).map (renA 1000 13), wrI 13 (.cells (TDraw.c ((FNext (Z1Q l) 9).2)) 94) (tI ((FNext ((FNext (Z1Q l) 9).2) 20).1)) (.cells (TDraw.c ((FNext ((FNext (Z1Q l) 9).2) 20).2)) 94))
def Z1U (l : (List Int)) : TEdge := Fref10line (TPoint.mk ((FNext (TDraw.mk l 0) 50).1) ((FNext ((FNext (TDraw.mk l 0) 50).2) 50).1)) (TPoint.mk (W64 ((W64 (((FNext (TDraw.mk l 0) 50).1) + 1)) + ((FNext ((FNext (Z1D l) 6).2) 20).1))) (W64 (((FNext ((FNext (TDraw.mk l 0) 50).2) 50).1) + ((FNext ((FNext ((FNext (Z1D l) 6).2) 20).2) 9).1))))
def Z1V (l : (List Int)) : TEdge := Fref10line (TPoint.mk (W64 ((W64 (((FNext (TDraw.mk l 0) 50).1) + 1)) + ((FNext ((FNext (Z1D l) 6).2) 20).1))) (W64 (((FNext ((FNext (TDraw.mk l 0) 50).2) 50).1) + ((FNext ((FNext ((FNext (Z1D l) 6).2) 20).2) 9).1)))) (TPoint.mk (W64 (((FNext (TDraw.mk l 0) 50).1) + ((FNext (Z1Q l) 9).1))) (W64 ((W64 (((FNext ((FNext (TDraw.mk l 0) 50).2) 50).1) + 10)) + ((FNext ((FNext (Z1Q l) 9).2) 20).1))))
def Z1W (l : (List Int)) : TEdge := Fref10line (TPoint.mk (W64 (((FNext (TDraw.mk l 0) 50).1) + ((FNext (Z1Q l) 9).1))) (W64 ((W64 (((FNext ((FNext (TDraw.mk l 0) 50).2) 50).1) + 10)) + ((FNext ((FNext (Z1Q l) 9).2) 20).1)))) (TPoint.mk ((FNext (TDraw.mk l 0) 50).1) ((FNext ((FNext (TDraw.mk l 0) 50).2) 50).1))
def Z1X (l : (List Int)) : FuncId × List Av × Ef := (34, ([.one (.ptr 1000 0), .one (.i 9)] : List Av).map (renA 1000 13), wrI 13 (.cells (TDraw.c ((FNext (Z1D l) 6).2)) 94) (tI ((FNext ((FNext (Z1D l) 6).2) 9).1)) (.cells (TDraw.c ((FNext ((FNext (Z1D l) 6).2) 9).2)) 94))
def Z1Y (l : (List Int)) : TShape := FDiscR (TPoint.mk ((FNext (TDraw.mk l 0) 50).1) ((FNext ((FNext (TDraw.mk l 0) 50).2) 50).1)) ((FNext ((FNext (Z1D l) 6).2) 9).1)
def Z1Z (l : (List Int)) : Blk := .cells [.i 1, vN, .i ((FNext ((FNext (Z1D l) 6).2) 6).1)] 36
def Z20 (l : (List Int)) : FuncId × List Av × Ef := (34, ([.one (.ptr 1000 0), .one (.i 3)] : List Av).map (renA 1000 13), wrI 13 (.cells (TDraw.c ((FNext ((FNext (Z1D l) 6).2) 6).2)) 94) (tI ((FNext ((FNext ((FNext (Z1D l) 6).2) 6).2) 3).1)) (.cells (TDraw.c ((FNext ((FNext ((FNext (Z1D l) 6).2) 6).2) 3).2)) 94))
def Z21 (l : (List Int)) : TDraw := (FNext ((FNext ((FNext (Z1D l) 6).2) 6).2) 3).2
def Z22 (l : (List Int)) : Tv := tI (W64 (1 + ((FNext ((FNext ((FNext (Z1D l) 6).2) 6).2) 3).1)))
def Z23 : Blk := .row 7 ((([] : List TEdge)).length) (rowF TEdge.c (([] : List TEdge))) 33
def Z24 (l : (List Int)) : Blk := .cells [.i 1, .own 100000 7 ((([] : List TEdge)).length), .i ((FNext ((FNext (Z1D l) 6).2) 6).1)] 36
def Z25 (v7_1 : List TEdge) (l : (List Int)) : Blk := .cells [.i 1, .own 100000 7 v7_1.length, .i ((FNext ((FNext (Z1D l) 6).2) 6).1)] 36
def Z26 (v3 : TDraw) : FuncId × List Av × Ef := (34, ([.one (.ptr 1000 0), .one (.i 21)] : List Av).map (renA 1000 13), wrI 13 (.cells (TDraw.c v3) 94) (tI ((FNext v3 21).1)) (.cells (TDraw.c ((FNext v3 21).2)) 94))
def Z27 (v3 : TDraw) : FuncId × List Av × Ef := (34, ([.one (.ptr 1000 0), .one (.i 21)] : List Av).map (renA 1000 13), wrI 13 (.cells (TDraw.c ((FNext v3 21).2)) 94) (tI ((FNext ((FNext v3 21).2) 21).1)) (.cells (TDraw.c ((FNext ((FNext v3 21).2) 21).2)) 94))
def Z28 (v4 : TPoint) (v3 : TDraw) : TEdge := Fref10line v4 (TPoint.mk (max 0 (W64 ((W64 (v4.X + ((FNext v3 21).1))) - 10))) (max 0 (W64 ((W64 (v4.Y + ((FNext ((FNext v3 21).2) 21).1))) - 10))))
def Z29 (v3 : TDraw) : FuncId × List Av × Ef := (34, ([.one (.ptr 1000 0), .one (.i 2)] : List Av).map (renA 1000 13), wrI 13 (.cells (TDraw.c ((FNext ((FNext v3 21).2) 21).2)) 94) (tI ((FNext ((FNext ((FNext v3 21).2) 21).2) 2).1)) (.cells (TDraw.c ((FNext ((FNext ((FNext v3 21).2) 21).2) 2).2)) 94))
def Z2a (v3 : TDraw) : TDraw := (FNext ((FNext ((FNext v3 21).2) 21).2) 2).2
def Z2b (v3 : TDraw) : FuncId × List Av × Ef := (34, ([.one (.ptr 1000 0), .one (.i 9)] : List Av).map (renA 1000 13), wrI 13 (.cells (TDraw.c (Z2a v3)) 94) (tI ((FNext (Z2a v3) 9).1)) (.cells (TDraw.c ((FNext (Z2a v3) 9).2)) 94))
def Z2c (v3 : TDraw) : FuncId × List Av × Ef := (34, ([.one (.ptr 1000 0), .one (.i 4)] : List Av).map (renA 1000 13), wrI 13 (.cells (TDraw.c ((FNext (Z2a v3) 9).2)) 94) (tI ((FNext ((FNext (Z2a v3) 9).2) 4).1)) (.cells (TDraw.c ((FNext ((FNext (Z2a v3) 9).2) 4).2)) 94))
def Z2d (v3 : TDraw) : TDraw := (FNext ((FNext (Z2a v3) 9).2) 4).2
def Z2e (v3 : TDraw) : FuncId × List Av × Ef := (34, ([.one (.ptr 1000 0), .one (.i 2)] : List Av).map (renA 1000 13), wrI 13 (.cells (TDraw.c (Z2d v3)) 94) (tI ((FNext (Z2d v3) 2).1)) (.cells (TDraw.c ((FNext (Z2d v3) 2).2)) 94))
def Z2f (v4 : TPoint) (v3 : TDraw) : TEdge := Fquarter10 v4 (W64 (1 + ((FNext (Z2a v3) 9).1))) ((FNext ((FNext (Z2a v3) 9).2) 4).1) (decide ((((FNext (Z2d v3) 2).1) : Int) = 1))
def Z2g (v3 : TDraw) (v4 : TPoint) : TEdge := bif decide ((((FNext ((FNext ((FNext v3 21).2) 21).2) 2).1) : Int) = 1) then (Z2f v4 v3) else (Z28 v4 v3)
def Z2h (v7_1 : List TEdge) (v3 : TDraw) (v4 : TPoint) (l : (List Int)) : Blk := .cells [.i 1, .own 142 7 ((v7_1 ++ [Z2g v3 v4]).length), .i ((FNext ((FNext (Z1D l) 6).2) 6).1)] 36
def Z2i (v7_1 : List TEdge) (v3 : TDraw) (v4 : TPoint) : Blk := .row 7 ((v7_1 ++ [Z2g v3 v4]).length) (rowF TEdge.c (v7_1 ++ [Z2g v3 v4])) 33
def Z2j (v3 : TDraw) (v4 : TPoint) : TPoint := (bif decide ((((FNext ((FNext ((FNext v3 21).2) 21).2) 2).1) : Int) = 1) then (Z2f v4 v3) else (Z28 v4 v3)).B
def FMade10_l0 (l : (List Int)) : Nat -> List TEdge -> TPoint -> TDraw -> Int -> TShape
 | 0, _, _, _, _ => default
 | n0 + 1, v7_1, v4, v3, v9 => bif decide ((v9 : Int) < (W64 (1 + ((FNext ((FNext ((FNext (Z1D l) 6).2) 6).2) 3).1)))) then ((FMade10_l0 l n0) (v7_1 ++ [Z2g v3 v4]) (Z2j v3 v4) (bif decide ((((FNext ((FNext ((FNext v3 21).2) 21).2) 2).1) : Int) = 1) then ((FNext (Z2d v3) 2).2) else (Z2a v3)) (v9 + 1)) else (TShape.mk 1 v7_1 ((FNext ((FNext (Z1D l) 6).2) 6).1))
def FMade10 (l : (List Int)) : TShape := bif decide ((((FNext (Z1D l) 6).1) : Int) = 0) then (Z1J l) else (bif decide ((((FNext (Z1D l) 6).1) : Int) = 1) then (Z1O l) else (bif decide ((((FNext (Z1D l) 6).1) : Int) = 2) then (TShape.mk 2 [Z1U l, Z1V l, Z1W l] 0) else (bif decide ((((FNext (Z1D l) 6).1) : Int) = 3) then (Z1Y l) else (FMade10_l0 l ((((W64 (1 + ((FNext ((FNext ((FNext (Z1D l) 6).2) 6).2) 3).1)))) - 0).toNat + 1) (([] : List TEdge)) (TPoint.mk ((FNext (TDraw.mk l 0) 50).1) ((FNext ((FNext (TDraw.mk l 0) 50).2) 50).1)) (Z21 l) 0))))
def cMade10 (l : (List Int)) : FuncId × List Av × Ef := (13, [.one (lst 1 (fun x => [.i x]) l)], .val [] (.av (.agg (TShape.c (FMade10 l)))))
theorem au8 {p : Prop} (h : p := by repeat (first | assumption | exact draw_new (by assumption) | refine next_ok ?_ | refine draw_bif ?_ ?_ | refine hKd _ _ ?_ | refine cond_dk _ ?_)) : p := h
theorem au0 {p : Prop} (h : p := by first | decide | omega | (simp only [W64_def]; omega)) : p := h
theorem pMade10 (l : (List Int)) (hl : (l.length : Int) <= 9223372036854775807) : Pure Try.prog 13 (cMade10 l).2.1 (.av (.agg (TShape.c (FMade10 l)))) := by
 refine pure_of_awF Try.func13 rfl kr kr fun W0 M0 => ?_
 have hd0 := draw_new hl
 refine aw_seq ?_
 refine aw_region eqok [] [] [] [0, 2] [2] [] ⟨[(0, .av (.one (lst 1 (fun x => [.i x]) l))), (2, tP 2 0)], [(2, Z1A)]⟩ .nil kr .nil <| ath_n <| aw_seq ?_
 refine aw_region eqok [] [] [] [2, 3] [2, 13] [] ⟨[(2, tP 2 0), (3, tP 13 0)], [(2, Z1A), (13, .cells [lst 1 (fun x => [.i x]) l, .i 0] 94)]⟩ .nil kr .nil <| ath_n <| aw_seq ?_
 refine aw_region eqok [] [] [(15, (Z1B l)), (17, (Z1C l))] [2, 3, 4] [2, 4, 13] [Same ((Z1B l)).2.1, SameB (.cells [lst 1 (fun x => [.i x]) l, .i 0] 94), Same ((Z1C l)).2.1, SameB (.cells (TDraw.c ((FNext (TDraw.mk l 0) 50).2)) 94)] ⟨[(2, tP 2 0), (3, tP 13 0), (4, tP 4 0)], [(2, Z1A), (4, Z1E l), (13, .cells (TDraw.c (Z1D l)) 94)]⟩ (.cons (callOk_wr (fun _ _ => kr) kr kr (pNext (TDraw.mk l 0) 50 au8 au0)) (.cons (callOk_wr (fun _ _ => kr) kr kr (pNext ((FNext (TDraw.mk l 0) 50).2) 50 au8 au0)) .nil)) kr (.cons rfl (.cons rfl (.cons rfl (.cons rfl .nil)))) <| ath_n ?_
 refine aw_seq <| aw_seq ?_
 refine aw_region eqok [] [] [(20, (Z1F l))] [2, 3, 4, 20] [2, 4, 13] [Same ((Z1F l)).2.1, SameB (.cells (TDraw.c (Z1D l)) 94)] ⟨[(2, tP 2 0), (3, tP 13 0), (4, tP 4 0), (20, tI ((FNext (Z1D l) 6).1))], [(2, Z1A), (4, Z1E l), (13, Z1G l)]⟩ (.cons (callOk_wr (fun _ _ => kr) kr kr (pNext (Z1D l) 6 au8 au0)) .nil) kr (.cons rfl (.cons rfl .nil)) <| ath_n ?_
 refine aw_block <| aw_seq ?_
 refine aw_region eqok [] [] [] [2, 3, 4, 20, 21] [2, 4, 13] [] ⟨[(2, tP 2 0), (3, tP 13 0), (4, tP 4 0), (20, tI ((FNext (Z1D l) 6).1)), (21, tB (decide ((((FNext (Z1D l) 6).1) : Int) = 0)))], [(2, Z1A), (4, Z1E l), (13, Z1G l)]⟩ .nil kr .nil <| ath_n ?_
 refine aw_cond (decide ((((FNext (Z1D l) 6).1) : Int) = 0)) kr (fun h1 => ?_) (fun h1 => ?_)
 ·have g1 := of_decide_eq_true h1
  refine aw_seq ?_
  refine aw_draw mixed eqok [] [] [(31, (Z1H l)), (37, (Z1I l)), (40, cRectR (TRect.mk ((FNext (TDraw.mk l 0) 50).1) ((FNext ((FNext (TDraw.mk l 0) 50).2) 50).1) (W64 ((W64 (((FNext (TDraw.mk l 0) 50).1) + 1)) + ((FNext ((FNext (Z1D l) 6).2) 20).1))) (W64 ((W64 (((FNext ((FNext (TDraw.mk l 0) 50).2) 50).1) + 1)) + ((FNext ((FNext ((FNext (Z1D l) 6).2) 20).2) 20).1)))))] [2] [2] [Same ((Z1H l)).2.1, SameB (.cells (TDraw.c ((FNext (Z1D l) 6).2)) 94), Same ((Z1I l)).2.1, SameB (.cells (TDraw.c ((FNext ((FNext (Z1D l) 6).2) 20).2)) 94), Same (cRectR (TRect.mk ((FNext (TDraw.mk l 0) 50).1) ((FNext ((FNext (TDraw.mk l 0) 50).2) 50).1) (W64 ((W64 (((FNext (TDraw.mk l 0) 50).1) + 1)) + ((FNext ((FNext (Z1D l) 6).2) 20).1))) (W64 ((W64 (((FNext ((FNext (TDraw.mk l 0) 50).2) 50).1) + 1)) + ((FNext ((FNext ((FNext (Z1D l) 6).2) 20).2) 20).1))))).2.1] ⟨[(2, tP 2 0)], [(2, .cells (TShape.c (Z1J l)) 36)]⟩ (.cons (callOk_wr (fun _ _ => kr) kr kr (pNext ((FNext (Z1D l) 6).2) 20 au8 au0)) (.cons (callOk_wr (fun _ _ => kr) kr kr (pNext ((FNext ((FNext (Z1D l) 6).2) 20).2) 20 au8 au0)) (.cons (okRectR (TRect.mk ((FNext (TDraw.mk l 0) 50).1) ((FNext ((FNext (TDraw.mk l 0) 50).2) 50).1) (W64 ((W64 (((FNext (TDraw.mk l 0) 50).1) + 1)) + ((FNext ((FNext (Z1D l) 6).2) 20).1))) (W64 ((W64 (((FNext ((FNext (TDraw.mk l 0) 50).2) 50).1) + 1)) + ((FNext ((FNext ((FNext (Z1D l) 6).2) 20).2) 20).1))))) .nil))) kr kr (.cons rfl (.cons rfl (.cons rfl (.cons rfl (.cons rfl .nil))))) <| ath_n ?_
  refine aw_ret <| abl_r <| ath_r ?_
  exact ⟨_, Cv.refl _, .inl rfl, .av (.agg (TShape.c (Z1J l))), by kernel_rfl, tve_eq (by first | (simp only [FMade10, h1, cond_true, cond_false] <;> rfl))⟩
 ·have g1 := of_decide_eq_false h1
  refine aw_seq ?_
  refine aw_region eqok [] [] [] [2, 3, 4, 20, 41] [2, 4, 13] [] ⟨[(2, tP 2 0), (3, tP 13 0), (4, tP 4 0), (20, tI ((FNext (Z1D l) 6).1)), (41, tB (decide ((((FNext (Z1D l) 6).1) : Int) = 1)))], [(2, Z1A), (4, Z1E l), (13, Z1G l)]⟩ .nil kr .nil <| ath_n ?_
  refine aw_cond (decide ((((FNext (Z1D l) 6).1) : Int) = 1)) kr (fun h2 => ?_) (fun h2 => ?_)
  ·have g2 := of_decide_eq_true h2
   refine aw_seq ?_
   refine aw_draw mixed eqok [] [] [(45, (Z1K l)), (48, (Z1L l)), (51, (Z1N l)), (53, cround10 (TPoint.mk ((FNext (TDraw.mk l 0) 50).1) ((FNext ((FNext (TDraw.mk l 0) 50).2) 50).1)) (W64 (1 + ((FNext ((FNext (Z1D l) 6).2) 6).1))) (W64 (1 + ((FNext ((FNext ((FNext (Z1D l) 6).2) 6).2) 9).1))) (W64 (1 + ((FNext (Z1M l) 9).1))))] [2] [2] [Same ((Z1K l)).2.1, SameB (.cells (TDraw.c ((FNext (Z1D l) 6).2)) 94), Same ((Z1L l)).2.1, SameB (.cells (TDraw.c ((FNext ((FNext (Z1D l) 6).2) 6).2)) 94), Same ((Z1N l)).2.1, SameB (.cells (TDraw.c (Z1M l)) 94), Same (cround10 (TPoint.mk ((FNext (TDraw.mk l 0) 50).1) ((FNext ((FNext (TDraw.mk l 0) 50).2) 50).1)) (W64 (1 + ((FNext ((FNext (Z1D l) 6).2) 6).1))) (W64 (1 + ((FNext ((FNext ((FNext (Z1D l) 6).2) 6).2) 9).1))) (W64 (1 + ((FNext (Z1M l) 9).1)))).2.1] ⟨[(2, tP 2 0)], [(2, .cells (TShape.c (Z1O l)) 36)]⟩ (.cons (callOk_wr (fun _ _ => kr) kr kr (pNext ((FNext (Z1D l) 6).2) 6 au8 au0)) (.cons (callOk_wr (fun _ _ => kr) kr kr (pNext ((FNext ((FNext (Z1D l) 6).2) 6).2) 9 au8 au0)) (.cons (callOk_wr (fun _ _ => kr) kr kr (pNext (Z1M l) 9 au8 au0)) (.cons (okround10 (TPoint.mk ((FNext (TDraw.mk l 0) 50).1) ((FNext ((FNext (TDraw.mk l 0) 50).2) 50).1)) (W64 (1 + ((FNext ((FNext (Z1D l) 6).2) 6).1))) (W64 (1 + ((FNext ((FNext ((FNext (Z1D l) 6).2) 6).2) 9).1))) (W64 (1 + ((FNext (Z1M l) 9).1)))) .nil)))) kr kr (.cons rfl (.cons rfl (.cons rfl (.cons rfl (.cons rfl (.cons rfl (.cons rfl .nil))))))) <| ath_n ?_
   refine aw_ret <| abl_r <| ath_r ?_
   exact ⟨_, Cv.refl _, .inl rfl, .av (.agg (TShape.c (Z1O l))), by kernel_rfl, tve_eq (by first | (simp only [FMade10, h1, h2, cond_true, cond_false] <;> rfl))⟩
  ·have g2 := of_decide_eq_false h2
   refine aw_seq ?_
   refine aw_region eqok [] [] [] [2, 3, 4, 20, 54] [2, 4, 13] [] ⟨[(2, tP 2 0), (3, tP 13 0), (4, tP 4 0), (20, tI ((FNext (Z1D l) 6).1)), (54, tB (decide ((((FNext (Z1D l) 6).1) : Int) = 2)))], [(2, Z1A), (4, Z1E l), (13, Z1G l)]⟩ .nil kr .nil <| ath_n ?_
   refine aw_cond (decide ((((FNext (Z1D l) 6).1) : Int) = 2)) kr (fun h3 => ?_) (fun h3 => ?_)
   ·have g3 := of_decide_eq_true h3
    refine aw_seq ?_
    refine aw_draw mixed eqok [] [] [(60, (Z1H l)), (65, (Z1P l))] [2, 3, 4, 5] [2, 4, 5, 13] [Same ((Z1H l)).2.1, SameB (.cells (TDraw.c ((FNext (Z1D l) 6).2)) 94), Same ((Z1P l)).2.1, SameB (.cells (TDraw.c ((FNext ((FNext (Z1D l) 6).2) 20).2)) 94)] ⟨[(2, tP 2 0), (3, tP 13 0), (4, tP 4 0), (5, tP 5 0)], [(2, Z1A), (4, Z1E l), (5, Z1R l), (13, .cells (TDraw.c (Z1Q l)) 94)]⟩ (.cons (callOk_wr (fun _ _ => kr) kr kr (pNext ((FNext (Z1D l) 6).2) 20 au8 au0)) (.cons (callOk_wr (fun _ _ => kr) kr kr (pNext ((FNext ((FNext (Z1D l) 6).2) 20).2) 9 au8 au0)) .nil)) kr kr (.cons rfl (.cons rfl (.cons rfl (.cons rfl .nil)))) <| ath_n <| aw_seq ?_
    refine aw_draw mixed eqok [] [] [(71, (Z1S l)), (77, (Z1T l))] [2, 4, 5, 6] [2, 4, 5, 6] [Same ((Z1S l)).2.1, SameB (.cells (TDraw.c (Z1Q l)) 94), Same ((Z1T l)).2.1, SameB (.cells (TDraw.c ((FNext (Z1Q l) 9).2)) 94)] ⟨[(2, tP 2 0), (4, tP 4 0), (5, tP 5 0), (6, tP 6 0)], [(2, Z1A), (4, Z1E l), (5, Z1R l), (6, .cells [.i (W64 (((FNext (TDraw.mk l 0) 50).1) + ((FNext (Z1Q l) 9).1))), .i (W64 ((W64 (((FNext ((FNext (TDraw.mk l 0) 50).2) 50).1) + 10)) + ((FNext ((FNext (Z1Q l) 9).2) 20).1)))] 31)]⟩ (.cons (callOk_wr (fun _ _ => kr) kr kr (pNext (Z1Q l) 9 au8 au0)) (.cons (callOk_wr (fun _ _ => kr) kr kr (pNext ((FNext (Z1Q l) 9).2) 20 au8 au0)) .nil)) kr kr (.cons rfl (.cons rfl (.cons rfl (.cons rfl .nil)))) <| ath_n <| aw_seq ?_
    refine aw_draw mixed eqok [] [] [(82, cref10line (TPoint.mk ((FNext (TDraw.mk l 0) 50).1) ((FNext ((FNext (TDraw.mk l 0) 50).2) 50).1)) (TPoint.mk (W64 ((W64 (((FNext (TDraw.mk l 0) 50).1) + 1)) + ((FNext ((FNext (Z1D l) 6).2) 20).1))) (W64 (((FNext ((FNext (TDraw.mk l 0) 50).2) 50).1) + ((FNext ((FNext ((FNext (Z1D l) 6).2) 20).2) 9).1))))), (85, cref10line (TPoint.mk (W64 ((W64 (((FNext (TDraw.mk l 0) 50).1) + 1)) + ((FNext ((FNext (Z1D l) 6).2) 20).1))) (W64 (((FNext ((FNext (TDraw.mk l 0) 50).2) 50).1) + ((FNext ((FNext ((FNext (Z1D l) 6).2) 20).2) 9).1)))) (TPoint.mk (W64 (((FNext (TDraw.mk l 0) 50).1) + ((FNext (Z1Q l) 9).1))) (W64 ((W64 (((FNext ((FNext (TDraw.mk l 0) 50).2) 50).1) + 10)) + ((FNext ((FNext (Z1Q l) 9).2) 20).1))))), (88, cref10line (TPoint.mk (W64 (((FNext (TDraw.mk l 0) 50).1) + ((FNext (Z1Q l) 9).1))) (W64 ((W64 (((FNext ((FNext (TDraw.mk l 0) 50).2) 50).1) + 10)) + ((FNext ((FNext (Z1Q l) 9).2) 20).1)))) (TPoint.mk ((FNext (TDraw.mk l 0) 50).1) ((FNext ((FNext (TDraw.mk l 0) 50).2) 50).1)))] [2] [2] [Same (cref10line (TPoint.mk ((FNext (TDraw.mk l 0) 50).1) ((FNext ((FNext (TDraw.mk l 0) 50).2) 50).1)) (TPoint.mk (W64 ((W64 (((FNext (TDraw.mk l 0) 50).1) + 1)) + ((FNext ((FNext (Z1D l) 6).2) 20).1))) (W64 (((FNext ((FNext (TDraw.mk l 0) 50).2) 50).1) + ((FNext ((FNext ((FNext (Z1D l) 6).2) 20).2) 9).1))))).2.1, Same (cref10line (TPoint.mk (W64 ((W64 (((FNext (TDraw.mk l 0) 50).1) + 1)) + ((FNext ((FNext (Z1D l) 6).2) 20).1))) (W64 (((FNext ((FNext (TDraw.mk l 0) 50).2) 50).1) + ((FNext ((FNext ((FNext (Z1D l) 6).2) 20).2) 9).1)))) (TPoint.mk (W64 (((FNext (TDraw.mk l 0) 50).1) + ((FNext (Z1Q l) 9).1))) (W64 ((W64 (((FNext ((FNext (TDraw.mk l 0) 50).2) 50).1) + 10)) + ((FNext ((FNext (Z1Q l) 9).2) 20).1))))).2.1, Same (cref10line (TPoint.mk (W64 (((FNext (TDraw.mk l 0) 50).1) + ((FNext (Z1Q l) 9).1))) (W64 ((W64 (((FNext ((FNext (TDraw.mk l 0) 50).2) 50).1) + 10)) + ((FNext ((FNext (Z1Q l) 9).2) 20).1)))) (TPoint.mk ((FNext (TDraw.mk l 0) 50).1) ((FNext ((FNext (TDraw.mk l 0) 50).2) 50).1))).2.1] ⟨[(2, tP 2 0)], [(2, .cells [.i 2, .list true 7 3 (colsC 7 3 [.i ((Z1U l).Kind), .i (((Z1U l).A).X), .i (((Z1U l).A).Y), .i (((Z1U l).B).X), .i (((Z1U l).B).Y), .i (((Z1U l).C).X), .i (((Z1U l).C).Y), .i ((Z1V l).Kind), .i (((Z1V l).A).X), .i (((Z1V l).A).Y), .i (((Z1V l).B).X), .i (((Z1V l).B).Y), .i (((Z1V l).C).X), .i (((Z1V l).C).Y), .i ((Z1W l).Kind), .i (((Z1W l).A).X), .i (((Z1W l).A).Y), .i (((Z1W l).B).X), .i (((Z1W l).B).Y), .i (((Z1W l).C).X), .i (((Z1W l).C).Y)]), .i 0] 36)]⟩ (.cons (okref10line (TPoint.mk ((FNext (TDraw.mk l 0) 50).1) ((FNext ((FNext (TDraw.mk l 0) 50).2) 50).1)) (TPoint.mk (W64 ((W64 (((FNext (TDraw.mk l 0) 50).1) + 1)) + ((FNext ((FNext (Z1D l) 6).2) 20).1))) (W64 (((FNext ((FNext (TDraw.mk l 0) 50).2) 50).1) + ((FNext ((FNext ((FNext (Z1D l) 6).2) 20).2) 9).1))))) (.cons (okref10line (TPoint.mk (W64 ((W64 (((FNext (TDraw.mk l 0) 50).1) + 1)) + ((FNext ((FNext (Z1D l) 6).2) 20).1))) (W64 (((FNext ((FNext (TDraw.mk l 0) 50).2) 50).1) + ((FNext ((FNext ((FNext (Z1D l) 6).2) 20).2) 9).1)))) (TPoint.mk (W64 (((FNext (TDraw.mk l 0) 50).1) + ((FNext (Z1Q l) 9).1))) (W64 ((W64 (((FNext ((FNext (TDraw.mk l 0) 50).2) 50).1) + 10)) + ((FNext ((FNext (Z1Q l) 9).2) 20).1))))) (.cons (okref10line (TPoint.mk (W64 (((FNext (TDraw.mk l 0) 50).1) + ((FNext (Z1Q l) 9).1))) (W64 ((W64 (((FNext ((FNext (TDraw.mk l 0) 50).2) 50).1) + 10)) + ((FNext ((FNext (Z1Q l) 9).2) 20).1)))) (TPoint.mk ((FNext (TDraw.mk l 0) 50).1) ((FNext ((FNext (TDraw.mk l 0) 50).2) 50).1))) .nil))) kr kr (.cons rfl (.cons rfl (.cons rfl .nil))) <| ath_n ?_
    refine aw_ret <| abl_r <| ath_r ?_
    exact ⟨_, Cv.refl _, .inl rfl, .av (.agg [.i 2, .list true 7 3 (colsC 7 3 [.i ((Z1U l).Kind), .i (((Z1U l).A).X), .i (((Z1U l).A).Y), .i (((Z1U l).B).X), .i (((Z1U l).B).Y), .i (((Z1U l).C).X), .i (((Z1U l).C).Y), .i ((Z1V l).Kind), .i (((Z1V l).A).X), .i (((Z1V l).A).Y), .i (((Z1V l).B).X), .i (((Z1V l).B).Y), .i (((Z1V l).C).X), .i (((Z1V l).C).Y), .i ((Z1W l).Kind), .i (((Z1W l).A).X), .i (((Z1W l).A).Y), .i (((Z1W l).B).X), .i (((Z1W l).B).Y), .i (((Z1W l).C).X), .i (((Z1W l).C).Y)]), .i 0]), by kernel_rfl, tve_of (y := .av (.agg [.i 2, lst 7 TEdge.c [Z1U l, Z1V l, Z1W l], .i 0])) (.av (.agg (.cons (.refl _) (.cons (cle_told true (told_lit (c := TEdge.c) (xs := ([Z1U l, Z1V l, Z1W l] : List TEdge)) rfl kr)) (.cons (.refl _) .nil))))) (by first | (simp only [FMade10, h1, h2, h3, cond_true, cond_false] <;> rfl))⟩
   ·have g3 := of_decide_eq_false h3
    refine aw_seq ?_
    refine aw_region eqok [] [] [] [2, 3, 4, 91] [2, 4, 13] [] ⟨[(2, tP 2 0), (3, tP 13 0), (4, tP 4 0), (91, tB (decide ((((FNext (Z1D l) 6).1) : Int) = 3)))], [(2, Z1A), (4, Z1E l), (13, Z1G l)]⟩ .nil kr .nil <| ath_n ?_
    refine aw_cond (decide ((((FNext (Z1D l) 6).1) : Int) = 3)) kr (fun h4 => ?_) (fun h4 => ?_)
    ·have g4 := of_decide_eq_true h4
     refine aw_seq ?_
     refine aw_draw mixed eqok [] [] [(95, (Z1X l)), (96, cDiscR (TPoint.mk ((FNext (TDraw.mk l 0) 50).1) ((FNext ((FNext (TDraw.mk l 0) 50).2) 50).1)) ((FNext ((FNext (Z1D l) 6).2) 9).1))] [2] [2] [Same ((Z1X l)).2.1, SameB (.cells (TDraw.c ((FNext (Z1D l) 6).2)) 94), Same (cDiscR (TPoint.mk ((FNext (TDraw.mk l 0) 50).1) ((FNext ((FNext (TDraw.mk l 0) 50).2) 50).1)) ((FNext ((FNext (Z1D l) 6).2) 9).1)).2.1] ⟨[(2, tP 2 0)], [(2, .cells (TShape.c (Z1Y l)) 36)]⟩ (.cons (callOk_wr (fun _ _ => kr) kr kr (pNext ((FNext (Z1D l) 6).2) 9 au8 au0)) (.cons (okDiscR (TPoint.mk ((FNext (TDraw.mk l 0) 50).1) ((FNext ((FNext (TDraw.mk l 0) 50).2) 50).1)) ((FNext ((FNext (Z1D l) 6).2) 9).1)) .nil)) kr kr (.cons rfl (.cons rfl (.cons rfl .nil))) <| ath_n ?_
     refine aw_ret <| abl_r <| ath_r ?_
     exact ⟨_, Cv.refl _, .inl rfl, .av (.agg (TShape.c (Z1Y l))), by kernel_rfl, tve_eq (by first | (simp only [FMade10, h1, h2, h3, h4, cond_true, cond_false] <;> rfl))⟩
    ·have g4 := of_decide_eq_false h4
     refine aw_skip <| abl_n ?_
     refine ath_n <| aw_seq ?_
     refine aw_region eqok [] [] [(98, (Z1K l))] [2, 3, 4, 7] [2, 4, 7, 13] [Same ((Z1K l)).2.1, SameB (.cells (TDraw.c ((FNext (Z1D l) 6).2)) 94)] ⟨[(2, tP 2 0), (3, tP 13 0), (4, tP 4 0), (7, tP 7 0)], [(2, Z1A), (4, Z1E l), (7, Z1Z l), (13, .cells (TDraw.c ((FNext ((FNext (Z1D l) 6).2) 6).2)) 94)]⟩ (.cons (callOk_wr (fun _ _ => kr) kr kr (pNext ((FNext (Z1D l) 6).2) 6 au8 au0)) .nil) kr (.cons rfl (.cons rfl .nil)) <| ath_n <| aw_seq ?_
     refine aw_region eqok [] [] [(101, (Z20 l))] [2, 3, 4, 7, 8] [2, 4, 7, 13] [Same ((Z20 l)).2.1, SameB (.cells (TDraw.c ((FNext ((FNext (Z1D l) 6).2) 6).2)) 94)] ⟨[(2, tP 2 0), (3, tP 13 0), (4, tP 4 0), (7, tP 7 0), (8, Z22 l)], [(2, Z1A), (4, Z1E l), (7, Z1Z l), (13, .cells (TDraw.c (Z21 l)) 94)]⟩ (.cons (callOk_wr (fun _ _ => kr) kr kr (pNext ((FNext ((FNext (Z1D l) 6).2) 6).2) 3 au8 au0)) .nil) kr (.cons rfl (.cons rfl .nil)) <| ath_n ?_
     refine aw_seq <| aw_seq ?_
     refine aw_region eqok [] [] [] [2, 3, 4, 7, 8, 9] [2, 4, 7, 13] [] ⟨[(2, tP 2 0), (3, tP 13 0), (4, tP 4 0), (7, tP 7 0), (8, Z22 l), (9, tI 0)], [(2, Z1A), (4, Z1E l), (7, Z1Z l), (13, .cells (TDraw.c (Z21 l)) 94)]⟩ .nil kr .nil <| ath_n <| aw_block ?_
     refine aw_cv (Cv.trans (cv_ghost (⟨[(2, tP 2 0), (3, tP 13 0), (4, tP 4 0), (7, tP 7 0), (8, Z22 l), (9, tI 0)], [(100000, .row 7 0 (fun _ _ => default) 33), (2, Z1A), (4, Z1E l), (7, .cells [.i 1, .own 100000 7 0, .i ((FNext ((FNext (Z1D l) 6).2) 6).1)] 36), (13, .cells (TDraw.c (Z21 l)) 94)]⟩) 100000 7 (fun _ _ => default) 33 [] [(7, [1])] (K := []) (fun k x h => by cases h) rfl kr kr) (Cv.trans (cv_ce (⟨[(2, tP 2 0), (3, tP 13 0), (4, tP 4 0), (7, tP 7 0), (8, Z22 l), (9, tI 0)], [(100000, Z23), (2, Z1A), (4, Z1E l), (7, Z24 l), (13, .cells (TDraw.c (Z21 l)) 94)]⟩) lr (.cons ⟨rfl, bke_told 33 (told_nil 7 (fun _ _ => default) TEdge.c)⟩ (.cons ⟨rfl, .refl _⟩ (.cons ⟨rfl, .refl _⟩ (.cons ⟨rfl, .cells _ (.cons (.refl _) (.cons (.own _ _ au2) (.cons (.refl _) .nil)))⟩ lr))))) (Cv.trans (cv_keep [2, 3, 4, 7, 8, 9] [2, 4, 7, 13, 100000] (⟨[(2, tP 2 0), (3, tP 13 0), (4, tP 4 0), (7, tP 7 0), (8, Z22 l), (9, tI 0)], [(2, Z1A), (4, Z1E l), (7, Z24 l), (13, .cells (TDraw.c (Z21 l)) 94), (100000, Z23)]⟩) kr) (Cv.refl _)))) ?_
     refine aw_loopC (ι := Nat × List TEdge × TPoint × TDraw × Int) (fun x => ⟨[(2, tP 2 0), (3, tP 13 0), (4, tP 4 0), (7, tP 7 0), (8, Z22 l), (9, tI x.2.2.2.2)], [(2, Z1A), (4, .cells (TPoint.c x.2.2.1) 31), (7, .cells [.i 1, .own 100000 7 x.2.1.length, .i ((FNext ((FNext (Z1D l) 6).2) 6).1)] 36), (13, .cells (TDraw.c x.2.2.2.1) 94), (100000, .row 7 x.2.1.length (rowF TEdge.c x.2.1) 33)]⟩) (fun x => (((W64 (1 + ((FNext ((FNext ((FNext (Z1D l) 6).2) 6).2) 3).1)))) - x.2.2.2.2).toNat < x.1 /\ (DrawOk x.2.2.2.1 /\ 0 <= x.2.2.2.2 /\ (x.2.2.2.2 <= (W64 (1 + ((FNext ((FNext ((FNext (Z1D l) 6).2) 6).2) 3).1))) \/ x.2.2.2.2 = 0) /\ (x.2.1.length : Int) <= 0 + 1 * (x.2.2.2.2 - 0)) /\ FMade10_l0 l x.1 x.2.1 x.2.2.1 x.2.2.2.1 x.2.2.2.2 = FMade10 l) (fun x => x.1) ?_ ((((W64 (1 + ((FNext ((FNext ((FNext (Z1D l) 6).2) 6).2) 3).1)))) - 0).toNat + 1, ([] : List TEdge), TPoint.mk ((FNext (TDraw.mk l 0) 50).1) ((FNext ((FNext (TDraw.mk l 0) 50).2) 50).1), Z21 l, 0) ⟨Nat.lt_succ_self _, ⟨(by show DrawOk (Z21 l); repeat (first | assumption | exact draw_new (by assumption) | refine next_ok ?_ | refine draw_bif ?_ ?_ | refine hKd _ _ ?_ | refine cond_dk _ ?_)), (by show 0 <= 0; first | trivial | omega | exact at0 | exact at1 | exact at2 | (simp; omega) | simp), (by show (0 <= (W64 (1 + ((FNext ((FNext ((FNext (Z1D l) 6).2) 6).2) 3).1))) \/ 0 = 0); first | trivial | omega | exact at0 | exact at1 | exact at2 | (simp; omega) | simp), (by show ((([] : List TEdge)).length : Int) <= 0 + 1 * (0 - 0); first | trivial | omega | exact at0 | exact at1 | exact at2 | (simp; omega) | simp)⟩, (by simp only [FMade10, h1, h2, h3, h4, cond_true, cond_false])⟩
     rintro ⟨n0, v7_1, v4, v3, v9⟩ ⟨hn, hinv, hF⟩
     have hm0 : (((W64 (1 + ((FNext ((FNext ((FNext (Z1D l) 6).2) 6).2) 3).1)))) - v9).toNat < n0 := hn; have hinv0 : DrawOk v3 /\ 0 <= v9 /\ (v9 <= (W64 (1 + ((FNext ((FNext ((FNext (Z1D l) 6).2) 6).2) 3).1))) \/ v9 = 0) /\ (v7_1.length : Int) <= 0 + 1 * (v9 - 0) := hinv; have hF0 : FMade10_l0 l n0 v7_1 v4 v3 v9 = FMade10 l := hF; clear hn hinv hF
     cases n0 with
     | zero => exact absurd hm0 (Nat.not_lt_zero _)
     | succ n0 =>
      have hi0_0 := hinv0.1
      refine aw_seq <| aw_seq ?_
      refine aw_region eqok [] [] [] [2, 3, 4, 7, 8, 9, 105] [2, 4, 7, 13, 100000] [] ⟨[(2, tP 2 0), (3, tP 13 0), (4, tP 4 0), (7, tP 7 0), (8, Z22 l), (9, tI v9), (105, tB (decide ((v9 : Int) < (W64 (1 + ((FNext ((FNext ((FNext (Z1D l) 6).2) 6).2) 3).1))))))], [(2, Z1A), (4, .cells (TPoint.c v4) 31), (7, Z25 v7_1 l), (13, .cells (TDraw.c v3) 94), (100000, .row 7 v7_1.length (rowF TEdge.c v7_1) 33)]⟩ .nil kr .nil <| ath_n ?_
      refine aw_cond (decide ((v9 : Int) < (W64 (1 + ((FNext ((FNext ((FNext (Z1D l) 6).2) 6).2) 3).1))))) kr (fun h5 => ?_) (fun h5 => ?_)
      ·have g5 := of_decide_eq_true h5
       have k5 := lt_many g5 (by decide) (by decide) (by decide) (by decide)
       refine aw_skip <| ath_n ?_
       refine aw_seq <| aw_block <| aw_seq ?_
       refine aw_draw mixed eqok [] [] [(112, (Z26 v3)), (119, (Z27 v3)), (124, cref10line v4 (TPoint.mk (max 0 (W64 ((W64 (v4.X + ((FNext v3 21).1))) - 10))) (max 0 (W64 ((W64 (v4.Y + ((FNext ((FNext v3 21).2) 21).1))) - 10)))))] [2, 3, 4, 7, 8, 9, 10] [2, 4, 7, 10, 13, 100000] [Same ((Z26 v3)).2.1, SameB (.cells (TDraw.c v3) 94), Same ((Z27 v3)).2.1, SameB (.cells (TDraw.c ((FNext v3 21).2)) 94), Same (cref10line v4 (TPoint.mk (max 0 (W64 ((W64 (v4.X + ((FNext v3 21).1))) - 10))) (max 0 (W64 ((W64 (v4.Y + ((FNext ((FNext v3 21).2) 21).1))) - 10))))).2.1] ⟨[(2, tP 2 0), (3, tP 13 0), (4, tP 4 0), (7, tP 7 0), (8, Z22 l), (9, tI v9), (10, tP 10 0)], [(2, Z1A), (4, .cells (TPoint.c v4) 31), (7, Z25 v7_1 l), (10, .cells (TEdge.c (Z28 v4 v3)) 33), (13, .cells (TDraw.c ((FNext ((FNext v3 21).2) 21).2)) 94), (100000, .row 7 v7_1.length (rowF TEdge.c v7_1) 33)]⟩ (.cons (callOk_wr (fun _ _ => kr) kr kr (pNext v3 21 au8 au0)) (.cons (callOk_wr (fun _ _ => kr) kr kr (pNext ((FNext v3 21).2) 21 au8 au0)) (.cons (okref10line v4 (TPoint.mk (max 0 (W64 ((W64 (v4.X + ((FNext v3 21).1))) - 10))) (max 0 (W64 ((W64 (v4.Y + ((FNext ((FNext v3 21).2) 21).1))) - 10))))) .nil))) kr kr (.cons rfl (.cons rfl (.cons rfl (.cons rfl (.cons rfl .nil))))) <| ath_n ?_
       refine aw_seq <| aw_seq ?_
       refine aw_region eqok [] [] [(126, (Z29 v3))] [2, 3, 4, 7, 8, 9, 10, 127] [2, 4, 7, 10, 13, 100000] [Same ((Z29 v3)).2.1, SameB (.cells (TDraw.c ((FNext ((FNext v3 21).2) 21).2)) 94)] ⟨[(2, tP 2 0), (3, tP 13 0), (4, tP 4 0), (7, tP 7 0), (8, Z22 l), (9, tI v9), (10, tP 10 0), (127, tB (decide ((((FNext ((FNext ((FNext v3 21).2) 21).2) 2).1) : Int) = 1)))], [(2, Z1A), (4, .cells (TPoint.c v4) 31), (7, Z25 v7_1 l), (10, .cells (TEdge.c (Z28 v4 v3)) 33), (13, .cells (TDraw.c (Z2a v3)) 94), (100000, .row 7 v7_1.length (rowF TEdge.c v7_1) 33)]⟩ (.cons (callOk_wr (fun _ _ => kr) kr kr (pNext ((FNext ((FNext v3 21).2) 21).2) 2 au8 au0)) .nil) kr (.cons rfl (.cons rfl .nil)) <| ath_n ?_
       refine aw_joinC (⟨[(2, tP 2 0), (3, tP 13 0), (4, tP 4 0), (7, tP 7 0), (8, tI (W64 (1 + ((FNext ((FNext ((FNext (Z1D l) 6).2) 6).2) 3).1)))), (9, tI v9), (10, tP 10 0)], [(2, .cells [.i 0, vN, .i 0] 36), (4, .cells (TPoint.c v4) 31), (7, .cells [.i 1, .own 100000 7 v7_1.length, .i ((FNext ((FNext (Z1D l) 6).2) 6).1)] 36), (10, .cells (TEdge.c (bif decide ((((FNext ((FNext ((FNext v3 21).2) 21).2) 2).1) : Int) = 1) then (Z2f v4 v3) else (Z28 v4 v3))) 33), (13, .cells (TDraw.c (bif decide ((((FNext ((FNext ((FNext v3 21).2) 21).2) 2).1) : Int) = 1) then ((FNext (Z2d v3) 2).2) else (Z2a v3))) 94), (100000, .row 7 v7_1.length (rowF TEdge.c v7_1) 33)]⟩) ?_ ?_
       ·refine aw_cond (decide ((((FNext ((FNext ((FNext v3 21).2) 21).2) 2).1) : Int) = 1)) kr (fun h6 => ?_) (fun h6 => ?_)
        ·have g6 := of_decide_eq_true h6
         refine aw_draw mixed eqok [] [] [(130, (Z2b v3)), (133, (Z2c v3)), (135, (Z2e v3)), (137, cquarter10 v4 (W64 (1 + ((FNext (Z2a v3) 9).1))) ((FNext ((FNext (Z2a v3) 9).2) 4).1) (decide ((((FNext (Z2d v3) 2).1) : Int) = 1)))] [2, 3, 4, 7, 8, 9, 10] [2, 4, 7, 10, 13, 100000] [Same ((Z2b v3)).2.1, SameB (.cells (TDraw.c (Z2a v3)) 94), Same ((Z2c v3)).2.1, SameB (.cells (TDraw.c ((FNext (Z2a v3) 9).2)) 94), Same ((Z2e v3)).2.1, SameB (.cells (TDraw.c (Z2d v3)) 94), Same (cquarter10 v4 (W64 (1 + ((FNext (Z2a v3) 9).1))) ((FNext ((FNext (Z2a v3) 9).2) 4).1) (decide ((((FNext (Z2d v3) 2).1) : Int) = 1))).2.1] ⟨[(2, tP 2 0), (3, tP 13 0), (4, tP 4 0), (7, tP 7 0), (8, Z22 l), (9, tI v9), (10, tP 10 0)], [(2, Z1A), (4, .cells (TPoint.c v4) 31), (7, Z25 v7_1 l), (10, .cells (TEdge.c (Z2f v4 v3)) 33), (13, .cells (TDraw.c ((FNext (Z2d v3) 2).2)) 94), (100000, .row 7 v7_1.length (rowF TEdge.c v7_1) 33)]⟩ (.cons (callOk_wr (fun _ _ => kr) kr kr (pNext (Z2a v3) 9 au8 au0)) (.cons (callOk_wr (fun _ _ => kr) kr kr (pNext ((FNext (Z2a v3) 9).2) 4 au8 au0)) (.cons (callOk_wr (fun _ _ => kr) kr kr (pNext (Z2d v3) 2 au8 au0)) (.cons (okquarter10 v4 (W64 (1 + ((FNext (Z2a v3) 9).1))) ((FNext ((FNext (Z2a v3) 9).2) 4).1) (decide ((((FNext (Z2d v3) 2).1) : Int) = 1))) .nil)))) kr kr (.cons rfl (.cons rfl (.cons rfl (.cons rfl (.cons rfl (.cons rfl (.cons rfl .nil))))))) <| ath_n ?_
         refine cv_eq ?_
         first | rfl | (simp only [h6, cond_true, cond_false] <;> rfl)
        ·have g6 := of_decide_eq_false h6
         refine aw_skip <| ath_n ?_
         refine Cv.trans (cv_keep [2, 3, 4, 7, 8, 9, 10] [2, 4, 7, 10, 13, 100000] (⟨[(2, tP 2 0), (3, tP 13 0), (4, tP 4 0), (7, tP 7 0), (8, Z22 l), (9, tI v9), (10, tP 10 0)], [(2, Z1A), (4, .cells (TPoint.c v4) 31), (7, Z25 v7_1 l), (10, .cells (TEdge.c (Z28 v4 v3)) 33), (13, .cells (TDraw.c (Z2a v3)) 94), (100000, .row 7 v7_1.length (rowF TEdge.c v7_1) 33)]⟩) kr) (cv_eq ?_)
         first | rfl | (simp only [h6, cond_true, cond_false] <;> rfl)
       refine aw_seq ?_
       refine aw_region eqok [] [] [] [2, 3, 4, 7, 8, 9, 10] [2, 4, 7, 10, 13, 142] [v7_1.length = v7_1.length, v7_1.length + 1 <= maxLen, (v7_1.length + 1) * 56 <= 140737488355328] ⟨[(2, tP 2 0), (3, tP 13 0), (4, tP 4 0), (7, tP 7 0), (8, Z22 l), (9, tI v9), (10, tP 10 0)], [(2, Z1A), (4, .cells (TPoint.c v4) 31), (7, .cells [.i 1, .own 142 7 (v7_1.length + 1), .i ((FNext ((FNext (Z1D l) 6).2) 6).1)] 36), (10, .cells (TEdge.c (bif decide ((((FNext ((FNext ((FNext v3 21).2) 21).2) 2).1) : Int) = 1) then (Z2f v4 v3) else (Z28 v4 v3))) 33), (13, .cells (TDraw.c (bif decide ((((FNext ((FNext ((FNext v3 21).2) 21).2) 2).1) : Int) = 1) then ((FNext (Z2d v3) 2).2) else (Z2a v3))) 94), (142, .row 7 (v7_1.length + 1) (fun i j => if i < v7_1.length then (rowF TEdge.c v7_1) i j else (colsC 7 1 [.i ((Z2g v3 v4).Kind), .i (((Z2g v3 v4).A).X), .i (((Z2g v3 v4).A).Y), .i (((Z2g v3 v4).B).X), .i (((Z2g v3 v4).B).Y), .i (((Z2g v3 v4).C).X), .i (((Z2g v3 v4).C).Y)]) (i - v7_1.length) j) 33)]⟩ .nil kr (.cons rfl (.cons au1 (.cons au1 .nil))) <| ath_n ?_
       refine aw_cv (Cv.trans (cv_ce (⟨[(2, tP 2 0), (3, tP 13 0), (4, tP 4 0), (7, tP 7 0), (8, Z22 l), (9, tI v9), (10, tP 10 0)], [(2, Z1A), (4, .cells (TPoint.c v4) 31), (7, Z2h v7_1 v3 v4 l), (10, .cells (TEdge.c (bif decide ((((FNext ((FNext ((FNext v3 21).2) 21).2) 2).1) : Int) = 1) then (Z2f v4 v3) else (Z28 v4 v3))) 33), (13, .cells (TDraw.c (bif decide ((((FNext ((FNext ((FNext v3 21).2) 21).2) 2).1) : Int) = 1) then ((FNext (Z2d v3) 2).2) else (Z2a v3))) 94), (142, Z2i v7_1 v3 v4)]⟩) lr (.cons ⟨rfl, .refl _⟩ (.cons ⟨rfl, .refl _⟩ (.cons ⟨rfl, .cells _ (.cons (.refl _) (.cons (.own _ _ au2) (.cons (.refl _) .nil)))⟩ (.cons ⟨rfl, .refl _⟩ (.cons ⟨rfl, .refl _⟩ (.cons ⟨rfl, bke_told 33 (told_app (told_rfl 7 TEdge.c v7_1) (told_lit (c := TEdge.c) (xs := ([Z2g v3 v4] : List TEdge)) rfl kr))⟩ .nil))))))) (Cv.refl _)) ?_
       refine aw_region eqok [] [] [] [2, 3, 4, 7, 8, 9] [2, 4, 7, 13, 142] [] ⟨[(2, tP 2 0), (3, tP 13 0), (4, tP 4 0), (7, tP 7 0), (8, Z22 l), (9, tI v9)], [(2, Z1A), (4, .cells (TPoint.c (Z2j v3 v4)) 31), (7, Z2h v7_1 v3 v4 l), (13, .cells (TDraw.c (bif decide ((((FNext ((FNext ((FNext v3 21).2) 21).2) 2).1) : Int) = 1) then ((FNext (Z2d v3) 2).2) else (Z2a v3))) 94), (142, Z2i v7_1 v3 v4)]⟩ .nil kr .nil <| abl_n <| ath_n ?_
       refine aw_region eqok [] [] [] [2, 3, 4, 7, 8, 9] [2, 4, 7, 13, 142] [] ⟨[(2, tP 2 0), (3, tP 13 0), (4, tP 4 0), (7, tP 7 0), (8, Z22 l), (9, tI (W64 (v9 + 1)))], [(2, Z1A), (4, .cells (TPoint.c (Z2j v3 v4)) 31), (7, Z2h v7_1 v3 v4 l), (13, .cells (TDraw.c (bif decide ((((FNext ((FNext ((FNext v3 21).2) 21).2) 2).1) : Int) = 1) then ((FNext (Z2d v3) 2).2) else (Z2a v3))) 94), (142, Z2i v7_1 v3 v4)]⟩ .nil kr .nil ?_
       (try rw [(show W64 (v9 + 1) = v9 + 1 from W64_id (by omega) au10)])
       refine ath_n ?_
       refine ⟨(n0, v7_1 ++ [Z2g v3 v4], Z2j v3 v4, bif decide ((((FNext ((FNext ((FNext v3 21).2) 21).2) 2).1) : Int) = 1) then ((FNext (Z2d v3) 2).2) else (Z2a v3), v9 + 1), ⟨?_, ?_, (by rw [<- hF0]; simp only [FMade10_l0, h5, cond_true, cond_false])⟩, Nat.lt_succ_self _, Cv.trans (cv_ren (⟨[(2, tP 2 0), (3, tP 13 0), (4, tP 4 0), (7, tP 7 0), (8, Z22 l), (9, tI (v9 + 1))], [(2, Z1A), (4, .cells (TPoint.c (Z2j v3 v4)) 31), (7, .cells [.i 1, .own 100000 7 ((v7_1 ++ [Z2g v3 v4]).length), .i ((FNext ((FNext (Z1D l) 6).2) 6).1)] 36), (13, .cells (TDraw.c (bif decide ((((FNext ((FNext ((FNext v3 21).2) 21).2) 2).1) : Int) = 1) then ((FNext (Z2d v3) 2).2) else (Z2a v3))) 94), (100000, Z2i v7_1 v3 v4)]⟩) 142 100000 (K := []) (fun k x h => by cases h) rfl rfl kr kr) (cv_eq kr)⟩
       ·show (((W64 (1 + ((FNext ((FNext ((FNext (Z1D l) 6).2) 6).2) 3).1)))) - (v9 + 1)).toNat < n0; omega
       ·exact ⟨(by show DrawOk (bif decide ((((FNext ((FNext ((FNext v3 21).2) 21).2) 2).1) : Int) = 1) then ((FNext (Z2d v3) 2).2) else (Z2a v3)); repeat (first | assumption | exact draw_new (by assumption) | refine next_ok ?_ | refine draw_bif ?_ ?_ | refine hKd _ _ ?_ | refine cond_dk _ ?_)), (by show 0 <= (v9 + 1); first | trivial | omega | exact at0 | exact at1 | exact at2 | (simp; omega) | simp), (by show ((v9 + 1) <= (W64 (1 + ((FNext ((FNext ((FNext (Z1D l) 6).2) 6).2) 3).1))) \/ (v9 + 1) = 0); first | trivial | omega | exact at0 | exact at1 | exact at2 | (simp; omega) | simp), (by show ((v7_1 ++ [Z2g v3 v4]).length : Int) <= 0 + 1 * ((v9 + 1) - 0); first | trivial | omega | exact at0 | exact at1 | exact at2 | (simp; omega) | simp)⟩
      ·have g5 := of_decide_eq_false h5
       have k5 := ge_many g5 (by decide) (by decide) (by decide) (by decide)
       refine aw_exit <| ath_e ?_
       refine ath_e <| abl_hit ?_
       refine ath_n <| aw_seq ?_
       refine aw_region eqok [] [] [] [2] [2, 100000] [] ⟨[(2, tP 2 0)], [(2, Z25 v7_1 l), (100000, .row 7 v7_1.length (rowF TEdge.c v7_1) 33)]⟩ .nil kr .nil <| ath_n <| aw_ret ?_
       exact ⟨_, Cv.trans (cv_fz (⟨[(2, tP 2 0)], [(2, .cells [.i 1, lst 7 TEdge.c v7_1, .i ((FNext ((FNext (Z1D l) 6).2) 6).1)] 36)]⟩) 100000 7 v7_1.length (rowF TEdge.c v7_1) 33 (K := []) (fun k x h => by cases h) kr kr (.cons ⟨rfl, rfl⟩ .nil) kr) (Cv.refl _), .inl rfl, .av (.agg [.i 1, lst 7 TEdge.c v7_1, .i ((FNext ((FNext (Z1D l) 6).2) 6).1)]), by kernel_rfl, tve_eq (by rw [<- hF0]; first | (simp only [FMade10_l0, h5, cond_true, cond_false] <;> rfl))⟩
theorem okMade10 (l : (List Int)) (hl : (l.length : Int) <= 9223372036854775807) : CallOk Try.prog (cMade10 l).1 (cMade10 l).2.1 (cMade10 l).2.2 := callOk_pure (fun _ _ => kr) fun _ => pMade10 l hl
end
section
open Go.RowKit
theorem loop_len (l : List TPoint) : ∀ (n : Nat) (s : List TEdge) (k : Int), (FLoop_l0 l n s k).Edges.length <= s.length + ((l.length : Int) - k).toNat
 | 0, s, k => Nat.zero_le _
 | n + 1, s, k => by
  unfold FLoop_l0
  by_cases h : k < (l.length : Int)
  ·rw [decide_eq_true h]
   simp only [cond_true]
   have := loop_len l n (s ++ [TEdge.mk 1 (l.getD k.toNat default) (Z1w l k) (TPoint.mk 0 0)]) (k + 1)
   rw [List.length_append] at this
   simp only [List.length_cons, List.length_nil] at this
   omega
  ·rw [decide_eq_false h]
   simp only [cond_false]
   omega
theorem path10_len (l : List Int) : ∀ (n : Nat) (s : List TEdge) (p : TPoint) (d : TDraw) (k : Int), (FMade10_l0 l n s p d k).Edges.length <= s.length + (W64 (1 + ((FNext ((FNext ((FNext (Z1D l) 6).2) 6).2) 3).1)) - k).toNat
 | 0, s, p, d, k => Nat.zero_le _
 | n + 1, s, p, d, k => by
  unfold FMade10_l0
  by_cases h : k < W64 (1 + ((FNext ((FNext ((FNext (Z1D l) 6).2) 6).2) 3).1))
  ·rw [decide_eq_true h]
   simp only [cond_true]
   refine Nat.le_trans (path10_len l n _ _ _ (k + 1)) ?_
   rw [List.length_append]
   simp only [List.length_cons, List.length_nil]
   omega
  ·rw [decide_eq_false h]
   simp only [cond_false]
   omega
theorem made10_len (l : List Int) : ((FMade10 l).Edges.length : Int) <= 1000000 := by
 have hb := (next_b ((FNext ((FNext (Z1D l) 6).2) 6).2) 3 (by decide) (by decide))
 have hw : W64 (1 + ((FNext ((FNext ((FNext (Z1D l) 6).2) 6).2) 3).1)) <= 3 := by rw [W64_id (by omega) (by omega)]; omega
 unfold FMade10
 cases decide ((((FNext (Z1D l) 6).1) : Int) = 0) with
 | true =>
  simp only [cond_true]
  unfold Z1J FRectR Z1z FLoop
  refine Int.le_trans (Int.ofNat_le.2 (loop_len _ _ _ _)) ?_
  simp
 | false =>
  simp only [cond_false]
  cases decide ((((FNext (Z1D l) 6).1) : Int) = 1) with
  | true => exact (by decide : ((8 : Nat) : Int) <= 1000000)
  | false =>
   simp only [cond_false]
   cases decide ((((FNext (Z1D l) 6).1) : Int) = 2) with
   | true => exact (by decide : ((3 : Nat) : Int) <= 1000000)
   | false =>
    simp only [cond_false]
    cases decide ((((FNext (Z1D l) 6).1) : Int) = 3) with
    | true => exact (by decide : ((1 : Nat) : Int) <= 1000000)
    | false =>
     simp only [cond_false]
     refine Int.le_trans (Int.ofNat_le.2 (path10_len _ _ _ _ _ _)) ?_
     simp only [List.length_nil]
     omega
end
section
open Go.RowKit Go.MapKept
section
variable {P : Program}
def Wr2 (P : Program) (f : FuncId) (K L : Nat) (xs : List Av) (b0 d0 : Blk) (r : Tv) (b1 d1 : Blk) : Prop := ∀ (M : Nat -> Option Obj) (σ : Nat -> Loc) (w : World) (args : List Value), (∀ b o, M b = some o -> w.heap[b]? = some o) ->
 (BlkOk M σ w (σ K) b0 /\ (σ K).nil = false /\ M (σ K).b = none) -> (BlkOk M σ w (σ L) d0 /\ (σ L).nil = false /\ M (σ L).b = none) -> (σ K).b ≠ (σ L).b -> L2 (RA M σ) xs args ->
 Calls P f args.toArray w fun en w' => ∃ U, en = .returned U /\ ∃ M', Keep w w' M M' (fun b => only (σ K) b \/ only (σ L) b) /\ (∀ σ', RT M' σ' r U) /\ (∀ σ', BlkOk M' σ' w' (σ K) b1) /\ ∀ σ', BlkOk M' σ' w' (σ L) d1
theorem wr2_of_awF {f : FuncId} {fn : Func} {c : Code} (hf : P.funcs[f]? = some fn) (hb : fn.body = some c) {K L : Nat} {xs : List Av} {b0 d0 b1 d1 : Blk} {r : Tv} (hN : Nat.ble xs.length fn.ntmps = true) (hK : Nat.ble fn.ntmps K = true) (hL : Nat.ble fn.ntmps L = true) (hKL : Nat.beq K L = false) (hd : r.dv = true) (hd1 : capOk b1 = true) (hd2 : capOk d1 = true)
  (h : ∀ (W0 : World) (M0 : Nat -> Option Obj) (X : Nat -> Option Loc), (∀ k x, X k = some x -> memO [K, L] k = true) -> AWp P none fn.ntmps W0 X M0 c (EndQ P fn.ntmps W0 X M0 fn fun r' s' => TvE r' r /\ (∃ b, get s'.h K = some b /\ BlkE b b1) /\ ∃ b, get s'.h L = some b /\ BlkE b d1) ⟨entryT 0 xs, [(K, b0), (L, d0)]⟩) : Wr2 P f K L xs b0 d0 r b1 d1 := by
 intro M σ w args himm ⟨hblk, hnil, hM⟩ ⟨hblk2, hnil2, hM2⟩ hbne hargs
 have hne : K ≠ L := fun e => by rw [e, Nat.beq_refl] at hKL; cases hKL
 let X : Nat -> Option Loc := upd (upd noX K (some (σ K))) L (some (σ L))
 have hXL : X L = some (σ L) := upd_same _ _ _
 have hXK : X K = some (σ K) := by
  show upd _ L _ K = _
  rw [upd_ne _ _ hne]; exact upd_same _ _ _
 have one : ∀ n b, get [(K, b0), (L, d0)] n = some b -> (n = K /\ b = b0) \/ (n = L /\ b = d0) := fun n b hn => by
  simp only [get, beqN] at hn
  by_cases hk : K = n
  ·simp [hk] at hn; exact .inl ⟨hk.symm, hn.symm⟩
  ·by_cases hl : L = n
   ·simp [hk, hl] at hn; exact .inr ⟨hl.symm, hn.symm⟩
   ·simp [hk, hl] at hn
 have pins : ∀ n x, X n = some x -> (n = K /\ x = σ K) \/ (n = L /\ x = σ L) := fun n x hx => by
  by_cases hl : n = L
  ·subst hl; rw [hXL] at hx; injection hx with hx; exact .inr ⟨rfl, hx.symm⟩
  ·by_cases hk : n = K
   ·subst hk; rw [hXK] at hx; injection hx with hx; exact .inl ⟨rfl, hx.symm⟩
   ·simp only [X] at hx; rw [upd_ne _ _ hl, upd_ne _ _ hk] at hx; cases hx
 have hXm : ∀ k x, X k = some x -> memO [K, L] k = true := fun k x hk => by
  rcases pins k x hk with ⟨rfl, _⟩ | ⟨rfl, _⟩
  ·unfold memO; rw [Nat.beq_refl]; rfl
  ·unfold memO; rw [hKL]; exact memO_one _
 refine calls_of_aw (X := X) (σ := σ) (h0 := [(K, b0), (L, d0)]) hf hb (Nat.le_of_ble_eq_true hN) himm hargs (fun n b hn => ?_) (fun n b hn => ?_) (fun n x hx => ?_) (fun n m b c hn hm hnm => ?_) (aw_cvend (h w M X hXm)) ?_
 ·rcases one n b hn with ⟨rfl, rfl⟩ | ⟨rfl, rfl⟩
  ·exact hblk
  ·exact hblk2
 ·rcases one n b hn with ⟨rfl, rfl⟩ | ⟨rfl, rfl⟩
  ·exact .inr ⟨hM, n, σ n, hXK, rfl⟩
  ·exact .inr ⟨hM2, n, σ n, hXL, rfl⟩
 ·rcases pins n x hx with ⟨rfl, rfl⟩ | ⟨rfl, rfl⟩
  ·exact ⟨Nat.le_of_ble_eq_true hK, rfl⟩
  ·exact ⟨Nat.le_of_ble_eq_true hL, rfl⟩
 ·rcases one n b hn with ⟨rfl, rfl⟩ | ⟨rfl, rfl⟩ <;> rcases one m c hm with ⟨rfl, rfl⟩ | ⟨rfl, rfl⟩
  ·exact absurd rfl hnm
  ·exact .inr (.inr hbne)
  ·exact .inr (.inr fun e => hbne e.symm)
  ·exact absurd rfl hnm
 ·rintro r' s' M' σ' a' w' U ⟨he, ⟨b, hb1, hbe⟩, e, he1, hee⟩ hs hR
  have hpin := (hs.pin K _ hXK).2
  have hbk := hs.blk K _ hb1
  rw [hpin] at hbk
  have hpin2 := (hs.pin L _ hXL).2
  have hbk2 := hs.blk L _ he1
  rw [hpin2] at hbk2
  refine ⟨U, rfl, M', ⟨hs.os, hs.tape, hs.output, hs.size, fun b hb hne => hs.old b hb ?_, hs.sub, hs.new, hs.imm⟩, fun σ'' => RT_any hd (RT_TvE he hR), fun σ'' => BlkOk_any hd1 (BlkOk_E hbe hbk), fun σ'' => BlkOk_any hd2 (BlkOk_E hee hbk2)⟩
  rintro ⟨n, x, hx, rfl⟩
  rcases pins n x hx with ⟨rfl, rfl⟩ | ⟨rfl, rfl⟩
  ·exact hne (.inl ⟨hnil, rfl⟩)
  ·exact hne (.inr ⟨hnil2, rfl⟩)
def renA2 (K n L m : Nat) : Av -> Av
 | .one (.ptr q off) => .one (.ptr (bif Nat.beq q K then n else bif Nat.beq q L then m else q) off)
 | x => x
def renOk2 (K L : Nat) : Av -> Bool
 | .one (.ptr q _) => bif Nat.beq q K then true else Nat.beq q L
 | x => x.dv
def wr2I (n m : Nat) (b0 d0 : Blk) (r : Tv) (b1 d1 : Blk) : Ef := .wrs [n, m] [] fun bs _ => some ([bs = [b0, d0]], r, [b1, d1])
theorem keep_mono {w w' : World} {M M' : Nat -> Option Obj} {p q : Nat -> Prop} (h : Keep w w' M M' p) (hp : ∀ b, p b -> q b) : Keep w w' M M' q :=
 ⟨h.os, h.tape, h.output, h.size, fun b hb hn => h.old b hb fun h1 => hn (hp b h1), h.sub, h.new, h.imm⟩
theorem callOk_wr2 {f : FuncId} {K L n m : Nat} {xs : List Av} {b0 d0 b1 d1 : Blk} {r : Tv} (h1 : ∀ args w, (callFunc f args).run P w = .ok (.enter f args) w) (hx : xs.all (renOk2 K L) = true) (hKL : Nat.beq K L = false) (hnm : Nat.beq n m = false) (hd0 : capOk b0 = true) (hd2 : capOk d0 = true) (h : Wr2 P f K L xs b0 d0 r b1 d1) : CallOk P f (xs.map (renA2 K n L m)) (wr2I n m b0 d0 r b1 d1) := by
 have hne : K ≠ L := fun e => by rw [e, Nat.beq_refl] at hKL; cases hKL
 have hnm' : n ≠ m := fun e => by rw [e, Nat.beq_refl] at hnm; cases hnm
 refine .inl ⟨h1, fun M σ w hh args cs' g hs hargs hres hc => ?_⟩
 simp only [wr2I, res, geth] at hres
 cases hn : hh n with
 | none => rw [hn] at hres; cases hres
 | some b =>
  cases hm : hh m with
  | none => rw [hn, hm] at hres; cases hres
  | some d =>
   rw [hn, hm] at hres
   simp only [List.length_cons, List.length_nil, Nat.beq_refl, Option.some.injEq, Prod.mk.injEq] at hres
   obtain ⟨rfl, rfl⟩ := hres
   have hbd := hc.head
   injection hbd with e1 e2
   injection e2 with e2 _
   subst e1; subst e2
   have hblk := hs.blk n _ hn
   have hblk2 := hs.blk m _ hm
   have nilOf : ∀ {q : Nat} {bq : Blk}, capOk bq = true -> BlkOk M σ w (σ q) bq -> (σ q).nil = false := fun {q bq} hd hb => by
    cases bq with
    | row => cases hd
    | omap => cases hd
    | rowx => cases hd
    | cells l ty => exact hb.1
   have hnil := nilOf hd0 hblk
   have hnil2 := nilOf hd2 hblk2
   have hM : M (σ n).b = none := by
    rcases hs.loc n _ hn with h | h
    ·rw [hnil] at h; cases h
    ·exact h
   have hM2 : M (σ m).b = none := by
    rcases hs.loc m _ hm with h | h
    ·rw [hnil2] at h; cases h
    ·exact h
   have hbne : (σ n).b ≠ (σ m).b := by
    rcases hs.inj n m _ _ hn hm hnm' with h | h | h
    ·rw [hnil] at h; cases h
    ·rw [hnil2] at h; cases h
    ·exact h
   let σ2 : Nat -> Loc := upd (upd σ K (σ n)) L (σ m)
   have hL : σ2 L = σ m := upd_same _ _ _
   have hK : σ2 K = σ n := by
    show upd _ L _ K = _
    rw [upd_ne _ _ hne]; exact upd_same _ _ _
   have hargs2 : L2 (RA M σ2) xs args := by
    refine L2.of (by have := hargs.length; simpa using this) fun i x V hxi hV => ?_
    obtain ⟨V', hV', hR⟩ := hargs.get i (renA2 K n L m x) (by rw [List.getElem?_map, hxi]; rfl)
    rw [hV] at hV'; injection hV' with hV'; subst hV'
    have hok := (List.all_eq_true.1 hx) x (List.mem_of_getElem? hxi)
    unfold renOk2 at hok
    split at hok
    ·rename_i q off
     by_cases hq : q = K
     ·subst hq
      simp only [renA2, Nat.beq_refl, cond_true] at hR
      have hR' : V = .pointer (some ⟨(σ n).b, off, none⟩) := hR
      show V = .pointer (some ⟨(σ2 q).b, off, none⟩)
      rw [hK]; exact hR'
     ·have hqb : Nat.beq q K = false := by
       cases hb : Nat.beq q K with
       | false => rfl
       | true => exact absurd (Nat.eq_of_beq_eq_true hb) hq
      rw [hqb] at hok
      have := Nat.eq_of_beq_eq_true hok
      subst this
      simp only [renA2, hqb, Nat.beq_refl, cond_true, cond_false] at hR
      have hR' : V = .pointer (some ⟨(σ m).b, off, none⟩) := hR
      show V = .pointer (some ⟨(σ2 q).b, off, none⟩)
      rw [hL]; exact hR'
    ·rename_i hnp
     have : renA2 K n L m x = x := by
      unfold renA2
      split
      ·rename_i q off; exact (hnp q off rfl).elim
      ·rfl
     rw [this] at hR
     exact RT_any (σ' := σ2) (r := .av x) hok hR
   refine (h M σ2 w args hs.imm (by rw [hK]; exact ⟨BlkOk_any hd0 hblk, hnil, hM⟩) (by rw [hL]; exact ⟨BlkOk_any hd2 hblk2, hnil2, hM2⟩) (by rw [hK, hL]; exact hbne) hargs2).mono ?_
   rintro en w' ⟨U, hU, M', hk, hR, hb, hb2⟩
   rw [hK, hL] at hk
   have g1 : get ([n, m].zip [b1, d1]) n = some b1 := by simp [get, beqN]
   have g2 : get ([n, m].zip [b1, d1]) m = some d1 := by simp [get, beqN, hnm']
   refine ⟨U, hU, fun dst _ => ⟨M', σ, keep_mono hk fun b hb => ?_, rfl, hR σ, fun q bq hq => ?_⟩⟩
   ·rcases hb with h | h
    ·exact ⟨n, by rw [g1]; rfl, h⟩
    ·exact ⟨m, by rw [g2]; rfl, h⟩
   ·have h1 := hb σ
    have h2 := hb2 σ
    rw [hK] at h1
    rw [hL] at h2
    by_cases e : q = n
    ·subst e; rw [g1] at hq; injection hq with hq; subst hq; exact h1
    ·by_cases e2 : q = m
     ·subst e2; rw [g2] at hq; injection hq with hq; subst hq; exact h2
     ·simp [get, beqN, Ne.symm e, Ne.symm e2] at hq
end
end
section
open Go.RowKit Go.MapKept
section
variable {P : Program} {rd : Option Nat} {N : Nat} {W0 : World} {X : Nat → Option Loc} {M0 : Nat → Option Obj} {Q : Exit → AS → Prop} {s : AS}
theorem aw_by {c : Code} (b : Bool) (h1 : b = true -> AWp P rd N W0 X M0 c Q s) (h2 : b = false -> AWp P rd N W0 X M0 c Q s) : AWp P rd N W0 X M0 c Q s := by
 cases hb : b with
 | true => exact h1 hb
 | false => exact h2 hb
def AWL (P : Program) (rd : Option Nat) (N : Nat) (W0 : World) (X : Nat -> Option Loc) (M0 : Nat -> Option Obj) (ops : Array Oper) (l : List Oper) (K : AS -> Prop) (s : AS) : Prop :=
 ∀ M σ a w, Sim N W0 X M0 M σ (get s.t) (get s.h) a w -> ∀ Q' : Exit -> Act -> World -> Prop, (∀ s' M' σ' a' w', K s' -> Sim N W0 X M0 M' σ' (get s'.t) (get s'.h) a' w' -> Q' .normal a' w') -> wpListIn (FW rd) 0 P ops Q' l a w
theorem aw_regionL {id : Nat} {l : List Oper} (h : AWL P rd N W0 X M0 l.toArray l (Q .normal) s) : AWp P rd N W0 X M0 (.region id l.toArray false) Q s := by
 intro M σ a w hs
 exact wpIn_region_lit (h M σ a w hs _ fun s' M' σ' a' w' hk hs' => ⟨s', M', σ', hk, hs'⟩)
theorem runL_okA {V : Env P} (hV : EnvOk P V) {ops : Array Oper} {Q' : Exit -> Act -> World -> Prop} (l2 : List Oper) : ∀ (l : List Oper) (s s1 : AS) (cs : List Prop), runL P V N ops l s = some (cs, s1) -> AllP cs -> ∀ M σ a w, Sim N W0 X M0 M σ (get s.t) (get s.h) a w -> (∀ M' σ' a' w', Sim N W0 X M0 M' σ' (get s1.t) (get s1.h) a' w' -> wpListIn (FW rd) 0 P ops Q' l2 a' w') -> wpListIn (FW rd) 0 P ops Q' (l ++ l2) a w
 | [], s, s1, cs, hr, hc, M, σ, a, w, hs, hK => by
  simp only [runL, Option.some.injEq, Prod.mk.injEq] at hr
  obtain ⟨_, rfl⟩ := hr
  exact hK M σ a w hs
 | o :: l, s, s1, cs, hr, hc, M, σ, a, w, hs, hK => by
  simp only [runL] at hr
  split at hr
  ·rename_i cs1 s2 h1
   split at hr
   ·rename_i ds s3 h2
    simp only [Option.some.injEq, Prod.mk.injEq] at hr
    obtain ⟨rfl, rfl⟩ := hr
    obtain ⟨hc1, hc2⟩ := hc.append
    refine wpListIn_step fun K hK' => ?_
    refine step_any hV h1 hc1 hs (fun _ _ => rfl) (fun _ _ => rfl) (fun hn d hd => step_fresh h1 hn hd) fun M' σ' a' w' hs' => hK' _ _ (runL_okA hV l2 l s2 s3 ds h2 hc2 M' σ' a' w' ?_ hK)
    rw [(step_frame h1).1, (step_frame h1).2]
    exact hs'
   ·cases hr
  ·cases hr
def runKO (P : Program) (V : Env P) (N : Nat) (ops : Array Oper) (l : List Oper) (ts hs : List Nat) (s : AS) : Option (List Prop × AS) := match runL P V N ops l s with
 | some (cs, s1) => some (cs, keepS ts hs s1)
 | none => none
theorem awl_run {E : TypeId -> Option (List Kd)} (hE : EqOk P ⟨fun _ => none, E, fun _ => false, fun _ => none⟩) {ops : Array Oper} {l : List Oper} {K : AS -> Prop} (k : Nat) (ow : List Nat) (qs : List (Nat × (Bool × Nat))) (tbl : List (Nat × FuncId × List Av × Ef)) (ts ns : List Nat) (cs : List Prop) (S : AS) (htbl : TblOk P tbl)
  (hr : runKO P ⟨getO tbl, E, memO ow, get qs⟩ N ops (l.take k) ts ns s = some (cs, S)) (hc : AllP cs) (h : AWL P rd N W0 X M0 ops (l.drop k) K S) : AWL P rd N W0 X M0 ops l K s := by
 have hV := htbl.env (O := memO ow) (q := get qs) hE
 intro M σ a w hs Q' hQ'
 unfold runKO at hr
 split at hr
 ·rename_i cs1 s1 h1
  simp only [Option.some.injEq, Prod.mk.injEq] at hr
  obtain ⟨rfl, rfl⟩ := hr
  have key := runL_okA (Q' := Q') (rd := rd) hV (l.drop k) (l.take k) s s1 cs1 h1 hc M σ a w hs fun M' σ' a' w' hs' => h M' σ' a' w' (sim_keep hs' ts ns) Q' hQ'
  rw [List.take_append_drop] at key
  exact key
 ·cases hr
theorem awl_last {E : TypeId -> Option (List Kd)} (hE : EqOk P ⟨fun _ => none, E, fun _ => false, fun _ => none⟩) {ops : Array Oper} {l : List Oper} {K : AS -> Prop} (ow : List Nat) (qs : List (Nat × (Bool × Nat))) (tbl : List (Nat × FuncId × List Av × Ef)) (ts ns : List Nat) (cs : List Prop) (S : AS) (htbl : TblOk P tbl)
  (hr : runKO P ⟨getO tbl, E, memO ow, get qs⟩ N ops l ts ns s = some (cs, S)) (hc : AllP cs) (h : K S) : AWL P rd N W0 X M0 ops l K s := by
 have hV := htbl.env (O := memO ow) (q := get qs) hE
 intro M σ a w hs Q' hQ'
 unfold runKO at hr
 split at hr
 ·rename_i cs1 s1 h1
  simp only [Option.some.injEq, Prod.mk.injEq] at hr
  obtain ⟨rfl, rfl⟩ := hr
  exact runL_ok (Q' := Q') (rd := rd) hV l s s1 cs1 h1 hc M σ a w hs fun M' σ' a' w' hs' => hQ' _ M' σ' a' w' h (sim_keep hs' ts ns)
 ·cases hr
theorem cv_blk (n : Nat) (b b' : Blk) (hn : get s.h n = some b) (hb : ∀ M σ w x, BlkOk M σ w x b -> BlkOk M σ w x b') : Cv N W0 X M0 s ⟨s.t, put s.h n b'⟩ := by
 intro M σ a w hs
 have hk : ∀ m c, get (put s.h n b') m = some c -> ∃ b0, get s.h m = some b0 /\ (BlkOk M σ w (σ m) b0 -> BlkOk M σ w (σ m) c) := fun m c hm => by
  rw [get_put] at hm
  split at hm
  ·rename_i e
   subst e
   injection hm with hm
   subst hm
   exact ⟨b, hn, hb M σ w _⟩
  ·exact ⟨c, hm, id⟩
 refine ⟨M, σ, hs.os, hs.tape, hs.output, hs.size, hs.old, hs.sub, hs.new, hs.pin, hs.defers, hs.room, hs.tmps, hs.imm, fun m c hm => ?_, fun m c hm => ?_, fun m k c c' hm hk' hne => ?_⟩
 ·obtain ⟨b0, e1, e2⟩ := hk m c hm; exact e2 (hs.blk m b0 e1)
 ·obtain ⟨b0, e1, _⟩ := hk m c hm; exact hs.loc m b0 e1
 ·obtain ⟨b0, e1, _⟩ := hk m c hm; obtain ⟨b0', e1', _⟩ := hk k c' hk'; exact hs.inj m k b0 b0' e1 e1' hne
def enumL : Nat -> List (List Cl) -> List (Nat × List Cl)
 | _, [] => []
 | k, l :: r => (k, l) :: enumL (k + 1) r
theorem get_enumL : ∀ (ls : List (List Cl)) (k i : Nat), get (enumL k ls) i = if k <= i then ls[i - k]? else none
 | [], k, i => by simp [enumL, get]
 | l :: r, k, i => by
  simp only [enumL, get, beqN]
  by_cases h : k = i
  ·subst h; simp
  ·simp only [h, decide_false, cond_false]
   rw [get_enumL r (k + 1) i]
   by_cases h2 : k <= i
   ·rw [if_pos (by omega), if_pos h2, show i - k = (i - (k + 1)) + 1 by omega, List.getElem?_cons_succ]
   ·rw [if_neg (by omega), if_neg h2]
theorem cv_holes {s : AS} (S : AS) (n sz len : Nat) (f : Nat -> Nat -> Cl) (ty : TypeId) (hn : get s.h n = some (.row sz len f ty)) (hl : Nat.blt 0 len = true) (hS : (⟨s.t, put s.h n (.rowx sz len (fun _ _ => default) ty (enumL 0 ((List.range len).map fun i => cellsF f i 0 sz)))⟩ : AS) = S) : Cv N W0 X M0 s S := by
 subst hS
 have h0 : 0 < len := by
  have h1 : Nat.ble (0 + 1) len = true := hl
  exact Nat.le_of_ble_eq_true h1
 refine cv_blk n _ _ hn fun M σ w x hb => ?_
 rcases hb with ⟨_, h⟩ | ⟨e0, c, e1, e2, e3, e4, g, e5⟩
 ·omega
 refine ⟨e0, c, e1, e2, e3, e4, g, fun i j hi hj => ⟨(e5 i j hi hj).1, fun hno => ?_⟩, fun i l hl => ?_⟩
 ·rw [get_enumL] at hno
  simp [hi] at hno
 ·rw [get_enumL, if_pos (Nat.zero_le _), Nat.sub_zero, List.getElem?_map] at hl
  by_cases hi : i < len
  ·rw [List.getElem?_range hi] at hl
   simp only [Option.map_some, Option.some.injEq] at hl
   subst hl
   refine ⟨hi, L2.of (by simp [length_cellsF]) fun j a b ha hb => ?_⟩
   have hj : j < sz := by have := (List.getElem?_eq_some_iff.1 ha).1; rwa [length_cellsF] at this
   rw [get_cellsF _ _ _ _ _ hj, Nat.zero_add] at ha
   injection ha with ha
   subst ha
   rw [List.getElem?_map, List.getElem?_range hj] at hb
   simp only [Option.map_some, Option.some.injEq] at hb
   subst hb
   exact RC_R (e5 i j hi hj).2
  ·rw [List.getElem?_eq_none (by simp; omega)] at hl
   cases hl
theorem cv_close {s : AS} (S : AS) (n sz len : Nat) (f : Nat -> Nat -> Cl) (ty : TypeId) (ls : List (List Cl)) (hn : get s.h n = some (.rowx sz len f ty (enumL 0 ls))) (hlen : Nat.beq ls.length len = true) (hsz : ls.all (fun l => Nat.beq l.length sz && l.all Cl.dv) = true) (hS : (⟨s.t, put s.h n (.row sz len (colsC sz len ls.flatten) ty)⟩ : AS) = S) : Cv N W0 X M0 s S := by
 subst hS
 have hlen := Nat.eq_of_beq_eq_true hlen
 refine cv_blk n _ _ hn fun M σ w x hb => ?_
 obtain ⟨e0, c, e1, e2, e3, e4, g, e5, e6⟩ := hb
 refine .inr ⟨e0, c, e1, e2, e3, e4, g, fun i j hi hj => ⟨(e5 i j hi hj).1, ?_⟩⟩
 have hil : i < ls.length := by omega
 have hmem := List.getElem_mem hil
 have hall := (List.all_eq_true.1 hsz) _ hmem
 simp only [Bool.and_eq_true] at hall
 have hli := Nat.eq_of_beq_eq_true hall.1
 obtain ⟨_, hL⟩ := e6 i ls[i] (by rw [get_enumL, if_pos (Nat.zero_le _), Nat.sub_zero, List.getElem?_eq_getElem hil])
 have hflat : ∀ (q : List (List Cl)) (i j : Nat) (hi : i < q.length), (∀ l ∈ q, l.length = sz) -> j < sz -> q.flatten[i * sz + j]? = q[i][j]? := by
  intro q
  induction q with
  | nil => intro i j hi; simp at hi
  | cons l r ih =>
   intro i j hi hall hj
   have h1 := hall l (by simp)
   cases i with
   | zero => simp [List.getElem?_append, h1, hj]
   | succ i =>
    rw [List.flatten_cons, List.getElem?_append_right (by rw [h1, Nat.add_mul]; omega), h1, show (i + 1) * sz + j - sz = i * sz + j by rw [Nat.add_mul]; omega]
    simpa using ih i j (by simpa using hi) (fun l hl => hall l (by simp [hl])) hj
 have hjl : j < ls[i].length := by omega
 rw [colsC_ok _ _ _ _ _ hi, List.getD_eq_getElem?_getD, hflat ls i j hil (fun l hl => by
  have h := (List.all_eq_true.1 hsz) l hl
  simp only [Bool.and_eq_true] at h
  exact Nat.eq_of_beq_eq_true h.1) hj, List.getElem?_eq_getElem hjl, Option.getD_some]
 obtain ⟨v, hv, hR⟩ := hL.get j _ (List.getElem?_eq_getElem hjl)
 rw [List.getElem?_map, List.getElem?_range hj] at hv
 simp only [Option.map_some, Option.some.injEq] at hv
 subst hv
 exact RC_of_dv ((List.all_eq_true.1 hall.2) _ (List.getElem_mem hjl)) hR
end
end
section
open Go.RowKit Go.MapKept
def selC (is : List Nat) : Nat -> List Cl -> List Cl -> List Cl
 | k, x :: a, y :: b => (bif memO is k then x else y) :: selC is (k + 1) a b
 | _, _, _ => []
def selV (is : List Nat) (vs : Nat -> Value) : Nat -> List Cl -> List Cl
 | k, y :: b => (bif memO is k then .val (vs k) else y) :: selV is vs (k + 1) b
 | _, [] => []
section
variable {P : Program} {M M' : Nat → Option Obj} {σ σ' : Nat → Loc} {w w' : World}
theorem selV_in (is : List Nat) (vs : Nat -> Value) : ∀ (k : Nat) (l l0 : List Cl) (c : List Value), l = selC is k l l0 -> l.length = l0.length -> (∀ j, j < c.length -> vs (k + j) = c.getD j undef) -> (∀ x ∈ l0, x.dv = true \/ True) -> L2 (R M σ) l c -> L2 (R M σ) (selV is vs k l0) c
 | k, [], [], c, _, _, _, _, h => by cases h; exact .nil
 | k, [], _ :: _, c, _, hl, _, _, h => by simp at hl
 | k, _ :: _, [], c, _, hl, _, _, h => by simp at hl
 | k, x :: l, y :: l0, c, he, hl, hv, hd, h => by
  cases h with
  | cons h1 h2 =>
   rename_i v c
   simp only [selC, List.cons.injEq] at he
   refine .cons ?_ (selV_in is vs (k + 1) l l0 c he.2 (by simpa using hl) (fun j hj => by
    have := hv (j + 1) (by simp; omega)
    rw [show k + 1 + j = k + (j + 1) by omega, this]; rfl) (fun x hx => .inr trivial) h2)
   cases hm : memO is k with
   | true =>
    have := hv 0 (by simp)
    simp only [cond_true]
    exact ⟨by rw [show k = k + 0 from rfl, this]; rfl, by rw [show k = k + 0 from rfl, this]; exact R_one h1⟩
   | false =>
    rw [hm] at he
    simp only [cond_false] at he ⊢
    rw [<- he.1]; exact h1
theorem selV_out (is : List Nat) (vs : Nat -> Value) (hM : ∀ b o, M b = some o -> M' b = some o) : ∀ (k : Nat) (l l1 : List Cl) (c c' : List Value), l.length = l1.length -> (∀ j, j < c.length -> vs (k + j) = c.getD j undef) -> L2 (R M σ) l c -> L2 (R M' σ) (selV is vs k l1) c' -> L2 (R M' σ) (selC is k l l1) c'
 | k, [], [], c, c', _, _, _, h => by cases h; exact .nil
 | k, [], _ :: _, c, c', hl, _, _, h => by simp at hl
 | k, _ :: _, [], c, c', hl, _, _, h => by simp at hl
 | k, x :: l, y :: l1, c, c', hl, hv, h0, h => by
  cases h0 with
  | cons h1 h2 =>
   rename_i v c
   simp only [selV] at h
   cases h with
   | cons h3 h4 =>
    simp only [selC]
    refine .cons ?_ (selV_out is vs hM (k + 1) l l1 c _ (by simpa using hl) (fun j hj => by
     have := hv (j + 1) (by simp; omega)
     rw [show k + 1 + j = k + (j + 1) by omega, this]; rfl) h2 h4)
    cases hm : memO is k with
    | true =>
     rw [hm] at h3
     have h5 := h3.1
     have h6 := hv 0 (by simp)
     rw [h5, show k = k + 0 from rfl, h6]
     exact R_mono hM (fun _ _ => rfl) h1
    | false => rw [hm] at h3; exact h3
theorem wr2_use {hh : Nat -> Option Blk} {f : FuncId} {K L n m : Nat} {xs : List Av} {args : List Value} {b d b0 d0 b1 d1 : Blk} {r : Tv} (hx : xs.all (renOk2 K L) = true) (hKL : Nat.beq K L = false) (hnm' : n ≠ m) (hs : Std M σ w hh) (hn : hh n = some b) (hm : hh m = some d) (hnil : (σ n).nil = false) (hnil2 : (σ m).nil = false) (hblk : ∀ σ', (∀ q, q ≠ K -> q ≠ L -> σ' q = σ q) -> BlkOk M σ' w (σ n) b0) (hblk2 : ∀ σ', BlkOk M σ' w (σ m) d0)
  (hargs : L2 (RA M σ) (xs.map (renA2 K n L m)) args) (h : Wr2 P f K L xs b0 d0 r b1 d1) : Calls P f args.toArray w (fun en w' => ∃ U, en = .returned U /\ ∃ M', Keep w w' M M' (fun b => only (σ n) b \/ only (σ m) b) /\ (∀ σ', RT M' σ' r U) /\ (∀ σ', BlkOk M' σ' w' (σ n) b1) /\ ∀ σ', BlkOk M' σ' w' (σ m) d1) := by
 have hne : K ≠ L := fun e => by rw [e, Nat.beq_refl] at hKL; cases hKL
 have hM : M (σ n).b = none := by
  rcases hs.loc n _ hn with h | h
  ·rw [hnil] at h; cases h
  ·exact h
 have hM2 : M (σ m).b = none := by
  rcases hs.loc m _ hm with h | h
  ·rw [hnil2] at h; cases h
  ·exact h
 have hbne : (σ n).b ≠ (σ m).b := by
  rcases hs.inj n m _ _ hn hm hnm' with h | h | h
  ·rw [hnil] at h; cases h
  ·rw [hnil2] at h; cases h
  ·exact h
 let σ2 : Nat -> Loc := upd (upd σ K (σ n)) L (σ m)
 have hL : σ2 L = σ m := upd_same _ _ _
 have hK : σ2 K = σ n := by
  show upd _ L _ K = _
  rw [upd_ne _ _ hne]; exact upd_same _ _ _
 have hrest : ∀ q, q ≠ K -> q ≠ L -> σ2 q = σ q := fun q h1 h2 => by
  show upd _ L _ q = _
  rw [upd_ne _ _ h2, upd_ne _ _ h1]
 have hargs2 : L2 (RA M σ2) xs args := by
  refine L2.of (by have := hargs.length; simpa using this) fun i x V hxi hV => ?_
  obtain ⟨V', hV', hR⟩ := hargs.get i (renA2 K n L m x) (by rw [List.getElem?_map, hxi]; rfl)
  rw [hV] at hV'; injection hV' with hV'; subst hV'
  have hok := (List.all_eq_true.1 hx) x (List.mem_of_getElem? hxi)
  unfold renOk2 at hok
  split at hok
  ·rename_i q off
   by_cases hq : q = K
   ·subst hq
    simp only [renA2, Nat.beq_refl, cond_true] at hR
    have hR' : V = .pointer (some ⟨(σ n).b, off, none⟩) := hR
    show V = .pointer (some ⟨(σ2 q).b, off, none⟩)
    rw [hK]; exact hR'
   ·have hqb : Nat.beq q K = false := by
     cases hb : Nat.beq q K with
     | false => rfl
     | true => exact absurd (Nat.eq_of_beq_eq_true hb) hq
    rw [hqb] at hok
    have := Nat.eq_of_beq_eq_true hok
    subst this
    simp only [renA2, hqb, Nat.beq_refl, cond_true, cond_false] at hR
    have hR' : V = .pointer (some ⟨(σ m).b, off, none⟩) := hR
    show V = .pointer (some ⟨(σ2 q).b, off, none⟩)
    rw [hL]; exact hR'
  ·rename_i hnp
   have : renA2 K n L m x = x := by
    unfold renA2
    split
    ·rename_i q off; exact (hnp q off rfl).elim
    ·rfl
   rw [this] at hR
   exact RT_any (σ' := σ2) (r := .av x) hok hR
 refine (h M σ2 w args hs.imm (by rw [hK]; exact ⟨hblk σ2 hrest, hnil, hM⟩) (by rw [hL]; exact ⟨hblk2 σ2, hnil2, hM2⟩) (by rw [hK, hL]; exact hbne) hargs2).mono ?_
 rintro en w' ⟨U, hU, M', hk, hR, hb, hb2⟩
 rw [hK, hL] at hk
 refine ⟨U, hU, M', hk, hR, fun σ' => ?_, fun σ' => ?_⟩
 ·have := hb σ'; rw [hK] at this; exact this
 ·have := hb2 σ'; rw [hL] at this; exact this
def wqV (n m : Nat) (is : List Nat) (l0 : List Cl) (ty : TypeId) (d0 : Blk) (r : Tv) (d1 : Blk) : Ef := .wq m n fun y x => match x with
 | .cells l ty' => bif Nat.beq l.length l0.length then some ([Blk.cells l ty' = .cells (selC is 0 l l0) ty, y = d0], r, d1) else none
 | _ => none
theorem callOk_wqv {f : FuncId} {K L n m : Nat} {xs : List Av} {is : List Nat} {l0 : List Cl} {ty : TypeId} {d0 d1 : Blk} {r : Tv} {B0 : (Nat -> Value) -> List Cl} (h1 : ∀ args w, (callFunc f args).run P w = .ok (.enter f args) w) (hx : xs.all (renOk2 K L) = true) (hKL : Nat.beq K L = false) (hnm : Nat.beq n m = false) (hd2 : capOk d0 = true) (hdl : ∀ vs, (selV is vs 0 l0).all Cl.dv = true)
  (e0 : ∀ vs, selV is vs 0 l0 = B0 vs) (h : ∀ vs, Wr2 P f K L xs (.cells (B0 vs) ty) d0 r (.cells (B0 vs) ty) d1) : CallOk P f (xs.map (renA2 K n L m)) (wqV n m is l0 ty d0 r d1) := by
 have hnm' : n ≠ m := fun e => by rw [e, Nat.beq_refl] at hnm; cases hnm
 refine .inl ⟨h1, fun M σ w hh args cs' g hs hargs hres hc => ?_⟩
 simp only [wqV, res] at hres
 cases hm : hh m with
 | none => rw [hm] at hres; cases hres
 | some d =>
  cases hn : hh n with
  | none => rw [hn, hm] at hres; cases hres
  | some b =>
   rw [hn, hm] at hres
   cases b with
   | row => simp at hres
   | omap => simp at hres
   | rowx => simp at hres
   | cells l ty' =>
    simp only at hres
    cases hlen : Nat.beq l.length l0.length with
    | false => rw [hlen] at hres; simp at hres
    | true =>
     have hmn : Nat.beq m n = false := by
      cases hb : Nat.beq m n with
      | false => rfl
      | true => exact absurd (Nat.eq_of_beq_eq_true hb).symm hnm'
     rw [hlen, hmn] at hres
     simp only [cond_true, Option.some.injEq, Prod.mk.injEq] at hres
     obtain ⟨rfl, rfl⟩ := hres
     have hlen0 := Nat.eq_of_beq_eq_true hlen
     have hbd := hc.head
     have hdd := hc.tail.head
     subst hdd
     injection hbd with hl hty
     subst hty
     obtain ⟨hnil, c, hheap, hL⟩ := hs.blk n _ hn
     have hblk2 := hs.blk m _ hm
     have hnil2 : (σ m).nil = false := by
      cases d with
      | row => cases hd2
      | omap => cases hd2
      | rowx => cases hd2
      | cells l ty => exact hblk2.1
     let vs : Nat -> Value := fun k => c.getD k undef
     have hvs : ∀ j, j < c.length -> vs (0 + j) = c.getD j undef := fun j _ => by simp only [vs, Nat.zero_add]
     have hin : L2 (R M σ) (selV is vs 0 l0) c := selV_in is vs 0 l l0 c hl hlen0 hvs (fun _ _ => .inr trivial) hL
     have hcall := wr2_use (b0 := Blk.cells (B0 vs) ty') (b1 := Blk.cells (B0 vs) ty') hx hKL hnm' hs hn hm hnil hnil2 (fun σ' _ => ⟨hnil, c, hheap, by rw [<- e0 vs]; exact hin.mono fun a ha v hv => (R_dv ((List.all_eq_true.1 (hdl vs)) a ha)).2 ((R_dv ((List.all_eq_true.1 (hdl vs)) a ha)).1 hv)⟩) (fun σ' => BlkOk_any hd2 hblk2) hargs (h vs)
     refine hcall.mono ?_
     rintro en w' ⟨U, hU, M', hk, hR, hb, hb2⟩
     refine ⟨U, hU, fun dst _ => ⟨M', σ, keep_mono hk fun b hb => hb.symm, rfl, hR σ, hb2 σ, ?_⟩⟩
     obtain ⟨k1, c', k2, k3⟩ := hb σ
     refine ⟨k1, c', k2, ?_⟩
     rw [<- e0 vs] at k3
     have k4 := selV_out is vs hk.sub 0 l l0 c c' hlen0 hvs hL k3
     rw [<- hl] at k4
     exact k4
end
end
section
open Go.RowKit Go.MapKept
def stepT (P : Program) (V : Env P) (N : Nat) (o : Oper) (G : Prop) (s : AS) : Option (List Prop × AS) := match eff P V o.dst o.op (evG (get s.t) (stripL o.op)) with
 | some e => match res (get s.h) e with
  | some (cs, g) => bif goOk N s o.dst g then some (needG (get s.t) G (stripL o.op) ++ cs, goOn s o.dst g) else none
  | none => none
 | none => none
section
variable {P : Program} {rd : Option Nat} {N : Nat} {W0 : World} {X : Nat → Option Loc} {M0 : Nat → Option Obj} {s : AS}
theorem awl_take {E : TypeId -> Option (List Kd)} (hE : EqOk P ⟨fun _ => none, E, fun _ => false, fun _ => none⟩) {ops : Array Oper} {o : Oper} {l : List Oper} {K : AS -> Prop} (j : Nat) (want : Bool) (G : Prop) (qs : List (Nat × (Bool × Nat))) (tbl : List (Nat × FuncId × List Av × Ef)) (cs : List Prop) (S : AS) (hg : o.guard = some (j, want)) (hG : guardP (get s.t) ops j want = some G) (hGp : G) (htbl : TblOk P tbl)
  (hst : stepT P ⟨getO tbl, E, memO [], get qs⟩ N o G s = some (cs, S)) (hc : AllP cs) (h : AWL P rd N W0 X M0 ops l K S) : AWL P rd N W0 X M0 ops (o :: l) K s := by
 have hV := htbl.env (O := memO []) (q := get qs) hE
 intro M σ a w hs Q' hQ'
 refine wpListIn_step fun K0 hK' => ?_
 rw [if_pos ((wanted_guard hs.tmps hs.room hg hG).2 hGp)]
 unfold stepT at hst
 split at hst
 ·rename_i e he
  split at hst
  ·rename_i cs' g hr
   cases hok : goOk N s o.dst g with
   | false => rw [hok] at hst; cases hst
   | true =>
    rw [hok] at hst
    simp only [cond_true, Option.some.injEq, Prod.mk.injEq] at hst
    obtain ⟨rfl, rfl⟩ := hst
    obtain ⟨hc1, hc2⟩ := hc.append
    have hgo0 := goOk_of hok (fun n v b hg => by subst hg; exact res_wr hr) (fun l v hg => by subst hg; exact res_wrs hr) (fun n q v b bq hg => by subst hg; exact res_wq hr) (fun n b v hg => by subst hg; exact res_app hr)
    refine (eff_ok hV (fun x v hv => evG_ok hGp hc1 hs.tmps hv) he hs.std hr hc2 (gnew_of hgo0)).wp ?_ (fun c hc => by rw [hc] at he; cases he)
    rintro U w' ⟨M', σ', ho⟩
    have hsim := sim_go hs ho hgo0
    rw [<- (get_goOn s o.dst g).1, <- (get_goOn s o.dst g).2] at hsim
    exact hK' _ _ (h M' σ' _ w' hsim Q' hQ')
  ·cases hst
 ·cases hst
theorem awl_skip {ops : Array Oper} {o : Oper} {l : List Oper} {K : AS -> Prop} (j : Nat) (want : Bool) (G : Prop) (S : AS) (hg : o.guard = some (j, want)) (hG : guardP (get s.t) ops j want = some G) (hGn : ¬ G) (hok : goOk N s o.dst (.val (.av (.one (.val (.bool false))))) = true) (hS : putT s o.dst (.grd G (.one (.val (.bool false)))) = S)
  (h : AWL P rd N W0 X M0 ops l K S) : AWL P rd N W0 X M0 ops (o :: l) K s := by
 subst hS
 intro M σ a w hs Q' hQ'
 refine wpListIn_step fun K0 hK' => ?_
 rw [if_neg (fun h => hGn ((wanted_guard hs.tmps hs.room hg hG).1 h))]
 refine ⟨fun _ _ => trivial, ?_⟩
 have hgo0 := goOk_of hok (fun n v b hg => by cases hg) (fun l v hg => by cases hg) (fun n q v b bq hg => by cases hg) (fun n b v hg => by cases hg)
 have hsim := sim_go hs (g := .val (.grd G (.one (.val (.bool false))))) (V := undef) (w' := w) (M' := M) (σ' := σ) ⟨Keep.refl hs.imm _, rfl, fun h => absurd h hGn, fun _ => rfl⟩ ⟨hgo0.1, trivial⟩
 rw [<- (get_goOn s o.dst _).1, <- (get_goOn s o.dst _).2] at hsim
 exact hK' _ _ (h M σ _ w hsim Q' hQ')
end
end
section
open Go.RowKit
def Fnames13 (k : Int) : ByteArray := ([({ data := #[80, 49] } : ByteArray), ({ data := #[80, 50] } : ByteArray), ({ data := #[80, 51] } : ByteArray), ({ data := #[80, 52] } : ByteArray), ({ data := #[80, 53] } : ByteArray), ({ data := #[80, 54] } : ByteArray)] : List ByteArray).getD k.toNat ⟨#[]⟩
def cnames13 (k : Int) : FuncId × List Av × Ef := (75, [.one (.i k)], .val [] (.av (.one (.s (Fnames13 k)))))
theorem pnames13 (k : Int) (hk : 0 <= k /\ k < 6) : Pure Try.prog 75 (cnames13 k).2.1 (.av (.one (.s (Fnames13 k)))) := by
 refine pure_of_awF Try.func75 rfl kr kr fun W0 M0 => ?_
 refine aw_seq ?_
 refine aw_region eqok [] [] [] [0] [] [] ⟨[(0, tI k)], []⟩ .nil kr .nil <| ath_n <| aw_seq ?_
 refine aw_region eqok [] [] [] [2] [] [0 <= (k : Int) /\ (k : Int) < ((6 : Nat) : Int)] ⟨[(2, .av (.one (.s (([({ data := #[80, 49] } : ByteArray), ({ data := #[80, 50] } : ByteArray), ({ data := #[80, 51] } : ByteArray), ({ data := #[80, 52] } : ByteArray), ({ data := #[80, 53] } : ByteArray), ({ data := #[80, 54] } : ByteArray)] : List ByteArray).getD k.toNat ⟨#[]⟩))))], []⟩ .nil kr (.cons au6 .nil) <| ath_n <| aw_ret ?_
 exact ⟨_, Cv.refl _, .inl rfl, .av (.one (.s (([({ data := #[80, 49] } : ByteArray), ({ data := #[80, 50] } : ByteArray), ({ data := #[80, 51] } : ByteArray), ({ data := #[80, 52] } : ByteArray), ({ data := #[80, 53] } : ByteArray), ({ data := #[80, 54] } : ByteArray)] : List ByteArray).getD k.toNat ⟨#[]⟩))), by kernel_rfl, tve_eq (by rfl)⟩
theorem oknames13 (k : Int) (hk : 0 <= k /\ k < 6) : CallOk Try.prog (cnames13 k).1 (cnames13 k).2.1 (cnames13 k).2.2 := callOk_pure (fun _ _ => kr) fun _ => pnames13 k hk
def Z2k : Blk := .cells [.s (⟨#[]⟩), vN, vN] 110
def Z2l (types : (List TType)) (k : Int) (name : ByteArray) : Bool := (((types.getD k.toNat default).Name).toList == name.toList)
def FGet13_l0 (types : (List TType)) (name : ByteArray) : Nat -> Int -> (TType × Bool)
 | 0, _ => default
 | n0 + 1, k => bif decide ((k : Int) < ((types.length : Int))) then (bif Z2l types k name then ((types.getD k.toNat default, true)) else ((FGet13_l0 types name n0) (k + 1))) else ((TType.mk (⟨#[]⟩) [] [], false))
def FGet13 (types : (List TType)) (name : ByteArray) : (TType × Bool) := FGet13_l0 types name (((types.length : Int) - 0).toNat + 1) 0
def cGet13 (types : (List TType)) (name : ByteArray) : FuncId × List Av × Ef := (56, [.one (lst 3 TType.c types), .one (.s name)], .val [] (.tup [.agg (TType.c ((FGet13 types name).1)), .one (.b ((FGet13 types name).2))]))
theorem pGet13 (types : (List TType)) (name : ByteArray) (h0 : (types.length : Int) <= 1000000) : Pure Try.prog 56 (cGet13 types name).2.1 (.tup [.agg (TType.c ((FGet13 types name).1)), .one (.b ((FGet13 types name).2))]) := by
 refine pure_of_awF Try.func56 rfl kr kr fun W0 M0 => ?_
 refine aw_seq ?_
 refine aw_region eqok [] [] [] [0, 1, 4] [4] [] ⟨[(0, .av (.one (lst 3 TType.c types))), (1, .av (.one (.s name))), (4, tP 4 0)], [(4, Z2k)]⟩ .nil kr .nil <| ath_n ?_
 refine aw_seq <| aw_seq ?_
 refine aw_region eqok [] [] [] [0, 1, 4, 6] [4] [] ⟨[(0, .av (.one (lst 3 TType.c types))), (1, .av (.one (.s name))), (4, tP 4 0), (6, tI 0)], [(4, Z2k)]⟩ .nil kr .nil <| ath_n <| aw_block ?_
 refine aw_loopC (ι := Nat × Int) (fun x => ⟨[(0, .av (.one (lst 3 TType.c types))), (1, .av (.one (.s name))), (4, tP 4 0), (6, tI x.2)], [(4, Z2k)]⟩) (fun x => ((types.length : Int) - x.2).toNat < x.1 /\ (0 <= x.2 /\ 0 <= x.2 /\ (x.2 <= ((types.length : Int)) \/ x.2 = 0)) /\ FGet13_l0 types name x.1 x.2 = FGet13 types name) (fun x => x.1) ?_ (((types.length : Int) - 0).toNat + 1, 0) ⟨Nat.lt_succ_self _, ⟨(by show 0 <= 0; first | trivial | omega | exact at0 | exact at1 | exact at2 | (simp; omega) | simp), (by show 0 <= 0; first | trivial | omega | exact at0 | exact at1 | exact at2 | (simp; omega) | simp), (by show (0 <= ((types.length : Int)) \/ 0 = 0); first | trivial | omega | exact at0 | exact at1 | exact at2 | (simp; omega) | simp)⟩, (by simp only [FGet13, cond_true, cond_false])⟩
 rintro ⟨n0, k⟩ ⟨hn, hinv, hF⟩
 have hm0 : ((types.length : Int) - k).toNat < n0 := hn; have hinv0 : 0 <= k /\ 0 <= k /\ (k <= ((types.length : Int)) \/ k = 0) := hinv; have hF0 : FGet13_l0 types name n0 k = FGet13 types name := hF; clear hn hinv hF
 cases n0 with
 | zero => exact absurd hm0 (Nat.not_lt_zero _)
 | succ n0 =>
  refine aw_seq <| aw_seq ?_
  refine aw_region eqok [] [] [] [0, 1, 4, 6, 10] [4] [] ⟨[(0, .av (.one (lst 3 TType.c types))), (1, .av (.one (.s name))), (4, tP 4 0), (6, tI k), (10, tB (decide ((k : Int) < ((types.length : Int)))))], [(4, Z2k)]⟩ .nil kr .nil <| ath_n ?_
  refine aw_cond (decide ((k : Int) < ((types.length : Int)))) kr (fun h1 => ?_) (fun h1 => ?_)
  ·have g1 := of_decide_eq_true h1
   refine aw_skip <| ath_n ?_
   refine aw_seq <| aw_block <| aw_seq ?_
   refine aw_region eqok [] [] [] [0, 1, 4, 6, 19] [4] [0 <= (k : Int) /\ (k : Int) < ((types.length : Nat) : Int)] ⟨[(0, .av (.one (lst 3 TType.c types))), (1, .av (.one (.s name))), (4, tP 4 0), (6, tI k), (19, tB (Z2l types k name))], [(4, Z2k)]⟩ .nil kr (.cons au6 .nil) <| ath_n ?_
   refine aw_cond (Z2l types k name) kr (fun h2 => ?_) (fun h2 => ?_)
   ·refine aw_seq ?_
    refine aw_region eqok [] [] [] [4, 5] [4] [0 <= (k : Int) /\ (k : Int) < ((types.length : Nat) : Int)] ⟨[(4, tP 4 0), (5, tB true)], [(4, .cells (TType.c (types.getD k.toNat default)) 110)]⟩ .nil kr (.cons au6 .nil) <| ath_n ?_
    refine aw_ret <| abl_r ?_
    refine ath_r <| ath_r ?_
    refine abl_r <| ath_r ?_
    exact ⟨_, Cv.refl _, .inl rfl, .tup [.agg (TType.c (types.getD k.toNat default)), .one (.b true)], by kernel_rfl, tve_eq (by rw [<- hF0]; first | (simp only [FGet13_l0, h1, h2, cond_true, cond_false] <;> rfl))⟩
   ·refine aw_skip <| abl_n <| ath_n ?_
    refine aw_region eqok [] [] [] [0, 1, 4, 6] [4] [] ⟨[(0, .av (.one (lst 3 TType.c types))), (1, .av (.one (.s name))), (4, tP 4 0), (6, tI (W64 (k + 1)))], [(4, Z2k)]⟩ .nil kr .nil ?_
    (try rw [(show W64 (k + 1) = k + 1 from W64_id (by omega) (by omega))])
    refine ath_n ?_
    refine ⟨(n0, k + 1), ⟨?_, ?_, (by rw [<- hF0]; simp only [FGet13_l0, h1, h2, cond_true, cond_false])⟩, Nat.lt_succ_self _, cv_eq kr⟩
    ·show ((types.length : Int) - (k + 1)).toNat < n0; omega
    ·exact ⟨(by show 0 <= (k + 1); first | trivial | omega | exact at0 | exact at1 | exact at2 | (simp; omega) | simp), (by show 0 <= (k + 1); first | trivial | omega | exact at0 | exact at1 | exact at2 | (simp; omega) | simp), (by show ((k + 1) <= ((types.length : Int)) \/ (k + 1) = 0); first | trivial | omega | exact at0 | exact at1 | exact at2 | (simp; omega) | simp)⟩
  ·have g1 := of_decide_eq_false h1
   refine aw_exit <| ath_e ?_
   refine ath_e <| abl_hit ?_
   refine ath_n <| aw_seq ?_
   refine aw_region eqok [] [] [] [4, 5] [4] [] ⟨[(4, tP 4 0), (5, tB false)], [(4, Z2k)]⟩ .nil kr .nil <| ath_n <| aw_ret ?_
   exact ⟨_, Cv.refl _, .inl rfl, .tup [.agg [.s (⟨#[]⟩), vN, vN], .one (.b false)], by kernel_rfl, tve_of (y := .tup [.agg [.s (⟨#[]⟩), lst 7 TPad.c [], lst 2 TGate.c []], .one (.b false)]) (.tup (.cons (.agg (.cons (.refl _) (.cons (cle_nil 7 TPad.c) (.cons (cle_nil 2 TGate.c) .nil)))) (.cons (AvE.refl _) .nil))) (by rw [<- hF0]; first | (simp only [FGet13_l0, h1, cond_true, cond_false] <;> rfl))⟩
theorem okGet13 (types : (List TType)) (name : ByteArray) (h0 : (types.length : Int) <= 1000000) : CallOk Try.prog (cGet13 types name).1 (cGet13 types name).2.1 (cGet13 types name).2.2 := callOk_pure (fun _ _ => kr) fun _ => pGet13 types name h0
def FMotion17 (x0 : TPlaced) : TMotion := TMotion.mk x0.At x0.Turn x0.Under
def cMotion17 (x0 : TPlaced) : FuncId × List Av × Ef := (92, [.agg (TPlaced.c x0)], .val [] (.av (.agg (TMotion.c (FMotion17 x0)))))
theorem pMotion17 (x0 : TPlaced) : Pure Try.prog 92 (cMotion17 x0).2.1 (.av (.agg (TMotion.c (FMotion17 x0)))) := by
 refine pure_of_awF Try.func92 rfl kr kr fun W0 M0 => ?_
 refine aw_seq ?_
 refine aw_region eqok [] [] [] [1, 2] [1, 2] [] ⟨[(1, tP 1 0), (2, tP 2 0)], [(1, .cells (TPlaced.c x0) 115), (2, .cells [.i 0, .i 0, .i 0, .b false] 84)]⟩ .nil kr .nil <| ath_n <| aw_seq ?_
 refine aw_region eqok [] [] [] [2] [2] [] ⟨[(2, tP 2 0)], [(2, .cells [.i x0.At.X, .i x0.At.Y, .i x0.Turn, .b x0.Under] 84)]⟩ .nil kr .nil <| ath_n <| aw_ret ?_
 exact ⟨_, Cv.refl _, .inl rfl, .av (.agg [.i x0.At.X, .i x0.At.Y, .i x0.Turn, .b x0.Under]), by kernel_rfl, tve_eq (by rfl)⟩
theorem okMotion17 (x0 : TPlaced) : CallOk Try.prog (cMotion17 x0).1 (cMotion17 x0).2.1 (cMotion17 x0).2.2 := callOk_pure (fun _ _ => kr) fun _ => pMotion17 x0
def Fref17line (x0 : TPoint) (x1 : TPoint) : TEdge := TEdge.mk 1 x0 x1 (TPoint.mk 0 0)
def cref17line (x0 : TPoint) (x1 : TPoint) : FuncId × List Av × Ef := (81, [.agg (TPoint.c x0), .agg (TPoint.c x1)], .val [] (.av (.agg (TEdge.c (Fref17line x0 x1)))))
theorem pref17line (x0 : TPoint) (x1 : TPoint) : Pure Try.prog 81 (cref17line x0 x1).2.1 (.av (.agg (TEdge.c (Fref17line x0 x1)))) := by
 refine pure_of_awF Try.func81 rfl kr kr fun W0 M0 => ?_
 refine aw_seq ?_
 refine aw_region eqok [] [] [] [2, 3, 4] [2, 3, 4] [] ⟨[(2, tP 2 0), (3, tP 3 0), (4, tP 4 0)], [(2, .cells (TPoint.c x0) 31), (3, .cells (TPoint.c x1) 31), (4, .cells [.i 0, .i 0, .i 0, .i 0, .i 0, .i 0, .i 0] 33)]⟩ .nil kr .nil <| ath_n <| aw_seq ?_
 refine aw_region eqok [] [] [] [4] [4] [] ⟨[(4, tP 4 0)], [(4, .cells [.i 1, .i x0.X, .i x0.Y, .i x1.X, .i x1.Y, .i 0, .i 0] 33)]⟩ .nil kr .nil <| ath_n <| aw_ret ?_
 exact ⟨_, Cv.refl _, .inl rfl, .av (.agg [.i 1, .i x0.X, .i x0.Y, .i x1.X, .i x1.Y, .i 0, .i 0]), by kernel_rfl, tve_eq (by rfl)⟩
theorem okref17line (x0 : TPoint) (x1 : TPoint) : CallOk Try.prog (cref17line x0 x1).1 (cref17line x0 x1).2.1 (cref17line x0 x1).2.2 := callOk_pure (fun _ _ => kr) fun _ => pref17line x0 x1
def Fpart17 (l : (List (List Int))) (k : Int) : (List Int) := bif decide ((k : Int) < ((l.length : Int))) then (l.getD k.toNat default) else ([])
def cpart17 (l : (List (List Int))) (k : Int) : FuncId × List Av × Ef := (54, [.one (lst 1 (fun x => [lst 1 (fun x => [.i x]) x]) l), .one (.i k)], .val [] (.av (.one (lst 1 (fun x => [.i x]) (Fpart17 l k)))))
abbrev oL (l : List (List Int)) : Av := .one (lst 1 (fun x => [lst 1 (fun x => [.i x]) x]) l)
theorem ppart17 (l : (List (List Int))) (k : Int) (hk : 0 <= k) : Pure Try.prog 54 (cpart17 l k).2.1 (.av (.one (lst 1 (fun x => [.i x]) (Fpart17 l k)))) := by
 refine pure_of_awF Try.func54 rfl kr kr fun W0 M0 => ?_
 refine aw_seq ?_
 refine aw_region eqok [] [] [] [0, 1] [] [] ⟨[(0, .av (oL l)), (1, tI k)], []⟩ .nil kr .nil <| ath_n ?_
 refine aw_seq <| aw_seq ?_
 refine aw_region eqok [] [] [] [0, 1, 8] [] [] ⟨[(0, .av (oL l)), (1, tI k), (8, tB (decide ((k : Int) < ((l.length : Int)))))], []⟩ .nil kr .nil <| ath_n ?_
 refine aw_cond (decide ((k : Int) < ((l.length : Int)))) kr (fun h1 => ?_) (fun h1 => ?_)
 ·have g1 := of_decide_eq_true h1
  refine aw_seq ?_
  refine aw_region eqok [] [] [] [4] [] [0 <= (k : Int) /\ (k : Int) < ((l.length : Nat) : Int)] ⟨[(4, .av (.one (lst 1 (fun x => [.i x]) (l.getD k.toNat default))))], []⟩ .nil kr (.cons au6 .nil) <| ath_n ?_
  refine aw_ret <| ath_r ?_
  exact ⟨_, Cv.refl _, .inl rfl, .av (.one (lst 1 (fun x => [.i x]) (l.getD k.toNat default))), by kernel_rfl, tve_eq (by first | (simp only [Fpart17, h1, cond_true, cond_false] <;> rfl))⟩
 ·have g1 := of_decide_eq_false h1
  refine aw_skip <| ath_n <| aw_seq ?_
  refine aw_region eqok [] [] [] [4] [] [] ⟨[(4, .av (.one (vN)))], []⟩ .nil kr .nil <| ath_n <| aw_ret ?_
  exact ⟨_, Cv.refl _, .inl rfl, .av (.one (vN)), by kernel_rfl, tve_of (y := .av (.one (lst 1 (fun x => [.i x]) []))) (.av (.one (cle_nil 1 (fun x => [.i x])))) (by first | (simp only [Fpart17, h1, cond_true, cond_false] <;> rfl))⟩
theorem okpart17 (l : (List (List Int))) (k : Int) (hk : 0 <= k) : CallOk Try.prog (cpart17 l k).1 (cpart17 l k).2.1 (cpart17 l k).2.2 := callOk_pure (fun _ _ => kr) fun _ => ppart17 l k hk
def Z2m (d : TDraw) : FuncId × List Av × Ef := (34, ([.one (.ptr 1000 0), .one (.i 4)] : List Av).map (renA 1000 1000), wrI 1000 (.cells (TDraw.c d) 94) (tI ((FNext d 4).1)) (.cells (TDraw.c ((FNext d 4).2)) 94))
def Z2n (a : TPoint) (b_ : TPoint) : TEdge := Fref17line a (TPoint.mk (bif (decide (a.X = b_.X) && (decide (a.Y = b_.Y) && true)) then (W64 (b_.X + 20)) else b_.X) a.Y)
def Z2o (a : TPoint) (b_ : TPoint) : TEdge := Fref17line (TPoint.mk (bif (decide (a.X = b_.X) && (decide (a.Y = b_.Y) && true)) then (W64 (b_.X + 20)) else b_.X) a.Y) (TPoint.mk (bif (decide (a.X = b_.X) && (decide (a.Y = b_.Y) && true)) then (W64 (b_.X + 20)) else b_.X) b_.Y)
def Z2p (d : TDraw) : FuncId × List Av × Ef := (34, ([.one (.ptr 1000 0), .one (.i 20)] : List Av).map (renA 1000 1000), wrI 1000 (.cells (TDraw.c ((FNext d 4).2)) 94) (tI ((FNext ((FNext d 4).2) 20).1)) (.cells (TDraw.c ((FNext ((FNext d 4).2) 20).2)) 94))
def Z2q (d : TDraw) : Blk := .cells (TDraw.c ((FNext ((FNext d 4).2) 20).2)) 94
def Z2r (a : TPoint) (b_ : TPoint) (d : TDraw) : TEdge := Fref06Arc (TPoint.mk (bif (decide (a.X = b_.X) && (decide (a.Y = b_.Y) && true)) then (W64 (b_.X + 20)) else b_.X) (W64 (b_.Y + (W64 (5 + ((FNext ((FNext d 4).2) 20).1)))))) (W64 (5 + ((FNext ((FNext d 4).2) 20).1))) 3 2
def Z2s (a : TPoint) (b_ : TPoint) : TEdge := Fref17line a (TPoint.mk (bif (decide (a.X = b_.X) && (decide (a.Y = b_.Y) && true)) then (W64 (b_.X + 20)) else b_.X) b_.Y)
def Fchain17 (a : TPoint) (b_ : TPoint) (d : TDraw) : ((List TEdge) × TDraw) := bif bif bif bif decide ((0 : Int) < ((FNext d 4).1)) then decide ((((FNext d 4).1) : Int) < 3) else false then !(decide ((bif (decide (a.X = b_.X) && (decide (a.Y = b_.Y) && true)) then (W64 (b_.X + 20)) else b_.X) = a.X) && (decide (a.Y = a.Y) && true)) else false then !(decide ((bif (decide (a.X = b_.X) && (decide (a.Y = b_.Y) && true)) then (W64 (b_.X + 20)) else b_.X) = (bif (decide (a.X = b_.X) && (decide (a.Y = b_.Y) && true)) then (W64 (b_.X + 20)) else b_.X)) && (decide (a.Y = b_.Y) && true)) else false then (([Z2n a b_, Z2o a b_], (FNext d 4).2)) else (bif decide ((((FNext d 4).1) : Int) = 3) then (([Z2s a b_, Z2r a b_ d], (FNext ((FNext d 4).2) 20).2)) else (([Z2s a b_], (FNext d 4).2)))
theorem pchain17  (a : TPoint) (b_ : TPoint) (d : TDraw) (hd : DrawOk d) : Wr Try.prog 79 1000 [.agg (TPoint.c a), .agg (TPoint.c b_), .one (.ptr 1000 0)] (.cells (TDraw.c d) 94) (.av (.one (lst 7 TEdge.c ((Fchain17 a b_ d).1)))) (.cells (TDraw.c ((Fchain17 a b_ d).2)) 94) := by
 refine wr_of_awF Try.func79 rfl kr kr kr kr fun W0 M0 X hX => ?_
 refine aw_seq ?_
 refine aw_region eqok [] [] [] [2, 3, 4] [3, 4, 1000] [] ⟨[(2, tP 1000 0), (3, tP 3 0), (4, tP 4 0)], [(3, .cells (TPoint.c a) 31), (4, .cells (TPoint.c b_) 31), (1000, .cells (TDraw.c d) 94)]⟩ .nil kr .nil <| ath_n ?_
 refine aw_seq <| aw_seq ?_
 refine aw_region eqok [] [] [] [2, 3, 4, 13] [3, 4, 1000] [] ⟨[(2, tP 1000 0), (3, tP 3 0), (4, tP 4 0), (13, tB ((decide (a.X = b_.X) && (decide (a.Y = b_.Y) && true))))], [(3, .cells (TPoint.c a) 31), (4, .cells (TPoint.c b_) 31), (1000, .cells (TDraw.c d) 94)]⟩ .nil kr .nil <| ath_n ?_
 refine aw_joinC (⟨[(2, tP 1000 0), (3, tP 3 0), (4, tP 4 0)], [(3, .cells (TPoint.c a) 31), (4, .cells [.i (bif (decide (a.X = b_.X) && (decide (a.Y = b_.Y) && true)) then (W64 (b_.X + 20)) else b_.X), .i b_.Y] 31), (1000, .cells (TDraw.c d) 94)]⟩) ?_ ?_
 ·refine aw_cond ((decide (a.X = b_.X) && (decide (a.Y = b_.Y) && true))) kr (fun h1 => ?_) (fun h1 => ?_)
  ·refine aw_region eqok [] [] [] [2, 3, 4] [3, 4, 1000] [] ⟨[(2, tP 1000 0), (3, tP 3 0), (4, tP 4 0)], [(3, .cells (TPoint.c a) 31), (4, .cells [.i (W64 (b_.X + 20)), .i b_.Y] 31), (1000, .cells (TDraw.c d) 94)]⟩ .nil kr .nil <| ath_n ?_
   refine cv_eq ?_
   first | rfl | (simp only [h1, cond_true, cond_false] <;> rfl)
  ·refine aw_skip <| ath_n ?_
   refine Cv.trans (cv_keep [2, 3, 4] [3, 4, 1000] (⟨[(2, tP 1000 0), (3, tP 3 0), (4, tP 4 0)], [(3, .cells (TPoint.c a) 31), (4, .cells (TPoint.c b_) 31), (1000, .cells (TDraw.c d) 94)]⟩) kr) (cv_eq ?_)
   first | rfl | (simp only [h1, cond_true, cond_false] <;> rfl)
 refine aw_seq ?_
 refine aw_region eqok [] [] [] [2, 3, 4, 7] [3, 4, 7, 1000] [] ⟨[(2, tP 1000 0), (3, tP 3 0), (4, tP 4 0), (7, tP 7 0)], [(3, .cells (TPoint.c a) 31), (4, .cells [.i (bif (decide (a.X = b_.X) && (decide (a.Y = b_.Y) && true)) then (W64 (b_.X + 20)) else b_.X), .i b_.Y] 31), (7, .cells [.i (bif (decide (a.X = b_.X) && (decide (a.Y = b_.Y) && true)) then (W64 (b_.X + 20)) else b_.X), .i a.Y] 31), (1000, .cells (TDraw.c d) 94)]⟩ .nil kr .nil <| ath_n ?_
 refine aw_seq <| aw_seq ?_
 refine aw_region eqok [] [] [(24, (Z2m d))] [2, 3, 4, 7, 8] [3, 4, 7, 1000] [Same ((Z2m d)).2.1, SameB (.cells (TDraw.c d) 94)] ⟨[(2, tP 1000 0), (3, tP 3 0), (4, tP 4 0), (7, tP 7 0), (8, tI ((FNext d 4).1))], [(3, .cells (TPoint.c a) 31), (4, .cells [.i (bif (decide (a.X = b_.X) && (decide (a.Y = b_.Y) && true)) then (W64 (b_.X + 20)) else b_.X), .i b_.Y] 31), (7, .cells [.i (bif (decide (a.X = b_.X) && (decide (a.Y = b_.Y) && true)) then (W64 (b_.X + 20)) else b_.X), .i a.Y] 31), (1000, .cells (TDraw.c ((FNext d 4).2)) 94)]⟩ (.cons (callOk_wr (fun _ _ => kr) kr kr (pNext d 4 au8 au0)) .nil) kr (.cons rfl (.cons rfl .nil)) <| ath_n ?_
 refine aw_block <| aw_seq ?_
 refine aw_region eqok [] [] [] [2, 3, 4, 7, 8, 25] [3, 4, 7, 1000] [((decide ((0 : Int) < ((FNext d 4).1))) = true) -> ((decide ((0 : Int) < ((FNext d 4).1))) = true), (decide ((0 : Int) < ((FNext d 4).1))) = true -> ((decide ((0 : Int) < ((FNext d 4).1))) = true), ((bif decide ((0 : Int) < ((FNext d 4).1)) then decide ((((FNext d 4).1) : Int) < 3) else false) = true) -> ((bif decide ((0 : Int) < ((FNext d 4).1)) then decide ((((FNext d 4).1) : Int) < 3) else false) = true), ((bif decide ((0 : Int) < ((FNext d 4).1)) then decide ((((FNext d 4).1) : Int) < 3) else false) = true) -> ((bif decide ((0 : Int) < ((FNext d 4).1)) then decide ((((FNext d 4).1) : Int) < 3) else false) = true), (bif decide ((0 : Int) < ((FNext d 4).1)) then decide ((((FNext d 4).1) : Int) < 3) else false) = true -> ((bif decide ((0 : Int) < ((FNext d 4).1)) then decide ((((FNext d 4).1) : Int) < 3) else false) = true), ((bif bif decide ((0 : Int) < ((FNext d 4).1)) then decide ((((FNext d 4).1) : Int) < 3) else false then !(decide ((bif (decide (a.X = b_.X) && (decide (a.Y = b_.Y) && true)) then (W64 (b_.X + 20)) else b_.X) = a.X) && (decide (a.Y = a.Y) && true)) else false) = true) -> ((bif bif decide ((0 : Int) < ((FNext d 4).1)) then decide ((((FNext d 4).1) : Int) < 3) else false then !(decide ((bif (decide (a.X = b_.X) && (decide (a.Y = b_.Y) && true)) then (W64 (b_.X + 20)) else b_.X) = a.X) && (decide (a.Y = a.Y) && true)) else false) = true), ((bif bif decide ((0 : Int) < ((FNext d 4).1)) then decide ((((FNext d 4).1) : Int) < 3) else false then !(decide ((bif (decide (a.X = b_.X) && (decide (a.Y = b_.Y) && true)) then (W64 (b_.X + 20)) else b_.X) = a.X) && (decide (a.Y = a.Y) && true)) else false) = true) -> ((bif bif decide ((0 : Int) < ((FNext d 4).1)) then decide ((((FNext d 4).1) : Int) < 3) else false then !(decide ((bif (decide (a.X = b_.X) && (decide (a.Y = b_.Y) && true)) then (W64 (b_.X + 20)) else b_.X) = a.X) && (decide (a.Y = a.Y) && true)) else false) = true), (bif bif decide ((0 : Int) < ((FNext d 4).1)) then decide ((((FNext d 4).1) : Int) < 3) else false then !(decide ((bif (decide (a.X = b_.X) && (decide (a.Y = b_.Y) && true)) then (W64 (b_.X + 20)) else b_.X) = a.X) && (decide (a.Y = a.Y) && true)) else false) = true -> ((bif bif decide ((0 : Int) < ((FNext d 4).1)) then decide ((((FNext d 4).1) : Int) < 3) else false then !(decide ((bif (decide (a.X = b_.X) && (decide (a.Y = b_.Y) && true)) then (W64 (b_.X + 20)) else b_.X) = a.X) && (decide (a.Y = a.Y) && true)) else false) = true)] ⟨[(2, tP 1000 0), (3, tP 3 0), (4, tP 4 0), (7, tP 7 0), (8, tI ((FNext d 4).1)), (25, tB (bif bif bif decide ((0 : Int) < ((FNext d 4).1)) then decide ((((FNext d 4).1) : Int) < 3) else false then !(decide ((bif (decide (a.X = b_.X) && (decide (a.Y = b_.Y) && true)) then (W64 (b_.X + 20)) else b_.X) = a.X) && (decide (a.Y = a.Y) && true)) else false then !(decide ((bif (decide (a.X = b_.X) && (decide (a.Y = b_.Y) && true)) then (W64 (b_.X + 20)) else b_.X) = (bif (decide (a.X = b_.X) && (decide (a.Y = b_.Y) && true)) then (W64 (b_.X + 20)) else b_.X)) && (decide (a.Y = b_.Y) && true)) else false))], [(3, .cells (TPoint.c a) 31), (4, .cells [.i (bif (decide (a.X = b_.X) && (decide (a.Y = b_.Y) && true)) then (W64 (b_.X + 20)) else b_.X), .i b_.Y] 31), (7, .cells [.i (bif (decide (a.X = b_.X) && (decide (a.Y = b_.Y) && true)) then (W64 (b_.X + 20)) else b_.X), .i a.Y] 31), (1000, .cells (TDraw.c ((FNext d 4).2)) 94)]⟩ .nil kr (.cons id (.cons id (.cons id (.cons id (.cons id (.cons id (.cons id (.cons id .nil)))))))) <| ath_n ?_
 refine aw_cond (bif bif bif decide ((0 : Int) < ((FNext d 4).1)) then decide ((((FNext d 4).1) : Int) < 3) else false then !(decide ((bif (decide (a.X = b_.X) && (decide (a.Y = b_.Y) && true)) then (W64 (b_.X + 20)) else b_.X) = a.X) && (decide (a.Y = a.Y) && true)) else false then !(decide ((bif (decide (a.X = b_.X) && (decide (a.Y = b_.Y) && true)) then (W64 (b_.X + 20)) else b_.X) = (bif (decide (a.X = b_.X) && (decide (a.Y = b_.Y) && true)) then (W64 (b_.X + 20)) else b_.X)) && (decide (a.Y = b_.Y) && true)) else false) kr (fun h1 => ?_) (fun h1 => ?_)
 ·refine aw_seq ?_
  refine aw_draw mixed eqok [] [] [(44, cref17line a (TPoint.mk (bif (decide (a.X = b_.X) && (decide (a.Y = b_.Y) && true)) then (W64 (b_.X + 20)) else b_.X) a.Y)), (47, cref17line (TPoint.mk (bif (decide (a.X = b_.X) && (decide (a.Y = b_.Y) && true)) then (W64 (b_.X + 20)) else b_.X) a.Y) (TPoint.mk (bif (decide (a.X = b_.X) && (decide (a.Y = b_.Y) && true)) then (W64 (b_.X + 20)) else b_.X) b_.Y))] [6] [1000] [Same (cref17line a (TPoint.mk (bif (decide (a.X = b_.X) && (decide (a.Y = b_.Y) && true)) then (W64 (b_.X + 20)) else b_.X) a.Y)).2.1, Same (cref17line (TPoint.mk (bif (decide (a.X = b_.X) && (decide (a.Y = b_.Y) && true)) then (W64 (b_.X + 20)) else b_.X) a.Y) (TPoint.mk (bif (decide (a.X = b_.X) && (decide (a.Y = b_.Y) && true)) then (W64 (b_.X + 20)) else b_.X) b_.Y)).2.1] ⟨[(6, .av (.one (.list true 7 2 (colsC 7 2 [.i ((Z2n a b_).Kind), .i (((Z2n a b_).A).X), .i (((Z2n a b_).A).Y), .i (((Z2n a b_).B).X), .i (((Z2n a b_).B).Y), .i (((Z2n a b_).C).X), .i (((Z2n a b_).C).Y), .i ((Z2o a b_).Kind), .i (((Z2o a b_).A).X), .i (((Z2o a b_).A).Y), .i (((Z2o a b_).B).X), .i (((Z2o a b_).B).Y), .i (((Z2o a b_).C).X), .i (((Z2o a b_).C).Y)]))))], [(1000, .cells (TDraw.c ((FNext d 4).2)) 94)]⟩ (.cons (okref17line a (TPoint.mk (bif (decide (a.X = b_.X) && (decide (a.Y = b_.Y) && true)) then (W64 (b_.X + 20)) else b_.X) a.Y)) (.cons (okref17line (TPoint.mk (bif (decide (a.X = b_.X) && (decide (a.Y = b_.Y) && true)) then (W64 (b_.X + 20)) else b_.X) a.Y) (TPoint.mk (bif (decide (a.X = b_.X) && (decide (a.Y = b_.Y) && true)) then (W64 (b_.X + 20)) else b_.X) b_.Y)) .nil)) kr kr (.cons rfl (.cons rfl .nil)) <| ath_n ?_
  refine aw_ret <| abl_r <| ath_r ?_
  exact ⟨_, Cv.refl _, .inl rfl, .av (.one (.list true 7 2 (colsC 7 2 [.i ((Z2n a b_).Kind), .i (((Z2n a b_).A).X), .i (((Z2n a b_).A).Y), .i (((Z2n a b_).B).X), .i (((Z2n a b_).B).Y), .i (((Z2n a b_).C).X), .i (((Z2n a b_).C).Y), .i ((Z2o a b_).Kind), .i (((Z2o a b_).A).X), .i (((Z2o a b_).A).Y), .i (((Z2o a b_).B).X), .i (((Z2o a b_).B).Y), .i (((Z2o a b_).C).X), .i (((Z2o a b_).C).Y)]))), by kernel_rfl, ⟨tve_of (y := .av (.one (lst 7 TEdge.c [Z2n a b_, Z2o a b_]))) (.av (.one (cle_told true (told_lit (c := TEdge.c) (xs := ([Z2n a b_, Z2o a b_] : List TEdge)) rfl kr)))) (by unfold Fchain17; rw [h1]; rfl), .cells (TDraw.c ((FNext d 4).2)) 94, by kernel_rfl, bke_eq (by unfold Fchain17; rw [h1]; kernel_rfl)⟩⟩
 ·refine aw_seq ?_
  refine aw_region eqok [] [] [] [2, 3, 4, 49] [3, 4, 1000] [] ⟨[(2, tP 1000 0), (3, tP 3 0), (4, tP 4 0), (49, tB (decide ((((FNext d 4).1) : Int) = 3)))], [(3, .cells (TPoint.c a) 31), (4, .cells [.i (bif (decide (a.X = b_.X) && (decide (a.Y = b_.Y) && true)) then (W64 (b_.X + 20)) else b_.X), .i b_.Y] 31), (1000, .cells (TDraw.c ((FNext d 4).2)) 94)]⟩ .nil kr .nil <| ath_n ?_
  refine aw_cond (decide ((((FNext d 4).1) : Int) = 3)) kr (fun h2 => ?_) (fun h2 => ?_)
  ·have g2 := of_decide_eq_true h2
   refine aw_seq ?_
   refine aw_region eqok [] [] [(53, (Z2p d))] [3, 4, 9] [3, 4, 1000] [Same ((Z2p d)).2.1, SameB (.cells (TDraw.c ((FNext d 4).2)) 94)] ⟨[(3, tP 3 0), (4, tP 4 0), (9, tI (W64 (5 + ((FNext ((FNext d 4).2) 20).1))))], [(3, .cells (TPoint.c a) 31), (4, .cells [.i (bif (decide (a.X = b_.X) && (decide (a.Y = b_.Y) && true)) then (W64 (b_.X + 20)) else b_.X), .i b_.Y] 31), (1000, Z2q d)]⟩ (.cons (callOk_wr (fun _ _ => kr) kr kr (pNext ((FNext d 4).2) 20 au8 au0)) .nil) kr (.cons rfl (.cons rfl .nil)) <| ath_n <| aw_seq ?_
   refine aw_region eqok [] [] [(63, cref06Arc (TPoint.mk (bif (decide (a.X = b_.X) && (decide (a.Y = b_.Y) && true)) then (W64 (b_.X + 20)) else b_.X) (W64 (b_.Y + (W64 (5 + ((FNext ((FNext d 4).2) 20).1)))))) (W64 (5 + ((FNext ((FNext d 4).2) 20).1))) 3 2)] [3, 4, 10] [3, 4, 10, 1000] [Same (cref06Arc (TPoint.mk (bif (decide (a.X = b_.X) && (decide (a.Y = b_.Y) && true)) then (W64 (b_.X + 20)) else b_.X) (W64 (b_.Y + (W64 (5 + ((FNext ((FNext d 4).2) 20).1)))))) (W64 (5 + ((FNext ((FNext d 4).2) 20).1))) 3 2).2.1] ⟨[(3, tP 3 0), (4, tP 4 0), (10, tP 10 0)], [(3, .cells (TPoint.c a) 31), (4, .cells [.i (bif (decide (a.X = b_.X) && (decide (a.Y = b_.Y) && true)) then (W64 (b_.X + 20)) else b_.X), .i b_.Y] 31), (10, .cells (TEdge.c (Z2r a b_ d)) 33), (1000, Z2q d)]⟩ (.cons (okref06Arc (TPoint.mk (bif (decide (a.X = b_.X) && (decide (a.Y = b_.Y) && true)) then (W64 (b_.X + 20)) else b_.X) (W64 (b_.Y + (W64 (5 + ((FNext ((FNext d 4).2) 20).1)))))) (W64 (5 + ((FNext ((FNext d 4).2) 20).1))) 3 2) .nil) kr (.cons rfl .nil) <| ath_n <| aw_seq ?_
   refine aw_draw mixed eqok [] [] [(66, cref17line a (TPoint.mk (bif (decide (a.X = b_.X) && (decide (a.Y = b_.Y) && true)) then (W64 (b_.X + 20)) else b_.X) b_.Y))] [6] [1000] [Same (cref17line a (TPoint.mk (bif (decide (a.X = b_.X) && (decide (a.Y = b_.Y) && true)) then (W64 (b_.X + 20)) else b_.X) b_.Y)).2.1] ⟨[(6, .av (.one (.list true 7 2 (colsC 7 2 [.i ((Z2s a b_).Kind), .i (((Z2s a b_).A).X), .i (((Z2s a b_).A).Y), .i (((Z2s a b_).B).X), .i (((Z2s a b_).B).Y), .i (((Z2s a b_).C).X), .i (((Z2s a b_).C).Y), .i ((Z2r a b_ d).Kind), .i (((Z2r a b_ d).A).X), .i (((Z2r a b_ d).A).Y), .i (((Z2r a b_ d).B).X), .i (((Z2r a b_ d).B).Y), .i (((Z2r a b_ d).C).X), .i (((Z2r a b_ d).C).Y)]))))], [(1000, Z2q d)]⟩ (.cons (okref17line a (TPoint.mk (bif (decide (a.X = b_.X) && (decide (a.Y = b_.Y) && true)) then (W64 (b_.X + 20)) else b_.X) b_.Y)) .nil) kr kr (.cons rfl .nil) <| ath_n ?_
   refine aw_ret <| abl_r <| ath_r ?_
   exact ⟨_, Cv.refl _, .inl rfl, .av (.one (.list true 7 2 (colsC 7 2 [.i ((Z2s a b_).Kind), .i (((Z2s a b_).A).X), .i (((Z2s a b_).A).Y), .i (((Z2s a b_).B).X), .i (((Z2s a b_).B).Y), .i (((Z2s a b_).C).X), .i (((Z2s a b_).C).Y), .i ((Z2r a b_ d).Kind), .i (((Z2r a b_ d).A).X), .i (((Z2r a b_ d).A).Y), .i (((Z2r a b_ d).B).X), .i (((Z2r a b_ d).B).Y), .i (((Z2r a b_ d).C).X), .i (((Z2r a b_ d).C).Y)]))), by kernel_rfl, ⟨tve_of (y := .av (.one (lst 7 TEdge.c [Z2s a b_, Z2r a b_ d]))) (.av (.one (cle_told true (told_lit (c := TEdge.c) (xs := ([Z2s a b_, Z2r a b_ d] : List TEdge)) rfl kr)))) (by unfold Fchain17; rw [h1, h2]; rfl), .cells (TDraw.c ((FNext ((FNext d 4).2) 20).2)) 94, by kernel_rfl, bke_eq (by unfold Fchain17; rw [h1, h2]; kernel_rfl)⟩⟩
  ·have g2 := of_decide_eq_false h2
   refine aw_skip <| abl_n ?_
   refine ath_n <| aw_seq ?_
   refine aw_region eqok [] [] [(71, cref17line a (TPoint.mk (bif (decide (a.X = b_.X) && (decide (a.Y = b_.Y) && true)) then (W64 (b_.X + 20)) else b_.X) b_.Y))] [6] [1000] [Same (cref17line a (TPoint.mk (bif (decide (a.X = b_.X) && (decide (a.Y = b_.Y) && true)) then (W64 (b_.X + 20)) else b_.X) b_.Y)).2.1] ⟨[(6, .av (.one (.list true 7 1 (colsC 7 1 [.i ((Z2s a b_).Kind), .i (((Z2s a b_).A).X), .i (((Z2s a b_).A).Y), .i (((Z2s a b_).B).X), .i (((Z2s a b_).B).Y), .i (((Z2s a b_).C).X), .i (((Z2s a b_).C).Y)]))))], [(1000, .cells (TDraw.c ((FNext d 4).2)) 94)]⟩ (.cons (okref17line a (TPoint.mk (bif (decide (a.X = b_.X) && (decide (a.Y = b_.Y) && true)) then (W64 (b_.X + 20)) else b_.X) b_.Y)) .nil) kr (.cons rfl .nil) <| ath_n <| aw_ret ?_
   exact ⟨_, Cv.refl _, .inl rfl, .av (.one (.list true 7 1 (colsC 7 1 [.i ((Z2s a b_).Kind), .i (((Z2s a b_).A).X), .i (((Z2s a b_).A).Y), .i (((Z2s a b_).B).X), .i (((Z2s a b_).B).Y), .i (((Z2s a b_).C).X), .i (((Z2s a b_).C).Y)]))), by kernel_rfl, ⟨tve_of (y := .av (.one (lst 7 TEdge.c [Z2s a b_]))) (.av (.one (cle_told true (told_lit (c := TEdge.c) (xs := ([Z2s a b_] : List TEdge)) rfl kr)))) (by unfold Fchain17; rw [h1, h2]; rfl), .cells (TDraw.c ((FNext d 4).2)) 94, by kernel_rfl, bke_eq (by unfold Fchain17; rw [h1, h2]; kernel_rfl)⟩⟩
def Z2t (b : TBoard) (d : TDraw) : FuncId × List Av × Ef := (34, ([.one (.ptr 1000 0), .one (.i ((b.Nets.length : Int)))] : List Av).map (renA 1000 1001), wrI 1001 (.cells (TDraw.c d) 94) (tI ((FNext d ((b.Nets.length : Int))).1)) (.cells (TDraw.c ((FNext d ((b.Nets.length : Int))).2)) 94))
def Fnet17 (b : TBoard) (d : TDraw) : (ByteArray × TDraw) := ((b.Nets.getD (((FNext d ((b.Nets.length : Int))).1).toNat) default).Name, (FNext d ((b.Nets.length : Int))).2)
theorem pnet17  (b : TBoard) (d : TDraw) (vs : Nat -> Value) (hd : DrawOk d) (hn : 1 <= (b.Nets.length : Int) /\ (b.Nets.length : Int) <= 1000000) : Wr2 Try.prog 78 1000 1001 [.one (.ptr 1000 0), .one (.ptr 1001 0)] (.cells [.i b.Layers, .i b.Outline.Kind, lst 7 TEdge.c b.Outline.Edges, .i b.Outline.R, lst 7 TPlaced.c b.Parts, lst 2 TNet.c b.Nets, .val (vs 6), .val (vs 7), .val (vs 8), .val (vs 9), .val (vs 10), .val (vs 11), .val (vs 12), .val (vs 13), .val (vs 14)] 62) (.cells (TDraw.c d) 94) (.av (.one (.s ((Fnet17 b d).1)))) (.cells [.i b.Layers, .i b.Outline.Kind, lst 7 TEdge.c b.Outline.Edges, .i b.Outline.R, lst 7 TPlaced.c b.Parts, lst 2 TNet.c b.Nets, .val (vs 6), .val (vs 7), .val (vs 8), .val (vs 9), .val (vs 10), .val (vs 11), .val (vs 12), .val (vs 13), .val (vs 14)] 62) (.cells (TDraw.c ((Fnet17 b d).2)) 94) := by
 refine wr2_of_awF Try.func78 rfl kr kr kr rfl kr kr kr fun W0 M0 X hX => ?_
 have hnb := next_b d (b.Nets.length : Int) (by omega) (by omega)
 refine aw_seq ?_
 refine aw_region eqok [] [] [] [0, 1] [1000, 1001] [] ⟨[(0, tP 1000 0), (1, tP 1001 0)], [(1000, .cells [.i b.Layers, .i b.Outline.Kind, lst 7 TEdge.c b.Outline.Edges, .i b.Outline.R, lst 7 TPlaced.c b.Parts, lst 2 TNet.c b.Nets, .val (vs 6), .val (vs 7), .val (vs 8), .val (vs 9), .val (vs 10), .val (vs 11), .val (vs 12), .val (vs 13), .val (vs 14)] 62), (1001, .cells (TDraw.c d) 94)]⟩ .nil kr .nil <| ath_n <| aw_seq ?_
 refine aw_draw mixed eqok [] [] [(15, (Z2t b d))] [4] [1000, 1001] [Same ((Z2t b d)).2.1, SameB (.cells (TDraw.c d) 94), 0 <= ((FNext d ((b.Nets.length : Int))).1 : Int) /\ ((FNext d ((b.Nets.length : Int))).1 : Int) < ((b.Nets.length : Nat) : Int)] ⟨[(4, .av (.one (.s ((b.Nets.getD (((FNext d ((b.Nets.length : Int))).1).toNat) default).Name))))], [(1000, .cells [.i b.Layers, .i b.Outline.Kind, lst 7 TEdge.c b.Outline.Edges, .i b.Outline.R, lst 7 TPlaced.c b.Parts, lst 2 TNet.c b.Nets, .val (vs 6), .val (vs 7), .val (vs 8), .val (vs 9), .val (vs 10), .val (vs 11), .val (vs 12), .val (vs 13), .val (vs 14)] 62), (1001, .cells (TDraw.c ((FNext d ((b.Nets.length : Int))).2)) 94)]⟩ (.cons (callOk_wr (fun _ _ => kr) kr kr (pNext d ((b.Nets.length : Int)) au8 au0)) .nil) kr kr (.cons rfl (.cons rfl (.cons (by omega) .nil))) <| ath_n <| aw_ret ?_
 exact ⟨_, Cv.refl _, .inl rfl, .av (.one (.s ((b.Nets.getD (((FNext d ((b.Nets.length : Int))).1).toNat) default).Name))), by kernel_rfl, ⟨tve_eq (by rfl), ⟨.cells [.i b.Layers, .i b.Outline.Kind, lst 7 TEdge.c b.Outline.Edges, .i b.Outline.R, lst 7 TPlaced.c b.Parts, lst 2 TNet.c b.Nets, .val (vs 6), .val (vs 7), .val (vs 8), .val (vs 9), .val (vs 10), .val (vs 11), .val (vs 12), .val (vs 13), .val (vs 14)] 62, by kernel_rfl, bke_eq rfl⟩, .cells (TDraw.c ((FNext d ((b.Nets.length : Int))).2)) 94, by kernel_rfl, bke_eq kr⟩⟩
theorem and_dec2 {p q : Prop} [Decidable p] [Decidable q] (h : (bif decide p then decide q else false) = true) : q := by
 by_cases hp : p
 ·rw [decide_eq_true hp] at h; exact of_decide_eq_true h
 ·rw [decide_eq_false hp] at h; cases h
def PartsOk (b : TBoard) (types : List TType) : Prop := ∀ k : Int, 0 <= k -> k < (b.Parts.length : Int) -> 1 <= ((FGet13 types (b.Parts.getD k.toNat default).Type').1.Pads.length : Int)
theorem sp_ix {b : TBoard} {d : TDraw} (h : (bif decide ((FNext d 12).1 < 8) then decide ((0 : Int) < ((b.Parts.length : Int))) else false) = true) : 0 <= Int.tmod (FNext d 12).1 (b.Parts.length : Int) /\ Int.tmod (FNext d 12).1 (b.Parts.length : Int) < (b.Parts.length : Int) := idx_tmod (next_b d 12 (by decide) (by decide)).1 (and_dec2 h)
theorem sp_pads {b : TBoard} {types : List TType} {d : TDraw} (hg : PartsOk b types) (h : (bif decide ((FNext d 12).1 < 8) then decide ((0 : Int) < ((b.Parts.length : Int))) else false) = true) : 1 <= ((FGet13 types (b.Parts.getD (Int.tmod (FNext d 12).1 (b.Parts.length : Int)).toNat default).Type').1.Pads.length : Int) := hg _ (sp_ix h).1 (sp_ix h).2
def Z2u (b : TBoard) : Blk := .cells [.i b.Layers, .i b.Outline.Kind, lst 7 TEdge.c b.Outline.Edges, .i b.Outline.R, lst 7 TPlaced.c b.Parts, .any, .any, .any, .any, .any, .any, .any, .any, .any, .any] 62
def Z2v (d : TDraw) : FuncId × List Av × Ef := (34, ([.one (.ptr 1000 0), .one (.i 12)] : List Av).map (renA 1000 1000), wrI 1000 (.cells (TDraw.c d) 94) (tI ((FNext d 12).1)) (.cells (TDraw.c ((FNext d 12).2)) 94))
def Z2w (d : TDraw) : FuncId × List Av × Ef := (34, ([.one (.ptr 1000 0), .one (.i 6)] : List Av).map (renA 1000 1000), wrI 1000 (.cells (TDraw.c ((FNext d 12).2)) 94) (tI ((FNext ((FNext d 12).2) 6).1)) (.cells (TDraw.c ((FNext ((FNext d 12).2) 6).2)) 94))
def Z2x (d : TDraw) : Blk := .cells (TDraw.c ((FNext ((FNext d 12).2) 6).2)) 94
def Z2y (b : TBoard) (d : TDraw) : TPlaced := b.Parts.getD ((Int.tmod ((FNext d 12).1) ((b.Parts.length : Int))).toNat) default
def Z2z (types : (List TType)) (b : TBoard) (d : TDraw) : TPoint := ((((FGet13 types ((Z2y b d).Type')).1).Pads).getD ((Int.tmod ((FNext ((FNext d 12).2) 6).1) (((((FGet13 types ((Z2y b d).Type')).1).Pads).length : Int))).toNat) default).At
def Z2A (b : TBoard) (d : TDraw) (types : (List TType)) : TPoint := Fref05Apply (FMotion17 (Z2y b d)) (Z2z types b d)
def Fspot17 (b : TBoard) (types : (List TType)) (d : TDraw) : (TPoint × TDraw) := bif bif decide ((((FNext d 12).1) : Int) < 8) then decide ((0 : Int) < ((b.Parts.length : Int))) else false then ((Z2A b d types, (FNext ((FNext d 12).2) 6).2)) else ((TPoint.mk (W64 (30 + (Int.tmod (W64 (40 * ((FNext d 12).1))) 360))) (W64 (30 + (W64 (60 * ((FNext ((FNext d 12).2) 6).1))))), (FNext ((FNext d 12).2) 6).2))
theorem pspot17  (b : TBoard) (types : (List TType)) (d : TDraw) (hd : DrawOk d) (hb : (b.Parts.length : Int) <= 1000000) (ht : (types.length : Int) <= 1000000) (hg : PartsOk b types) : Wr Try.prog 80 1000 [.agg [.i b.Layers, .i b.Outline.Kind, lst 7 TEdge.c b.Outline.Edges, .i b.Outline.R, lst 7 TPlaced.c b.Parts, .any, .any, .any, .any, .any, .any, .any, .any, .any, .any], .one (lst 3 TType.c types), .one (.ptr 1000 0)] (.cells (TDraw.c d) 94) (.av (.agg (TPoint.c ((Fspot17 b types d).1)))) (.cells (TDraw.c ((Fspot17 b types d).2)) 94) := by
 refine wr_of_awF Try.func80 rfl kr kr kr kr fun W0 M0 X hX => ?_
 refine aw_seq ?_
 refine aw_region eqok [] [] [] [1, 2, 3, 6] [3, 6, 1000] [] ⟨[(1, .av (.one (lst 3 TType.c types))), (2, tP 1000 0), (3, tP 3 0), (6, tP 6 0)], [(3, Z2u b), (6, .cells [.i 0, .i 0] 31), (1000, .cells (TDraw.c d) 94)]⟩ .nil kr .nil <| ath_n <| aw_seq ?_
 refine aw_region eqok [] [] [(13, (Z2v d))] [1, 2, 3, 6, 7] [3, 6, 1000] [Same ((Z2v d)).2.1, SameB (.cells (TDraw.c d) 94)] ⟨[(1, .av (.one (lst 3 TType.c types))), (2, tP 1000 0), (3, tP 3 0), (6, tP 6 0), (7, tI ((FNext d 12).1))], [(3, Z2u b), (6, .cells [.i 0, .i 0] 31), (1000, .cells (TDraw.c ((FNext d 12).2)) 94)]⟩ (.cons (callOk_wr (fun _ _ => kr) kr kr (pNext d 12 au8 au0)) .nil) kr (.cons rfl (.cons rfl .nil)) <| ath_n <| aw_seq ?_
 refine aw_region eqok [] [] [(15, (Z2w d))] [1, 3, 6, 7, 8] [3, 6, 1000] [Same ((Z2w d)).2.1, SameB (.cells (TDraw.c ((FNext d 12).2)) 94)] ⟨[(1, .av (.one (lst 3 TType.c types))), (3, tP 3 0), (6, tP 6 0), (7, tI ((FNext d 12).1)), (8, tI ((FNext ((FNext d 12).2) 6).1))], [(3, Z2u b), (6, .cells [.i 0, .i 0] 31), (1000, Z2x d)]⟩ (.cons (callOk_wr (fun _ _ => kr) kr kr (pNext ((FNext d 12).2) 6 au8 au0)) .nil) kr (.cons rfl (.cons rfl .nil)) <| ath_n ?_
 refine aw_seq <| aw_seq ?_
 refine aw_region eqok [] [] [] [1, 3, 6, 7, 8, 23] [3, 6, 1000] [((decide ((((FNext d 12).1) : Int) < 8)) = true) -> ((decide ((((FNext d 12).1) : Int) < 8)) = true), ((decide ((((FNext d 12).1) : Int) < 8)) = true) -> ((decide ((((FNext d 12).1) : Int) < 8)) = true), ((decide ((((FNext d 12).1) : Int) < 8)) = true) -> ((decide ((((FNext d 12).1) : Int) < 8)) = true), (decide ((((FNext d 12).1) : Int) < 8)) = true -> ((decide ((((FNext d 12).1) : Int) < 8)) = true)] ⟨[(1, .av (.one (lst 3 TType.c types))), (3, tP 3 0), (6, tP 6 0), (7, tI ((FNext d 12).1)), (8, tI ((FNext ((FNext d 12).2) 6).1)), (23, tB (bif decide ((((FNext d 12).1) : Int) < 8) then decide ((0 : Int) < ((b.Parts.length : Int))) else false))], [(3, Z2u b), (6, .cells [.i 0, .i 0] 31), (1000, Z2x d)]⟩ .nil kr (.cons id (.cons id (.cons id (.cons id .nil)))) <| ath_n ?_
 refine aw_cond (bif decide ((((FNext d 12).1) : Int) < 8) then decide ((0 : Int) < ((b.Parts.length : Int))) else false) kr (fun h1 => ?_) (fun h1 => ?_)
 ·have g1 := and_dec h1
  refine aw_seq ?_
  refine aw_draw mixed eqok [] [] [] [1, 6, 8, 9] [6, 9, 1000] [((b.Parts.length : Int) : Int) ≠ 0, 0 <= (Int.tmod ((FNext d 12).1) ((b.Parts.length : Int)) : Int) /\ (Int.tmod ((FNext d 12).1) ((b.Parts.length : Int)) : Int) < ((b.Parts.length : Nat) : Int)] ⟨[(1, .av (.one (lst 3 TType.c types))), (6, tP 6 0), (8, tI ((FNext ((FNext d 12).2) 6).1)), (9, tP 9 0)], [(6, .cells [.i 0, .i 0] 31), (9, .cells (TPlaced.c (Z2y b d)) 115), (1000, Z2x d)]⟩ .nil kr kr (.cons (by first | decide | (have hq := and_dec2 h1; omega) | (have hq := sp_pads hg h1; show ¬ ((FGet13 types (b.Parts.getD (Int.tmod (FNext d 12).1 (b.Parts.length : Int)).toNat default).Type').1.Pads.length : Int) = 0; omega)) (.cons (by first | exact sp_ix h1 | exact idx_tmod (next_b _ 6 (by decide) (by decide)).1 (by have hq := sp_pads hg h1; show (0 : Int) < ((FGet13 types (b.Parts.getD (Int.tmod (FNext d 12).1 (b.Parts.length : Int)).toNat default).Type').1.Pads.length : Int); omega) | decide | omega) .nil)) <| ath_n <| aw_seq ?_
  refine aw_region eqok [] [] [(37, cGet13 types ((Z2y b d).Type'))] [6, 8, 9, 10] [6, 9, 10, 1000] [Same (cGet13 types ((Z2y b d).Type')).2.1] ⟨[(6, tP 6 0), (8, tI ((FNext ((FNext d 12).2) 6).1)), (9, tP 9 0), (10, tP 10 0)], [(6, .cells [.i 0, .i 0] 31), (9, .cells (TPlaced.c (Z2y b d)) 115), (10, .cells (TType.c ((FGet13 types ((Z2y b d).Type')).1)) 110), (1000, Z2x d)]⟩ (.cons (okGet13 types ((Z2y b d).Type') au9) .nil) kr (.cons rfl .nil) <| ath_n <| aw_seq ?_
  refine aw_draw mixed eqok [] [] [(41, cMotion17 (Z2y b d)), (52, cref05Apply (FMotion17 (Z2y b d)) (Z2z types b d))] [6] [6, 1000] [Same (cMotion17 (Z2y b d)).2.1, (((((FGet13 types ((Z2y b d).Type')).1).Pads).length : Int) : Int) ≠ 0, 0 <= (Int.tmod ((FNext ((FNext d 12).2) 6).1) (((((FGet13 types ((Z2y b d).Type')).1).Pads).length : Int)) : Int) /\ (Int.tmod ((FNext ((FNext d 12).2) 6).1) (((((FGet13 types ((Z2y b d).Type')).1).Pads).length : Int)) : Int) < (((((FGet13 types ((Z2y b d).Type')).1).Pads).length : Nat) : Int), Same (cref05Apply (FMotion17 (Z2y b d)) (Z2z types b d)).2.1] ⟨[(6, tP 6 0)], [(6, .cells (TPoint.c (Z2A b d types)) 31), (1000, Z2x d)]⟩ (.cons (okMotion17 (Z2y b d)) (.cons (okref05Apply (FMotion17 (Z2y b d)) (Z2z types b d)) .nil)) kr kr (.cons rfl (.cons (by first | decide | (have hq := and_dec2 h1; omega) | (have hq := sp_pads hg h1; show ¬ ((FGet13 types (b.Parts.getD (Int.tmod (FNext d 12).1 (b.Parts.length : Int)).toNat default).Type').1.Pads.length : Int) = 0; omega)) (.cons (by first | exact sp_ix h1 | exact idx_tmod (next_b _ 6 (by decide) (by decide)).1 (by have hq := sp_pads hg h1; show (0 : Int) < ((FGet13 types (b.Parts.getD (Int.tmod (FNext d 12).1 (b.Parts.length : Int)).toNat default).Type').1.Pads.length : Int); omega) | decide | omega) (.cons rfl .nil)))) <| ath_n ?_
  refine aw_ret <| ath_r ?_
  exact ⟨_, Cv.refl _, .inl rfl, .av (.agg (TPoint.c (Z2A b d types))), by kernel_rfl, ⟨tve_eq (by first | (simp only [Fspot17, h1, cond_true, cond_false] <;> rfl)), .cells (TDraw.c ((FNext ((FNext d 12).2) 6).2)) 94, by kernel_rfl, bke_eq (by first | (simp only [Fspot17, h1, cond_true, cond_false]; done) | (simp only [Fspot17, h1, cond_true, cond_false]; kernel_rfl))⟩⟩
 ·refine aw_skip <| ath_n <| aw_seq ?_
  refine aw_region eqok [] [] [] [6] [6, 1000] [(360 : Int) ≠ 0] ⟨[(6, tP 6 0)], [(6, .cells [.i (W64 (30 + (Int.tmod (W64 (40 * ((FNext d 12).1))) 360))), .i (W64 (30 + (W64 (60 * ((FNext ((FNext d 12).2) 6).1)))))] 31), (1000, Z2x d)]⟩ .nil kr (.cons (by first | decide | (have hq := and_dec2 h1; omega) | (have hq := sp_pads hg h1; show ¬ ((FGet13 types (b.Parts.getD (Int.tmod (FNext d 12).1 (b.Parts.length : Int)).toNat default).Type').1.Pads.length : Int) = 0; omega)) .nil) <| ath_n <| aw_ret ?_
  exact ⟨_, Cv.refl _, .inl rfl, .av (.agg [.i (W64 (30 + (Int.tmod (W64 (40 * ((FNext d 12).1))) 360))), .i (W64 (30 + (W64 (60 * ((FNext ((FNext d 12).2) 6).1)))))]), by kernel_rfl, ⟨tve_eq (by first | (simp only [Fspot17, h1, cond_true, cond_false] <;> rfl)), .cells (TDraw.c ((FNext ((FNext d 12).2) 6).2)) 94, by kernel_rfl, bke_eq (by first | (simp only [Fspot17, h1, cond_true, cond_false]; done) | (simp only [Fspot17, h1, cond_true, cond_false]; kernel_rfl))⟩⟩
theorem draw_bif2 {α : Type} {c : Bool} {a b : α × TDraw} (ha : DrawOk a.2) (hb : DrawOk b.2) : DrawOk (bif c then a else b).2 := by cases c <;> assumption
theorem net_ok {b : TBoard} {d : TDraw} (h : DrawOk d) : DrawOk (Fnet17 b d).2 := next_ok h
theorem chain_ok {a c : TPoint} {d : TDraw} (h : DrawOk d) : DrawOk (Fchain17 a c d).2 := by
 unfold Fchain17
 exact draw_bif2 (next_ok h) (draw_bif2 (next_ok (next_ok h)) (next_ok h))
theorem spot_ok {b : TBoard} {types : List TType} {d : TDraw} (h : DrawOk d) : DrawOk (Fspot17 b types d).2 := by
 unfold Fspot17
 exact draw_bif2 (next_ok (next_ok h)) (next_ok (next_ok h))
theorem part_ok {l : List (List Int)} (hl : ∀ x ∈ l, (x.length : Int) <= 9223372036854775807) (k : Int) : ((Fpart17 l k).length : Int) <= 9223372036854775807 := by
 unfold Fpart17
 by_cases h : k < (l.length : Int)
 ·rw [decide_eq_true h]
  simp only [cond_true]
  by_cases hk : k.toNat < l.length
  ·rw [List.getD_eq_getElem?_getD, List.getElem?_eq_getElem hk]
   exact hl _ (List.getElem_mem _)
  ·rw [List.getD_eq_getElem?_getD, List.getElem?_eq_none (by omega)]
   decide
 ·rw [decide_eq_false h]
  exact Int.le_of_lt (by decide : ((([] : List Int).length : Nat) : Int) < 9223372036854775807)
theorem lt_next {v : Int} {d : TDraw} {n : Int} (h : v < (FNext d n).1) (h0 : 0 < n) (h1 : n <= 1000000) : v < n := by
 have := next_b d n h0 (by omega)
 omega
end
end Go.Proofs.Ytgmhnkoifdpemaa
