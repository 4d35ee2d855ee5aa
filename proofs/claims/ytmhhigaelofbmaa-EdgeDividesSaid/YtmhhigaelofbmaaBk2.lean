/-
  No statement is proved in this text. It holds what functions return.
-/
import Derived.Test.YtmhhigaelofbmaaProg
import Derived.Test.YtmhhigaelofbmaaBk1
namespace Go.Proofs.Ytmhhigaelofbmaa
open Go.RowKit
set_option linter.unusedVariables false
set_option linter.unusedSimpArgs false
def Fref05Right (x0 : TPoint) : Bool := bif bif bif decide ((((-67108864)) : Int) ≤ x0.X) then decide ((x0.X : Int) ≤ 67108864) else false then decide ((((-67108864)) : Int) ≤ x0.Y) else false then decide ((x0.Y : Int) ≤ 67108864) else false
def cref05Right (x0 : TPoint) : FuncId × List Av × Ef := (36, [.agg [.i x0.X, .i x0.Y]], .val [] (.av (.one (.b (Fref05Right x0)))))
set_option maxRecDepth 100000 in
theorem pref05Right (x0 : TPoint) : Pure Try.prog 36 (cref05Right x0).2.1 (.av (.one (.b (Fref05Right x0)))) := by
  refine pure_of_aw Try.func36 rfl (by kernel_rfl) (by kernel_rfl) fun W0 M0 => ?_
  refine aw_seq ?_
  refine aw_region eqok [] [1] [1] [] ⟨[(1, .av (.one (.ptr 1 0)))], [(1, .cells [.i x0.X, .i x0.Y] 24)]⟩ .nil (by kernel_rfl) .nil ?_
  refine ath_n ?_
  refine aw_seq ?_
  refine aw_region eqok [] [2] [] [((decide ((((-67108864)) : Int) ≤ x0.X)) = true) → ((decide ((((-67108864)) : Int) ≤ x0.X)) = true), ((decide ((((-67108864)) : Int) ≤ x0.X)) = true) → ((decide ((((-67108864)) : Int) ≤ x0.X)) = true), (decide ((((-67108864)) : Int) ≤ x0.X)) = true → ((decide ((((-67108864)) : Int) ≤ x0.X)) = true), ((bif decide ((((-67108864)) : Int) ≤ x0.X) then decide ((x0.X : Int) ≤ 67108864) else false) = true) → ((bif decide ((((-67108864)) : Int) ≤ x0.X) then decide ((x0.X : Int) ≤ 67108864) else false) = true), ((bif decide ((((-67108864)) : Int) ≤ x0.X) then decide ((x0.X : Int) ≤ 67108864) else false) = true) → ((bif decide ((((-67108864)) : Int) ≤ x0.X) then decide ((x0.X : Int) ≤ 67108864) else false) = true), (bif decide ((((-67108864)) : Int) ≤ x0.X) then decide ((x0.X : Int) ≤ 67108864) else false) = true → ((bif decide ((((-67108864)) : Int) ≤ x0.X) then decide ((x0.X : Int) ≤ 67108864) else false) = true), ((bif bif decide ((((-67108864)) : Int) ≤ x0.X) then decide ((x0.X : Int) ≤ 67108864) else false then decide ((((-67108864)) : Int) ≤ x0.Y) else false) = true) → ((bif bif decide ((((-67108864)) : Int) ≤ x0.X) then decide ((x0.X : Int) ≤ 67108864) else false then decide ((((-67108864)) : Int) ≤ x0.Y) else false) = true), ((bif bif decide ((((-67108864)) : Int) ≤ x0.X) then decide ((x0.X : Int) ≤ 67108864) else false then decide ((((-67108864)) : Int) ≤ x0.Y) else false) = true) → ((bif bif decide ((((-67108864)) : Int) ≤ x0.X) then decide ((x0.X : Int) ≤ 67108864) else false then decide ((((-67108864)) : Int) ≤ x0.Y) else false) = true), (bif bif decide ((((-67108864)) : Int) ≤ x0.X) then decide ((x0.X : Int) ≤ 67108864) else false then decide ((((-67108864)) : Int) ≤ x0.Y) else false) = true → ((bif bif decide ((((-67108864)) : Int) ≤ x0.X) then decide ((x0.X : Int) ≤ 67108864) else false then decide ((((-67108864)) : Int) ≤ x0.Y) else false) = true)] ⟨[(2, .av (.one (.b (bif bif bif decide ((((-67108864)) : Int) ≤ x0.X) then decide ((x0.X : Int) ≤ 67108864) else false then decide ((((-67108864)) : Int) ≤ x0.Y) else false then decide ((x0.Y : Int) ≤ 67108864) else false))))], []⟩ .nil (by kernel_rfl) (.cons (by intros; first | assumption | exact And.left (by assumption) | simp_all) (.cons (by intros; first | assumption | exact And.left (by assumption) | simp_all) (.cons id (.cons (by intros; first | assumption | exact And.left (by assumption) | simp_all) (.cons (by intros; first | assumption | exact And.left (by assumption) | simp_all) (.cons id (.cons (by intros; first | assumption | exact And.left (by assumption) | simp_all) (.cons (by intros; first | assumption | exact And.left (by assumption) | simp_all) (.cons id .nil))))))))) ?_
  refine ath_n ?_
  refine aw_ret ?_
  exact ⟨.inl rfl, .av (.one (.b (bif bif bif decide ((((-67108864)) : Int) ≤ x0.X) then decide ((x0.X : Int) ≤ 67108864) else false then decide ((((-67108864)) : Int) ≤ x0.Y) else false then decide ((x0.Y : Int) ≤ 67108864) else false))), by kernel_rfl, (by rfl)⟩
theorem okref05Right (x0 : TPoint) : CallOk Try.prog (cref05Right x0).1 (cref05Right x0).2.1 (cref05Right x0).2.2 := callOk_pure (fun _ _ => by kernel_rfl) fun _ => pref05Right x0 
def Fref05Sub (x0 : TPoint) (x1 : TPoint) : TPoint := TPoint.mk (W64 (x0.X - x1.X)) (W64 (x0.Y - x1.Y))
def cref05Sub (x0 : TPoint) (x1 : TPoint) : FuncId × List Av × Ef := (37, [.agg [.i x0.X, .i x0.Y], .agg [.i x1.X, .i x1.Y]], .val [] (.av (.agg [.i ((Fref05Sub x0 x1).X), .i ((Fref05Sub x0 x1).Y)])))
set_option maxRecDepth 100000 in
theorem pref05Sub (x0 : TPoint) (x1 : TPoint) : Pure Try.prog 37 (cref05Sub x0 x1).2.1 (.av (.agg [.i ((Fref05Sub x0 x1).X), .i ((Fref05Sub x0 x1).Y)])) := by
  refine pure_of_aw Try.func37 rfl (by kernel_rfl) (by kernel_rfl) fun W0 M0 => ?_
  refine aw_seq ?_
  refine aw_region eqok [] [2, 3, 4] [2, 3, 4] [] ⟨[(2, .av (.one (.ptr 2 0))), (3, .av (.one (.ptr 3 0))), (4, .av (.one (.ptr 4 0)))], [(2, .cells [.i x0.X, .i x0.Y] 24), (3, .cells [.i x1.X, .i x1.Y] 24), (4, .cells [.i 0, .i 0] 24)]⟩ .nil (by kernel_rfl) .nil ?_
  refine ath_n ?_
  refine aw_seq ?_
  refine aw_region eqok [] [4] [4] [] ⟨[(4, .av (.one (.ptr 4 0)))], [(4, .cells [.i (W64 (x0.X - x1.X)), .i (W64 (x0.Y - x1.Y))] 24)]⟩ .nil (by kernel_rfl) .nil ?_
  refine ath_n ?_
  refine aw_ret ?_
  exact ⟨.inl rfl, .av (.agg [.i (W64 (x0.X - x1.X)), .i (W64 (x0.Y - x1.Y))]), by kernel_rfl, (by rfl)⟩
theorem okref05Sub (x0 : TPoint) (x1 : TPoint) : CallOk Try.prog (cref05Sub x0 x1).1 (cref05Sub x0 x1).2.1 (cref05Sub x0 x1).2.2 := callOk_pure (fun _ _ => by kernel_rfl) fun _ => pref05Sub x0 x1 
def Fref05Add (x0 : TPoint) (x1 : TPoint) : TPoint := TPoint.mk (W64 (x0.X + x1.X)) (W64 (x0.Y + x1.Y))
def cref05Add (x0 : TPoint) (x1 : TPoint) : FuncId × List Av × Ef := (32, [.agg [.i x0.X, .i x0.Y], .agg [.i x1.X, .i x1.Y]], .val [] (.av (.agg [.i ((Fref05Add x0 x1).X), .i ((Fref05Add x0 x1).Y)])))
set_option maxRecDepth 100000 in
theorem pref05Add (x0 : TPoint) (x1 : TPoint) : Pure Try.prog 32 (cref05Add x0 x1).2.1 (.av (.agg [.i ((Fref05Add x0 x1).X), .i ((Fref05Add x0 x1).Y)])) := by
  refine pure_of_aw Try.func32 rfl (by kernel_rfl) (by kernel_rfl) fun W0 M0 => ?_
  refine aw_seq ?_
  refine aw_region eqok [] [2, 3, 4] [2, 3, 4] [] ⟨[(2, .av (.one (.ptr 2 0))), (3, .av (.one (.ptr 3 0))), (4, .av (.one (.ptr 4 0)))], [(2, .cells [.i x0.X, .i x0.Y] 24), (3, .cells [.i x1.X, .i x1.Y] 24), (4, .cells [.i 0, .i 0] 24)]⟩ .nil (by kernel_rfl) .nil ?_
  refine ath_n ?_
  refine aw_seq ?_
  refine aw_region eqok [] [4] [4] [] ⟨[(4, .av (.one (.ptr 4 0)))], [(4, .cells [.i (W64 (x0.X + x1.X)), .i (W64 (x0.Y + x1.Y))] 24)]⟩ .nil (by kernel_rfl) .nil ?_
  refine ath_n ?_
  refine aw_ret ?_
  exact ⟨.inl rfl, .av (.agg [.i (W64 (x0.X + x1.X)), .i (W64 (x0.Y + x1.Y))]), by kernel_rfl, (by rfl)⟩
theorem okref05Add (x0 : TPoint) (x1 : TPoint) : CallOk Try.prog (cref05Add x0 x1).1 (cref05Add x0 x1).2.1 (cref05Add x0 x1).2.2 := callOk_pure (fun _ _ => by kernel_rfl) fun _ => pref05Add x0 x1 
def Fref05Dot (x0 : TPoint) (x1 : TPoint) : Int := W64 ((W64 (x0.X * x1.X)) + (W64 (x0.Y * x1.Y)))
def cref05Dot (x0 : TPoint) (x1 : TPoint) : FuncId × List Av × Ef := (43, [.agg [.i x0.X, .i x0.Y], .agg [.i x1.X, .i x1.Y]], .val [] (.av (.one (.i (Fref05Dot x0 x1)))))
set_option maxRecDepth 100000 in
theorem pref05Dot (x0 : TPoint) (x1 : TPoint) : Pure Try.prog 43 (cref05Dot x0 x1).2.1 (.av (.one (.i (Fref05Dot x0 x1)))) := by
  refine pure_of_aw Try.func43 rfl (by kernel_rfl) (by kernel_rfl) fun W0 M0 => ?_
  refine aw_seq ?_
  refine aw_region eqok [] [2, 3] [2, 3] [] ⟨[(2, .av (.one (.ptr 2 0))), (3, .av (.one (.ptr 3 0)))], [(2, .cells [.i x0.X, .i x0.Y] 24), (3, .cells [.i x1.X, .i x1.Y] 24)]⟩ .nil (by kernel_rfl) .nil ?_
  refine ath_n ?_
  refine aw_seq ?_
  refine aw_region eqok [] [4] [] [] ⟨[(4, .av (.one (.i (W64 ((W64 (x0.X * x1.X)) + (W64 (x0.Y * x1.Y)))))))], []⟩ .nil (by kernel_rfl) .nil ?_
  refine ath_n ?_
  refine aw_ret ?_
  exact ⟨.inl rfl, .av (.one (.i (W64 ((W64 (x0.X * x1.X)) + (W64 (x0.Y * x1.Y)))))), by kernel_rfl, (by rfl)⟩
theorem okref05Dot (x0 : TPoint) (x1 : TPoint) : CallOk Try.prog (cref05Dot x0 x1).1 (cref05Dot x0 x1).2.1 (cref05Dot x0 x1).2.2 := callOk_pure (fun _ _ => by kernel_rfl) fun _ => pref05Dot x0 x1 
def Fref05Cross (x0 : TPoint) (x1 : TPoint) : Int := W64 ((W64 (x0.X * x1.Y)) - (W64 (x0.Y * x1.X)))
def cref05Cross (x0 : TPoint) (x1 : TPoint) : FuncId × List Av × Ef := (42, [.agg [.i x0.X, .i x0.Y], .agg [.i x1.X, .i x1.Y]], .val [] (.av (.one (.i (Fref05Cross x0 x1)))))
set_option maxRecDepth 100000 in
theorem pref05Cross (x0 : TPoint) (x1 : TPoint) : Pure Try.prog 42 (cref05Cross x0 x1).2.1 (.av (.one (.i (Fref05Cross x0 x1)))) := by
  refine pure_of_aw Try.func42 rfl (by kernel_rfl) (by kernel_rfl) fun W0 M0 => ?_
  refine aw_seq ?_
  refine aw_region eqok [] [2, 3] [2, 3] [] ⟨[(2, .av (.one (.ptr 2 0))), (3, .av (.one (.ptr 3 0)))], [(2, .cells [.i x0.X, .i x0.Y] 24), (3, .cells [.i x1.X, .i x1.Y] 24)]⟩ .nil (by kernel_rfl) .nil ?_
  refine ath_n ?_
  refine aw_seq ?_
  refine aw_region eqok [] [4] [] [] ⟨[(4, .av (.one (.i (W64 ((W64 (x0.X * x1.Y)) - (W64 (x0.Y * x1.X)))))))], []⟩ .nil (by kernel_rfl) .nil ?_
  refine ath_n ?_
  refine aw_ret ?_
  exact ⟨.inl rfl, .av (.one (.i (W64 ((W64 (x0.X * x1.Y)) - (W64 (x0.Y * x1.X)))))), by kernel_rfl, (by rfl)⟩
theorem okref05Cross (x0 : TPoint) (x1 : TPoint) : CallOk Try.prog (cref05Cross x0 x1).1 (cref05Cross x0 x1).2.1 (cref05Cross x0 x1).2.2 := callOk_pure (fun _ _ => by kernel_rfl) fun _ => pref05Cross x0 x1 
def Fref05Turns (x0 : Int) : Int := Int.tmod (W64 ((Int.tmod x0 4) + 4)) 4
def cref05Turns (x0 : Int) : FuncId × List Av × Ef := (53, [.one (.i x0)], .val [] (.av (.one (.i (Fref05Turns x0)))))
set_option maxRecDepth 100000 in
theorem pref05Turns (x0 : Int) : Pure Try.prog 53 (cref05Turns x0).2.1 (.av (.one (.i (Fref05Turns x0)))) := by
  refine pure_of_aw Try.func53 rfl (by kernel_rfl) (by kernel_rfl) fun W0 M0 => ?_
  refine aw_seq ?_
  refine aw_region eqok [] [0] [] [] ⟨[(0, .av (.one (.i x0)))], []⟩ .nil (by kernel_rfl) .nil ?_
  refine ath_n ?_
  refine aw_seq ?_
  refine aw_region eqok [] [2] [] [(4 : Int) ≠ 0, (4 : Int) ≠ 0] ⟨[(2, .av (.one (.i (Int.tmod (W64 ((Int.tmod x0 4) + 4)) 4))))], []⟩ .nil (by kernel_rfl) (.cons (by first | assumption | decide | omega) (.cons (by first | assumption | decide | omega) .nil)) ?_
  refine ath_n ?_
  refine aw_ret ?_
  exact ⟨.inl rfl, .av (.one (.i (Int.tmod (W64 ((Int.tmod x0 4) + 4)) 4))), by kernel_rfl, (by rfl)⟩
theorem okref05Turns (x0 : Int) : CallOk Try.prog (cref05Turns x0).1 (cref05Turns x0).2.1 (cref05Turns x0).2.2 := callOk_pure (fun _ _ => by kernel_rfl) fun _ => pref05Turns x0 
def Fref05turned (x0 : TPoint) (x1 : Int) : TPoint := bif decide (((Fref05Turns x1) : Int) = 1) then (TPoint.mk (W64 (0 - x0.Y)) x0.X) else (bif decide (((Fref05Turns x1) : Int) = 2) then (TPoint.mk (W64 (0 - x0.X)) (W64 (0 - x0.Y))) else (bif decide (((Fref05Turns x1) : Int) = 3) then (TPoint.mk x0.Y (W64 (0 - x0.X))) else (x0)))
def cref05turned (x0 : TPoint) (x1 : Int) : FuncId × List Av × Ef := (48, [.agg [.i x0.X, .i x0.Y], .one (.i x1)], .val [] (.av (.agg [.i ((Fref05turned x0 x1).X), .i ((Fref05turned x0 x1).Y)])))
set_option maxRecDepth 100000 in
theorem pref05turned (x0 : TPoint) (x1 : Int) : Pure Try.prog 48 (cref05turned x0 x1).2.1 (.av (.agg [.i ((Fref05turned x0 x1).X), .i ((Fref05turned x0 x1).Y)])) := by
  refine pure_of_aw Try.func48 rfl (by kernel_rfl) (by kernel_rfl) fun W0 M0 => ?_
  refine aw_seq ?_
  refine aw_region eqok [] [1, 2, 4] [2, 4] [] ⟨[(1, .av (.one (.i x1))), (2, .av (.one (.ptr 2 0))), (4, .av (.one (.ptr 4 0)))], [(2, .cells [.i x0.X, .i x0.Y] 24), (4, .cells [.i 0, .i 0] 24)]⟩ .nil (by kernel_rfl) .nil ?_
  refine ath_n ?_
  refine aw_seq ?_
  refine aw_seq ?_
  refine aw_region eqok [(6, cref05Turns x1)] [2, 4, 6] [2, 4] [Same (cref05Turns x1).2.1] ⟨[(2, .av (.one (.ptr 2 0))), (4, .av (.one (.ptr 4 0))), (6, .av (.one (.i (Fref05Turns x1))))], [(2, .cells [.i x0.X, .i x0.Y] 24), (4, .cells [.i 0, .i 0] 24)]⟩ (.cons (okref05Turns x1) .nil) (by kernel_rfl) (.cons rfl .nil) ?_
  refine ath_n ?_
  refine aw_block ?_
  refine aw_seq ?_
  refine aw_region eqok [] [2, 4, 6, 7] [2, 4] [] ⟨[(2, .av (.one (.ptr 2 0))), (4, .av (.one (.ptr 4 0))), (6, .av (.one (.i (Fref05Turns x1)))), (7, .av (.one (.b (decide (((Fref05Turns x1) : Int) = 1)))))], [(2, .cells [.i x0.X, .i x0.Y] 24), (4, .cells [.i 0, .i 0] 24)]⟩ .nil (by kernel_rfl) .nil ?_
  refine ath_n ?_
  refine aw_cond (decide (((Fref05Turns x1) : Int) = 1)) (by kernel_rfl) (fun h1 => ?_) (fun h1 => ?_)
  · have g1 := of_decide_eq_true h1
    refine aw_seq ?_
    refine aw_region eqok [] [4] [4] [] ⟨[(4, .av (.one (.ptr 4 0)))], [(4, .cells [.i (W64 (0 - x0.Y)), .i x0.X] 24)]⟩ .nil (by kernel_rfl) .nil ?_
    refine ath_n ?_
    refine aw_ret ?_
    refine abl_r ?_
    refine ath_r ?_
    exact ⟨.inl rfl, .av (.agg [.i (W64 (0 - x0.Y)), .i x0.X]), by kernel_rfl, (by first | (simp only [Fref05turned, h1, cond_true, cond_false]; done) | (simp only [Fref05turned, h1, cond_true, cond_false]; rfl))⟩
  · have g1 := of_decide_eq_false h1
    refine aw_seq ?_
    refine aw_region eqok [] [2, 4, 6, 15] [2, 4] [] ⟨[(2, .av (.one (.ptr 2 0))), (4, .av (.one (.ptr 4 0))), (6, .av (.one (.i (Fref05Turns x1)))), (15, .av (.one (.b (decide (((Fref05Turns x1) : Int) = 2)))))], [(2, .cells [.i x0.X, .i x0.Y] 24), (4, .cells [.i 0, .i 0] 24)]⟩ .nil (by kernel_rfl) .nil ?_
    refine ath_n ?_
    refine aw_cond (decide (((Fref05Turns x1) : Int) = 2)) (by kernel_rfl) (fun h2 => ?_) (fun h2 => ?_)
    · have g2 := of_decide_eq_true h2
      refine aw_seq ?_
      refine aw_region eqok [] [4] [4] [] ⟨[(4, .av (.one (.ptr 4 0)))], [(4, .cells [.i (W64 (0 - x0.X)), .i (W64 (0 - x0.Y))] 24)]⟩ .nil (by kernel_rfl) .nil ?_
      refine ath_n ?_
      refine aw_ret ?_
      refine abl_r ?_
      refine ath_r ?_
      exact ⟨.inl rfl, .av (.agg [.i (W64 (0 - x0.X)), .i (W64 (0 - x0.Y))]), by kernel_rfl, (by first | (simp only [Fref05turned, h1, h2, cond_true, cond_false]; done) | (simp only [Fref05turned, h1, h2, cond_true, cond_false]; rfl))⟩
    · have g2 := of_decide_eq_false h2
      refine aw_seq ?_
      refine aw_region eqok [] [2, 4, 24] [2, 4] [] ⟨[(2, .av (.one (.ptr 2 0))), (4, .av (.one (.ptr 4 0))), (24, .av (.one (.b (decide (((Fref05Turns x1) : Int) = 3)))))], [(2, .cells [.i x0.X, .i x0.Y] 24), (4, .cells [.i 0, .i 0] 24)]⟩ .nil (by kernel_rfl) .nil ?_
      refine ath_n ?_
      refine aw_cond (decide (((Fref05Turns x1) : Int) = 3)) (by kernel_rfl) (fun h3 => ?_) (fun h3 => ?_)
      · have g3 := of_decide_eq_true h3
        refine aw_seq ?_
        refine aw_region eqok [] [4] [4] [] ⟨[(4, .av (.one (.ptr 4 0)))], [(4, .cells [.i x0.Y, .i (W64 (0 - x0.X))] 24)]⟩ .nil (by kernel_rfl) .nil ?_
        refine ath_n ?_
        refine aw_ret ?_
        refine abl_r ?_
        refine ath_r ?_
        exact ⟨.inl rfl, .av (.agg [.i x0.Y, .i (W64 (0 - x0.X))]), by kernel_rfl, (by first | (simp only [Fref05turned, h1, h2, h3, cond_true, cond_false]; done) | (simp only [Fref05turned, h1, h2, h3, cond_true, cond_false]; rfl))⟩
      · have g3 := of_decide_eq_false h3
        refine aw_skip ?_
        refine abl_n ?_
        refine ath_n ?_
        refine aw_seq ?_
        refine aw_region eqok [] [4] [4] [] ⟨[(4, .av (.one (.ptr 4 0)))], [(4, .cells [.i x0.X, .i x0.Y] 24)]⟩ .nil (by kernel_rfl) .nil ?_
        refine ath_n ?_
        refine aw_ret ?_
        exact ⟨.inl rfl, .av (.agg [.i x0.X, .i x0.Y]), by kernel_rfl, (by first | (simp only [Fref05turned, h1, h2, h3, cond_true, cond_false]; done) | (simp only [Fref05turned, h1, h2, h3, cond_true, cond_false]; rfl))⟩
theorem okref05turned (x0 : TPoint) (x1 : Int) : CallOk Try.prog (cref05turned x0 x1).1 (cref05turned x0 x1).2.1 (cref05turned x0 x1).2.2 := callOk_pure (fun _ _ => by kernel_rfl) fun _ => pref05turned x0 x1 
def Fref05mirrored (x0 : TPoint) (x1 : Bool) : TPoint := TPoint.mk (bif x1 then (W64 (0 - x0.X)) else x0.X) x0.Y
def cref05mirrored (x0 : TPoint) (x1 : Bool) : FuncId × List Av × Ef := (49, [.agg [.i x0.X, .i x0.Y], .one (.b x1)], .val [] (.av (.agg [.i ((Fref05mirrored x0 x1).X), .i ((Fref05mirrored x0 x1).Y)])))
set_option maxRecDepth 100000 in
theorem pref05mirrored (x0 : TPoint) (x1 : Bool) : Pure Try.prog 49 (cref05mirrored x0 x1).2.1 (.av (.agg [.i ((Fref05mirrored x0 x1).X), .i ((Fref05mirrored x0 x1).Y)])) := by
  refine pure_of_aw Try.func49 rfl (by kernel_rfl) (by kernel_rfl) fun W0 M0 => ?_
  refine aw_seq ?_
  refine aw_region eqok [] [1, 2, 4] [2, 4] [] ⟨[(1, .av (.one (.b x1))), (2, .av (.one (.ptr 2 0))), (4, .av (.one (.ptr 4 0)))], [(2, .cells [.i x0.X, .i x0.Y] 24), (4, .cells [.i 0, .i 0] 24)]⟩ .nil (by kernel_rfl) .nil ?_
  refine ath_n ?_
  refine aw_seq ?_
  refine aw_seq ?_
  refine aw_region eqok [] [2, 4, 5] [2, 4] [] ⟨[(2, .av (.one (.ptr 2 0))), (4, .av (.one (.ptr 4 0))), (5, .av (.one (.b x1)))], [(2, .cells [.i x0.X, .i x0.Y] 24), (4, .cells [.i 0, .i 0] 24)]⟩ .nil (by kernel_rfl) .nil ?_
  refine ath_n ?_
  refine aw_join [2, 4] [2, 4] ⟨[(2, .av (.one (.ptr 2 0))), (4, .av (.one (.ptr 4 0)))], [(2, .cells [.i (bif x1 then (W64 (0 - x0.X)) else x0.X), .i x0.Y] 24), (4, .cells [.i 0, .i 0] 24)]⟩ ?_ ?_
  · refine aw_cond (x1) (by kernel_rfl) (fun h1 => ?_) (fun h1 => ?_)
    · refine aw_region eqok [] [2, 4] [2, 4] [] ⟨[(2, .av (.one (.ptr 2 0))), (4, .av (.one (.ptr 4 0)))], [(2, .cells [.i (W64 (0 - x0.X)), .i x0.Y] 24), (4, .cells [.i 0, .i 0] 24)]⟩ .nil (by kernel_rfl) .nil ?_
      refine ath_n ?_
      refine Eq.trans (b := ⟨[(2, .av (.one (.ptr 2 0))), (4, .av (.one (.ptr 4 0)))], [(2, .cells [.i (W64 (0 - x0.X)), .i x0.Y] 24), (4, .cells [.i 0, .i 0] 24)]⟩) (by kernel_rfl) ?_
      first | rfl | (simp only [h1, cond_true, cond_false]; done)
    · refine aw_skip ?_
      refine ath_n ?_
      refine Eq.trans (b := ⟨[(2, .av (.one (.ptr 2 0))), (4, .av (.one (.ptr 4 0)))], [(2, .cells [.i x0.X, .i x0.Y] 24), (4, .cells [.i 0, .i 0] 24)]⟩) (by kernel_rfl) ?_
      first | rfl | (simp only [h1, cond_true, cond_false]; done)
  refine aw_seq ?_
  refine aw_region eqok [] [4] [4] [] ⟨[(4, .av (.one (.ptr 4 0)))], [(4, .cells [.i (bif x1 then (W64 (0 - x0.X)) else x0.X), .i x0.Y] 24)]⟩ .nil (by kernel_rfl) .nil ?_
  refine ath_n ?_
  refine aw_ret ?_
  exact ⟨.inl rfl, .av (.agg [.i (bif x1 then (W64 (0 - x0.X)) else x0.X), .i x0.Y]), by kernel_rfl, (by rfl)⟩
theorem okref05mirrored (x0 : TPoint) (x1 : Bool) : CallOk Try.prog (cref05mirrored x0 x1).1 (cref05mirrored x0 x1).2.1 (cref05mirrored x0 x1).2.2 := callOk_pure (fun _ _ => by kernel_rfl) fun _ => pref05mirrored x0 x1 
def Fref05Apply (x0 : TMotion) (x1 : TPoint) : TPoint := Fref05Add (Fref05turned (Fref05mirrored x1 x0.Mirror) x0.Turn) x0.At
def cref05Apply (x0 : TMotion) (x1 : TPoint) : FuncId × List Av × Ef := (31, [.agg [.i x0.At.X, .i x0.At.Y, .i x0.Turn, .b x0.Mirror], .agg [.i x1.X, .i x1.Y]], .val [] (.av (.agg [.i ((Fref05Apply x0 x1).X), .i ((Fref05Apply x0 x1).Y)])))
set_option maxRecDepth 100000 in
theorem pref05Apply (x0 : TMotion) (x1 : TPoint) : Pure Try.prog 31 (cref05Apply x0 x1).2.1 (.av (.agg [.i ((Fref05Apply x0 x1).X), .i ((Fref05Apply x0 x1).Y)])) := by
  refine pure_of_aw Try.func31 rfl (by kernel_rfl) (by kernel_rfl) fun W0 M0 => ?_
  refine aw_seq ?_
  refine aw_region eqok [] [2, 3, 4] [2, 3, 4] [] ⟨[(2, .av (.one (.ptr 2 0))), (3, .av (.one (.ptr 3 0))), (4, .av (.one (.ptr 4 0)))], [(2, .cells [.i x0.At.X, .i x0.At.Y, .i x0.Turn, .b x0.Mirror] 55), (3, .cells [.i x1.X, .i x1.Y] 24), (4, .cells [.i 0, .i 0] 24)]⟩ .nil (by kernel_rfl) .nil ?_
  refine ath_n ?_
  refine aw_seq ?_
  refine aw_draw mixed eqok [(8, cref05mirrored x1 x0.Mirror), (11, cref05turned (Fref05mirrored x1 x0.Mirror) x0.Turn), (14, cref05Add (Fref05turned (Fref05mirrored x1 x0.Mirror) x0.Turn) x0.At)] [4] [4] [Same (cref05mirrored x1 x0.Mirror).2.1, Same (cref05turned (Fref05mirrored x1 x0.Mirror) x0.Turn).2.1, Same (cref05Add (Fref05turned (Fref05mirrored x1 x0.Mirror) x0.Turn) x0.At).2.1] ⟨[(4, .av (.one (.ptr 4 0)))], [(4, .cells [.i ((Fref05Add (Fref05turned (Fref05mirrored x1 x0.Mirror) x0.Turn) x0.At).X), .i ((Fref05Add (Fref05turned (Fref05mirrored x1 x0.Mirror) x0.Turn) x0.At).Y)] 24)]⟩ (.cons (okref05mirrored x1 x0.Mirror) (.cons (okref05turned (Fref05mirrored x1 x0.Mirror) x0.Turn) (.cons (okref05Add (Fref05turned (Fref05mirrored x1 x0.Mirror) x0.Turn) x0.At) .nil))) (by kernel_rfl) (by kernel_rfl) (.cons rfl (.cons rfl (.cons rfl .nil))) ?_
  refine ath_n ?_
  refine aw_ret ?_
  exact ⟨.inl rfl, .av (.agg [.i ((Fref05Add (Fref05turned (Fref05mirrored x1 x0.Mirror) x0.Turn) x0.At).X), .i ((Fref05Add (Fref05turned (Fref05mirrored x1 x0.Mirror) x0.Turn) x0.At).Y)]), by kernel_rfl, (by rfl)⟩
theorem okref05Apply (x0 : TMotion) (x1 : TPoint) : CallOk Try.prog (cref05Apply x0 x1).1 (cref05Apply x0 x1).2.1 (cref05Apply x0 x1).2.2 := callOk_pure (fun _ _ => by kernel_rfl) fun _ => pref05Apply x0 x1 
def Fref06turn (x0 : Int) : Int := bif decide ((x0 : Int) = 2) then (3) else (bif decide ((x0 : Int) = 3) then (2) else (x0))
def cref06turn (x0 : Int) : FuncId × List Av × Ef := (46, [.one (.i x0)], .val [] (.av (.one (.i (Fref06turn x0)))))
set_option maxRecDepth 100000 in
theorem pref06turn (x0 : Int) : Pure Try.prog 46 (cref06turn x0).2.1 (.av (.one (.i (Fref06turn x0)))) := by
  refine pure_of_aw Try.func46 rfl (by kernel_rfl) (by kernel_rfl) fun W0 M0 => ?_
  refine aw_seq ?_
  refine aw_region eqok [] [0] [] [] ⟨[(0, .av (.one (.i x0)))], []⟩ .nil (by kernel_rfl) .nil ?_
  refine ath_n ?_
  refine aw_seq ?_
  refine aw_seq ?_
  refine aw_region eqok [] [0, 3] [] [] ⟨[(0, .av (.one (.i x0))), (3, .av (.one (.i x0)))], []⟩ .nil (by kernel_rfl) .nil ?_
  refine ath_n ?_
  refine aw_block ?_
  refine aw_seq ?_
  refine aw_region eqok [] [0, 3, 4] [] [] ⟨[(0, .av (.one (.i x0))), (3, .av (.one (.i x0))), (4, .av (.one (.b (decide ((x0 : Int) = 2)))))], []⟩ .nil (by kernel_rfl) .nil ?_
  refine ath_n ?_
  refine aw_cond (decide ((x0 : Int) = 2)) (by kernel_rfl) (fun h1 => ?_) (fun h1 => ?_)
  · have g1 := of_decide_eq_true h1
    refine aw_seq ?_
    refine aw_region eqok [] [2] [] [] ⟨[(2, .av (.one (.i 3)))], []⟩ .nil (by kernel_rfl) .nil ?_
    refine ath_n ?_
    refine aw_ret ?_
    refine abl_r ?_
    refine ath_r ?_
    exact ⟨.inl rfl, .av (.one (.i 3)), by kernel_rfl, (by first | (simp only [Fref06turn, h1, cond_true, cond_false]; done) | (simp only [Fref06turn, h1, cond_true, cond_false]; rfl))⟩
  · have g1 := of_decide_eq_false h1
    refine aw_seq ?_
    refine aw_region eqok [] [0, 6] [] [] ⟨[(0, .av (.one (.i x0))), (6, .av (.one (.b (decide ((x0 : Int) = 3)))))], []⟩ .nil (by kernel_rfl) .nil ?_
    refine ath_n ?_
    refine aw_cond (decide ((x0 : Int) = 3)) (by kernel_rfl) (fun h2 => ?_) (fun h2 => ?_)
    · have g2 := of_decide_eq_true h2
      refine aw_seq ?_
      refine aw_region eqok [] [2] [] [] ⟨[(2, .av (.one (.i 2)))], []⟩ .nil (by kernel_rfl) .nil ?_
      refine ath_n ?_
      refine aw_ret ?_
      refine abl_r ?_
      refine ath_r ?_
      exact ⟨.inl rfl, .av (.one (.i 2)), by kernel_rfl, (by first | (simp only [Fref06turn, h1, h2, cond_true, cond_false]; done) | (simp only [Fref06turn, h1, h2, cond_true, cond_false]; rfl))⟩
    · have g2 := of_decide_eq_false h2
      refine aw_skip ?_
      refine abl_n ?_
      refine ath_n ?_
      refine aw_seq ?_
      refine aw_region eqok [] [2] [] [] ⟨[(2, .av (.one (.i x0)))], []⟩ .nil (by kernel_rfl) .nil ?_
      refine ath_n ?_
      refine aw_ret ?_
      exact ⟨.inl rfl, .av (.one (.i x0)), by kernel_rfl, (by first | (simp only [Fref06turn, h1, h2, cond_true, cond_false]; done) | (simp only [Fref06turn, h1, h2, cond_true, cond_false]; rfl))⟩
theorem okref06turn (x0 : Int) : CallOk Try.prog (cref06turn x0).1 (cref06turn x0).2.1 (cref06turn x0).2.2 := callOk_pure (fun _ _ => by kernel_rfl) fun _ => pref06turn x0 
def Fref06Check (x0 : TEdge) : Int := bif bif decide ((x0.Kind : Int) < 1) then true else decide ((3 : Int) < x0.Kind) then (11) else (bif bif bif !(Fref05Right x0.A) then true else !(Fref05Right x0.B) then true else !(Fref05Right x0.C) then (10) else (bif decide ((x0.Kind : Int) = 1) then (bif !(decide (x0.C.X = 0) && (decide (x0.C.Y = 0) && true)) then (11) else (0)) else (bif bif ((decide ((((Fref05Sub x0.A x0.C).X) : Int) = 0)) == (decide ((((Fref05Sub x0.A x0.C).Y) : Int) = 0))) then true else !(decide (((Fref05Sub x0.B x0.C).X) = (bif decide ((x0.Kind : Int) = 3) then ((Fref05Sub x0.A x0.C).Y) else (W64 (0 - ((Fref05Sub x0.A x0.C).Y))))) && (decide (((Fref05Sub x0.B x0.C).Y) = (bif decide ((x0.Kind : Int) = 3) then (W64 (0 - ((Fref05Sub x0.A x0.C).X))) else ((Fref05Sub x0.A x0.C).X))) && true)) then (11) else (0))))
def cref06Check (x0 : TEdge) : FuncId × List Av × Ef := (15, [.agg [.i x0.Kind, .i x0.A.X, .i x0.A.Y, .i x0.B.X, .i x0.B.Y, .i x0.C.X, .i x0.C.Y]], .val [] (.av (.one (.i (Fref06Check x0)))))
set_option maxRecDepth 100000 in
theorem pref06Check (x0 : TEdge) : Pure Try.prog 15 (cref06Check x0).2.1 (.av (.one (.i (Fref06Check x0)))) := by
  refine pure_of_aw Try.func15 rfl (by kernel_rfl) (by kernel_rfl) fun W0 M0 => ?_
  refine aw_seq ?_
  refine aw_region eqok [] [1] [1] [] ⟨[(1, .av (.one (.ptr 1 0)))], [(1, .cells [.i x0.Kind, .i x0.A.X, .i x0.A.Y, .i x0.B.X, .i x0.B.Y, .i x0.C.X, .i x0.C.Y] 26)]⟩ .nil (by kernel_rfl) .nil ?_
  refine ath_n ?_
  refine aw_seq ?_
  refine aw_seq ?_
  refine aw_region eqok [] [1, 16] [1] [((decide ((x0.Kind : Int) < 1)) = false) → ((decide ((x0.Kind : Int) < 1)) = false), ((decide ((x0.Kind : Int) < 1)) = false) → ((decide ((x0.Kind : Int) < 1)) = false), (decide ((x0.Kind : Int) < 1)) = false → ((decide ((x0.Kind : Int) < 1)) = false)] ⟨[(1, .av (.one (.ptr 1 0))), (16, .av (.one (.b (bif decide ((x0.Kind : Int) < 1) then true else decide ((3 : Int) < x0.Kind)))))], [(1, .cells [.i x0.Kind, .i x0.A.X, .i x0.A.Y, .i x0.B.X, .i x0.B.Y, .i x0.C.X, .i x0.C.Y] 26)]⟩ .nil (by kernel_rfl) (.cons (by intros; first | assumption | exact And.left (by assumption) | simp_all) (.cons (by intros; first | assumption | exact And.left (by assumption) | simp_all) (.cons id .nil))) ?_
  refine ath_n ?_
  refine aw_cond (bif decide ((x0.Kind : Int) < 1) then true else decide ((3 : Int) < x0.Kind)) (by kernel_rfl) (fun h1 => ?_) (fun h1 => ?_)
  · refine aw_seq ?_
    refine aw_region eqok [] [2] [] [] ⟨[(2, .av (.one (.i 11)))], []⟩ .nil (by kernel_rfl) .nil ?_
    refine ath_n ?_
    refine aw_ret ?_
    refine ath_r ?_
    exact ⟨.inl rfl, .av (.one (.i 11)), by kernel_rfl, (by first | (simp only [Fref06Check, h1, cond_true, cond_false]; done) | (simp only [Fref06Check, h1, cond_true, cond_false]; rfl))⟩
  · refine aw_skip ?_
    refine ath_n ?_
    refine aw_seq ?_
    refine aw_region eqok [(19, cref05Right x0.A)] [1, 3] [1] [Same (cref05Right x0.A).2.1] ⟨[(1, .av (.one (.ptr 1 0))), (3, .av (.one (.b (Fref05Right x0.A))))], [(1, .cells [.i x0.Kind, .i x0.A.X, .i x0.A.Y, .i x0.B.X, .i x0.B.Y, .i x0.C.X, .i x0.C.Y] 26)]⟩ (.cons (okref05Right x0.A) .nil) (by kernel_rfl) (.cons rfl .nil) ?_
    refine ath_n ?_
    refine aw_seq ?_
    refine aw_region eqok [(22, cref05Right x0.B)] [1, 3, 4] [1] [Same (cref05Right x0.B).2.1] ⟨[(1, .av (.one (.ptr 1 0))), (3, .av (.one (.b (Fref05Right x0.A)))), (4, .av (.one (.b (Fref05Right x0.B))))], [(1, .cells [.i x0.Kind, .i x0.A.X, .i x0.A.Y, .i x0.B.X, .i x0.B.Y, .i x0.C.X, .i x0.C.Y] 26)]⟩ (.cons (okref05Right x0.B) .nil) (by kernel_rfl) (.cons rfl .nil) ?_
    refine ath_n ?_
    refine aw_seq ?_
    refine aw_region eqok [(25, cref05Right x0.C)] [1, 3, 4, 5] [1] [Same (cref05Right x0.C).2.1] ⟨[(1, .av (.one (.ptr 1 0))), (3, .av (.one (.b (Fref05Right x0.A)))), (4, .av (.one (.b (Fref05Right x0.B)))), (5, .av (.one (.b (Fref05Right x0.C))))], [(1, .cells [.i x0.Kind, .i x0.A.X, .i x0.A.Y, .i x0.B.X, .i x0.B.Y, .i x0.C.X, .i x0.C.Y] 26)]⟩ (.cons (okref05Right x0.C) .nil) (by kernel_rfl) (.cons rfl .nil) ?_
    refine ath_n ?_
    refine aw_seq ?_
    refine aw_seq ?_
    refine aw_region eqok [] [1, 35] [1] [((!(Fref05Right x0.A)) = false) → ((!(Fref05Right x0.A)) = false), (!(Fref05Right x0.A)) = false → ((!(Fref05Right x0.A)) = false), ((bif !(Fref05Right x0.A) then true else !(Fref05Right x0.B)) = false) → ((bif !(Fref05Right x0.A) then true else !(Fref05Right x0.B)) = false), (bif !(Fref05Right x0.A) then true else !(Fref05Right x0.B)) = false → ((bif !(Fref05Right x0.A) then true else !(Fref05Right x0.B)) = false)] ⟨[(1, .av (.one (.ptr 1 0))), (35, .av (.one (.b (bif bif !(Fref05Right x0.A) then true else !(Fref05Right x0.B) then true else !(Fref05Right x0.C)))))], [(1, .cells [.i x0.Kind, .i x0.A.X, .i x0.A.Y, .i x0.B.X, .i x0.B.Y, .i x0.C.X, .i x0.C.Y] 26)]⟩ .nil (by kernel_rfl) (.cons (by intros; first | assumption | exact And.left (by assumption) | simp_all) (.cons id (.cons (by intros; first | assumption | exact And.left (by assumption) | simp_all) (.cons id .nil)))) ?_
    refine ath_n ?_
    refine aw_cond (bif bif !(Fref05Right x0.A) then true else !(Fref05Right x0.B) then true else !(Fref05Right x0.C)) (by kernel_rfl) (fun h2 => ?_) (fun h2 => ?_)
    · refine aw_seq ?_
      refine aw_region eqok [] [2] [] [] ⟨[(2, .av (.one (.i 10)))], []⟩ .nil (by kernel_rfl) .nil ?_
      refine ath_n ?_
      refine aw_ret ?_
      refine ath_r ?_
      exact ⟨.inl rfl, .av (.one (.i 10)), by kernel_rfl, (by first | (simp only [Fref06Check, h1, h2, cond_true, cond_false]; done) | (simp only [Fref06Check, h1, h2, cond_true, cond_false]; rfl))⟩
    · refine aw_skip ?_
      refine ath_n ?_
      refine aw_seq ?_
      refine aw_seq ?_
      refine aw_region eqok [] [1, 38] [1] [] ⟨[(1, .av (.one (.ptr 1 0))), (38, .av (.one (.b (decide ((x0.Kind : Int) = 1)))))], [(1, .cells [.i x0.Kind, .i x0.A.X, .i x0.A.Y, .i x0.B.X, .i x0.B.Y, .i x0.C.X, .i x0.C.Y] 26)]⟩ .nil (by kernel_rfl) .nil ?_
      refine ath_n ?_
      refine aw_cond (decide ((x0.Kind : Int) = 1)) (by kernel_rfl) (fun h3 => ?_) (fun h3 => ?_)
      · have g3 := of_decide_eq_true h3
        refine aw_seq ?_
        refine aw_seq ?_
        refine aw_region eqok [] [42] [] [] ⟨[(42, .av (.one (.b (!(decide (x0.C.X = 0) && (decide (x0.C.Y = 0) && true))))))], []⟩ .nil (by kernel_rfl) .nil ?_
        refine ath_n ?_
        refine aw_cond (!(decide (x0.C.X = 0) && (decide (x0.C.Y = 0) && true))) (by kernel_rfl) (fun h4 => ?_) (fun h4 => ?_)
        · refine aw_seq ?_
          refine aw_region eqok [] [2] [] [] ⟨[(2, .av (.one (.i 11)))], []⟩ .nil (by kernel_rfl) .nil ?_
          refine ath_n ?_
          refine aw_ret ?_
          refine ath_r ?_
          refine ath_r ?_
          exact ⟨.inl rfl, .av (.one (.i 11)), by kernel_rfl, (by first | (simp only [Fref06Check, h1, h2, h3, h4, cond_true, cond_false]; done) | (simp only [Fref06Check, h1, h2, h3, h4, cond_true, cond_false]; rfl))⟩
        · refine aw_skip ?_
          refine ath_n ?_
          refine aw_seq ?_
          refine aw_region eqok [] [2] [] [] ⟨[(2, .av (.one (.i 0)))], []⟩ .nil (by kernel_rfl) .nil ?_
          refine ath_n ?_
          refine aw_ret ?_
          refine ath_r ?_
          exact ⟨.inl rfl, .av (.one (.i 0)), by kernel_rfl, (by first | (simp only [Fref06Check, h1, h2, h3, h4, cond_true, cond_false]; done) | (simp only [Fref06Check, h1, h2, h3, h4, cond_true, cond_false]; rfl))⟩
      · have g3 := of_decide_eq_false h3
        refine aw_skip ?_
        refine ath_n ?_
        refine aw_seq ?_
        refine aw_region eqok [(47, cref05Sub x0.A x0.C)] [1, 6] [1, 6] [Same (cref05Sub x0.A x0.C).2.1] ⟨[(1, .av (.one (.ptr 1 0))), (6, .av (.one (.ptr 6 0)))], [(1, .cells [.i x0.Kind, .i x0.A.X, .i x0.A.Y, .i x0.B.X, .i x0.B.Y, .i x0.C.X, .i x0.C.Y] 26), (6, .cells [.i ((Fref05Sub x0.A x0.C).X), .i ((Fref05Sub x0.A x0.C).Y)] 24)]⟩ (.cons (okref05Sub x0.A x0.C) .nil) (by kernel_rfl) (.cons rfl .nil) ?_
        refine ath_n ?_
        refine aw_seq ?_
        refine aw_region eqok [(52, cref05Sub x0.B x0.C)] [1, 6, 7] [1, 6, 7] [Same (cref05Sub x0.B x0.C).2.1] ⟨[(1, .av (.one (.ptr 1 0))), (6, .av (.one (.ptr 6 0))), (7, .av (.one (.ptr 7 0)))], [(1, .cells [.i x0.Kind, .i x0.A.X, .i x0.A.Y, .i x0.B.X, .i x0.B.Y, .i x0.C.X, .i x0.C.Y] 26), (6, .cells [.i ((Fref05Sub x0.A x0.C).X), .i ((Fref05Sub x0.A x0.C).Y)] 24), (7, .cells [.i ((Fref05Sub x0.B x0.C).X), .i ((Fref05Sub x0.B x0.C).Y)] 24)]⟩ (.cons (okref05Sub x0.B x0.C) .nil) (by kernel_rfl) (.cons rfl .nil) ?_
        refine ath_n ?_
        refine aw_seq ?_
        refine aw_region eqok [] [1, 6, 7, 8] [1, 6, 7, 8] [] ⟨[(1, .av (.one (.ptr 1 0))), (6, .av (.one (.ptr 6 0))), (7, .av (.one (.ptr 7 0))), (8, .av (.one (.ptr 8 0)))], [(1, .cells [.i x0.Kind, .i x0.A.X, .i x0.A.Y, .i x0.B.X, .i x0.B.Y, .i x0.C.X, .i x0.C.Y] 26), (6, .cells [.i ((Fref05Sub x0.A x0.C).X), .i ((Fref05Sub x0.A x0.C).Y)] 24), (7, .cells [.i ((Fref05Sub x0.B x0.C).X), .i ((Fref05Sub x0.B x0.C).Y)] 24), (8, .cells [.i (W64 (0 - ((Fref05Sub x0.A x0.C).Y))), .i ((Fref05Sub x0.A x0.C).X)] 24)]⟩ .nil (by kernel_rfl) .nil ?_
        refine ath_n ?_
        refine aw_seq ?_
        refine aw_seq ?_
        refine aw_region eqok [] [6, 7, 8, 61] [6, 7, 8] [] ⟨[(6, .av (.one (.ptr 6 0))), (7, .av (.one (.ptr 7 0))), (8, .av (.one (.ptr 8 0))), (61, .av (.one (.b (decide ((x0.Kind : Int) = 3)))))], [(6, .cells [.i ((Fref05Sub x0.A x0.C).X), .i ((Fref05Sub x0.A x0.C).Y)] 24), (7, .cells [.i ((Fref05Sub x0.B x0.C).X), .i ((Fref05Sub x0.B x0.C).Y)] 24), (8, .cells [.i (W64 (0 - ((Fref05Sub x0.A x0.C).Y))), .i ((Fref05Sub x0.A x0.C).X)] 24)]⟩ .nil (by kernel_rfl) .nil ?_
        refine ath_n ?_
        refine aw_join [6, 7, 8] [6, 7, 8] ⟨[(6, .av (.one (.ptr 6 0))), (7, .av (.one (.ptr 7 0))), (8, .av (.one (.ptr 8 0)))], [(6, .cells [.i ((Fref05Sub x0.A x0.C).X), .i ((Fref05Sub x0.A x0.C).Y)] 24), (7, .cells [.i ((Fref05Sub x0.B x0.C).X), .i ((Fref05Sub x0.B x0.C).Y)] 24), (8, .cells [.i (bif decide ((x0.Kind : Int) = 3) then ((Fref05Sub x0.A x0.C).Y) else (W64 (0 - ((Fref05Sub x0.A x0.C).Y)))), .i (bif decide ((x0.Kind : Int) = 3) then (W64 (0 - ((Fref05Sub x0.A x0.C).X))) else ((Fref05Sub x0.A x0.C).X))] 24)]⟩ ?_ ?_
        · refine aw_cond (decide ((x0.Kind : Int) = 3)) (by kernel_rfl) (fun h4 => ?_) (fun h4 => ?_)
          · have g4 := of_decide_eq_true h4
            refine aw_region eqok [] [6, 7, 8] [6, 7, 8] [] ⟨[(6, .av (.one (.ptr 6 0))), (7, .av (.one (.ptr 7 0))), (8, .av (.one (.ptr 8 0)))], [(6, .cells [.i ((Fref05Sub x0.A x0.C).X), .i ((Fref05Sub x0.A x0.C).Y)] 24), (7, .cells [.i ((Fref05Sub x0.B x0.C).X), .i ((Fref05Sub x0.B x0.C).Y)] 24), (8, .cells [.i ((Fref05Sub x0.A x0.C).Y), .i (W64 (0 - ((Fref05Sub x0.A x0.C).X)))] 24)]⟩ .nil (by kernel_rfl) .nil ?_
            refine ath_n ?_
            refine Eq.trans (b := ⟨[(6, .av (.one (.ptr 6 0))), (7, .av (.one (.ptr 7 0))), (8, .av (.one (.ptr 8 0)))], [(6, .cells [.i ((Fref05Sub x0.A x0.C).X), .i ((Fref05Sub x0.A x0.C).Y)] 24), (7, .cells [.i ((Fref05Sub x0.B x0.C).X), .i ((Fref05Sub x0.B x0.C).Y)] 24), (8, .cells [.i ((Fref05Sub x0.A x0.C).Y), .i (W64 (0 - ((Fref05Sub x0.A x0.C).X)))] 24)]⟩) (by kernel_rfl) ?_
            first | rfl | (simp only [h4, cond_true, cond_false]; done)
          · have g4 := of_decide_eq_false h4
            refine aw_skip ?_
            refine ath_n ?_
            refine Eq.trans (b := ⟨[(6, .av (.one (.ptr 6 0))), (7, .av (.one (.ptr 7 0))), (8, .av (.one (.ptr 8 0)))], [(6, .cells [.i ((Fref05Sub x0.A x0.C).X), .i ((Fref05Sub x0.A x0.C).Y)] 24), (7, .cells [.i ((Fref05Sub x0.B x0.C).X), .i ((Fref05Sub x0.B x0.C).Y)] 24), (8, .cells [.i (W64 (0 - ((Fref05Sub x0.A x0.C).Y))), .i ((Fref05Sub x0.A x0.C).X)] 24)]⟩) (by kernel_rfl) ?_
            first | rfl | (simp only [h4, cond_true, cond_false]; done)
        refine aw_seq ?_
        refine aw_seq ?_
        refine aw_region eqok [] [79] [] [((((decide ((((Fref05Sub x0.A x0.C).X) : Int) = 0)) == (decide ((((Fref05Sub x0.A x0.C).Y) : Int) = 0)))) = false) → ((((decide ((((Fref05Sub x0.A x0.C).X) : Int) = 0)) == (decide ((((Fref05Sub x0.A x0.C).Y) : Int) = 0)))) = false), ((((decide ((((Fref05Sub x0.A x0.C).X) : Int) = 0)) == (decide ((((Fref05Sub x0.A x0.C).Y) : Int) = 0)))) = false) → ((((decide ((((Fref05Sub x0.A x0.C).X) : Int) = 0)) == (decide ((((Fref05Sub x0.A x0.C).Y) : Int) = 0)))) = false), (((decide ((((Fref05Sub x0.A x0.C).X) : Int) = 0)) == (decide ((((Fref05Sub x0.A x0.C).Y) : Int) = 0)))) = false → ((((decide ((((Fref05Sub x0.A x0.C).X) : Int) = 0)) == (decide ((((Fref05Sub x0.A x0.C).Y) : Int) = 0)))) = false)] ⟨[(79, .av (.one (.b (bif ((decide ((((Fref05Sub x0.A x0.C).X) : Int) = 0)) == (decide ((((Fref05Sub x0.A x0.C).Y) : Int) = 0))) then true else !(decide (((Fref05Sub x0.B x0.C).X) = (bif decide ((x0.Kind : Int) = 3) then ((Fref05Sub x0.A x0.C).Y) else (W64 (0 - ((Fref05Sub x0.A x0.C).Y))))) && (decide (((Fref05Sub x0.B x0.C).Y) = (bif decide ((x0.Kind : Int) = 3) then (W64 (0 - ((Fref05Sub x0.A x0.C).X))) else ((Fref05Sub x0.A x0.C).X))) && true))))))], []⟩ .nil (by kernel_rfl) (.cons (by intros; first | assumption | exact And.left (by assumption) | simp_all) (.cons (by intros; first | assumption | exact And.left (by assumption) | simp_all) (.cons id .nil))) ?_
        refine ath_n ?_
        refine aw_cond (bif ((decide ((((Fref05Sub x0.A x0.C).X) : Int) = 0)) == (decide ((((Fref05Sub x0.A x0.C).Y) : Int) = 0))) then true else !(decide (((Fref05Sub x0.B x0.C).X) = (bif decide ((x0.Kind : Int) = 3) then ((Fref05Sub x0.A x0.C).Y) else (W64 (0 - ((Fref05Sub x0.A x0.C).Y))))) && (decide (((Fref05Sub x0.B x0.C).Y) = (bif decide ((x0.Kind : Int) = 3) then (W64 (0 - ((Fref05Sub x0.A x0.C).X))) else ((Fref05Sub x0.A x0.C).X))) && true))) (by kernel_rfl) (fun h4 => ?_) (fun h4 => ?_)
        · refine aw_seq ?_
          refine aw_region eqok [] [2] [] [] ⟨[(2, .av (.one (.i 11)))], []⟩ .nil (by kernel_rfl) .nil ?_
          refine ath_n ?_
          refine aw_ret ?_
          refine ath_r ?_
          exact ⟨.inl rfl, .av (.one (.i 11)), by kernel_rfl, (by first | (simp only [Fref06Check, h1, h2, h3, h4, cond_true, cond_false]; done) | (simp only [Fref06Check, h1, h2, h3, h4, cond_true, cond_false]; rfl))⟩
        · refine aw_skip ?_
          refine ath_n ?_
          refine aw_seq ?_
          refine aw_region eqok [] [2] [] [] ⟨[(2, .av (.one (.i 0)))], []⟩ .nil (by kernel_rfl) .nil ?_
          refine ath_n ?_
          refine aw_ret ?_
          exact ⟨.inl rfl, .av (.one (.i 0)), by kernel_rfl, (by first | (simp only [Fref06Check, h1, h2, h3, h4, cond_true, cond_false]; done) | (simp only [Fref06Check, h1, h2, h3, h4, cond_true, cond_false]; rfl))⟩
theorem okref06Check (x0 : TEdge) : CallOk Try.prog (cref06Check x0).1 (cref06Check x0).2.1 (cref06Check x0).2.2 := callOk_pure (fun _ _ => by kernel_rfl) fun _ => pref06Check x0 
def Fref06size (x0 : Int) : Int := max x0 (W64 (0 - x0))
def cref06size (x0 : Int) : FuncId × List Av × Ef := (39, [.one (.i x0)], .val [] (.av (.one (.i (Fref06size x0)))))
set_option maxRecDepth 100000 in
theorem pref06size (x0 : Int) : Pure Try.prog 39 (cref06size x0).2.1 (.av (.one (.i (Fref06size x0)))) := by
  refine pure_of_aw Try.func39 rfl (by kernel_rfl) (by kernel_rfl) fun W0 M0 => ?_
  refine aw_seq ?_
  refine aw_region eqok [] [0] [] [] ⟨[(0, .av (.one (.i x0)))], []⟩ .nil (by kernel_rfl) .nil ?_
  refine ath_n ?_
  refine aw_seq ?_
  refine aw_region eqok [] [2] [] [] ⟨[(2, .av (.one (.i (max x0 (W64 (0 - x0))))))], []⟩ .nil (by kernel_rfl) .nil ?_
  refine ath_n ?_
  refine aw_ret ?_
  exact ⟨.inl rfl, .av (.one (.i (max x0 (W64 (0 - x0))))), by kernel_rfl, (by rfl)⟩
theorem okref06size (x0 : Int) : CallOk Try.prog (cref06size x0).1 (cref06size x0).2.1 (cref06size x0).2.2 := callOk_pure (fun _ _ => by kernel_rfl) fun _ => pref06size x0 
def Fref06Radius (x0 : TEdge) : Int := bif bif decide ((x0.Kind : Int) = 1) then true else !decide (((Fref06Check x0) : Int) = 0) then (0) else (W64 ((Fref06size ((Fref05Sub x0.A x0.C).X)) + (Fref06size ((Fref05Sub x0.A x0.C).Y))))
def cref06Radius (x0 : TEdge) : FuncId × List Av × Ef := (17, [.agg [.i x0.Kind, .i x0.A.X, .i x0.A.Y, .i x0.B.X, .i x0.B.Y, .i x0.C.X, .i x0.C.Y]], .val [] (.av (.one (.i (Fref06Radius x0)))))
set_option maxRecDepth 100000 in
theorem pref06Radius (x0 : TEdge) : Pure Try.prog 17 (cref06Radius x0).2.1 (.av (.one (.i (Fref06Radius x0)))) := by
  refine pure_of_aw Try.func17 rfl (by kernel_rfl) (by kernel_rfl) fun W0 M0 => ?_
  refine aw_seq ?_
  refine aw_region eqok [] [1] [1] [] ⟨[(1, .av (.one (.ptr 1 0)))], [(1, .cells [.i x0.Kind, .i x0.A.X, .i x0.A.Y, .i x0.B.X, .i x0.B.Y, .i x0.C.X, .i x0.C.Y] 26)]⟩ .nil (by kernel_rfl) .nil ?_
  refine ath_n ?_
  refine aw_seq ?_
  refine aw_seq ?_
  refine aw_region eqok [(9, cref06Check x0)] [1, 11] [1] [((decide ((x0.Kind : Int) = 1)) = false) → ((decide ((x0.Kind : Int) = 1)) = false), ((decide ((x0.Kind : Int) = 1)) = false) → (Same (cref06Check x0).2.1), ((decide ((x0.Kind : Int) = 1)) = false) → ((decide ((x0.Kind : Int) = 1)) = false), (decide ((x0.Kind : Int) = 1)) = false → ((decide ((x0.Kind : Int) = 1)) = false)] ⟨[(1, .av (.one (.ptr 1 0))), (11, .av (.one (.b (bif decide ((x0.Kind : Int) = 1) then true else !decide (((Fref06Check x0) : Int) = 0)))))], [(1, .cells [.i x0.Kind, .i x0.A.X, .i x0.A.Y, .i x0.B.X, .i x0.B.Y, .i x0.C.X, .i x0.C.Y] 26)]⟩ (.cons (okref06Check x0) .nil) (by kernel_rfl) (.cons (by intros; first | assumption | exact And.left (by assumption) | simp_all) (.cons (fun _ => rfl) (.cons (by intros; first | assumption | exact And.left (by assumption) | simp_all) (.cons id .nil)))) ?_
  refine ath_n ?_
  refine aw_cond (bif decide ((x0.Kind : Int) = 1) then true else !decide (((Fref06Check x0) : Int) = 0)) (by kernel_rfl) (fun h1 => ?_) (fun h1 => ?_)
  · refine aw_seq ?_
    refine aw_region eqok [] [2] [] [] ⟨[(2, .av (.one (.i 0)))], []⟩ .nil (by kernel_rfl) .nil ?_
    refine ath_n ?_
    refine aw_ret ?_
    refine ath_r ?_
    exact ⟨.inl rfl, .av (.one (.i 0)), by kernel_rfl, (by first | (simp only [Fref06Radius, h1, cond_true, cond_false]; done) | (simp only [Fref06Radius, h1, cond_true, cond_false]; rfl))⟩
  · refine aw_skip ?_
    refine ath_n ?_
    refine aw_seq ?_
    refine aw_region eqok [(16, cref05Sub x0.A x0.C)] [3] [3] [Same (cref05Sub x0.A x0.C).2.1] ⟨[(3, .av (.one (.ptr 3 0)))], [(3, .cells [.i ((Fref05Sub x0.A x0.C).X), .i ((Fref05Sub x0.A x0.C).Y)] 24)]⟩ (.cons (okref05Sub x0.A x0.C) .nil) (by kernel_rfl) (.cons rfl .nil) ?_
    refine ath_n ?_
    refine aw_seq ?_
    refine aw_draw mixed eqok [(19, cref06size ((Fref05Sub x0.A x0.C).X)), (22, cref06size ((Fref05Sub x0.A x0.C).Y))] [2] [] [Same (cref06size ((Fref05Sub x0.A x0.C).X)).2.1, Same (cref06size ((Fref05Sub x0.A x0.C).Y)).2.1] ⟨[(2, .av (.one (.i (W64 ((Fref06size ((Fref05Sub x0.A x0.C).X)) + (Fref06size ((Fref05Sub x0.A x0.C).Y)))))))], []⟩ (.cons (okref06size ((Fref05Sub x0.A x0.C).X)) (.cons (okref06size ((Fref05Sub x0.A x0.C).Y)) .nil)) (by kernel_rfl) (by kernel_rfl) (.cons rfl (.cons rfl .nil)) ?_
    refine ath_n ?_
    refine aw_ret ?_
    exact ⟨.inl rfl, .av (.one (.i (W64 ((Fref06size ((Fref05Sub x0.A x0.C).X)) + (Fref06size ((Fref05Sub x0.A x0.C).Y)))))), by kernel_rfl, (by first | (simp only [Fref06Radius, h1, cond_true, cond_false]; done) | (simp only [Fref06Radius, h1, cond_true, cond_false]; rfl))⟩
theorem okref06Radius (x0 : TEdge) : CallOk Try.prog (cref06Radius x0).1 (cref06Radius x0).2.1 (cref06Radius x0).2.2 := callOk_pure (fun _ _ => by kernel_rfl) fun _ => pref06Radius x0 
def Fref06Box (x0 : TEdge) : TRect := TRect.mk (min x0.A.X x0.B.X) (min x0.A.Y x0.B.Y) (max x0.A.X x0.B.X) (max x0.A.Y x0.B.Y)
def cref06Box (x0 : TEdge) : FuncId × List Av × Ef := (30, [.agg [.i x0.Kind, .i x0.A.X, .i x0.A.Y, .i x0.B.X, .i x0.B.Y, .i x0.C.X, .i x0.C.Y]], .val [] (.av (.agg [.i ((Fref06Box x0).X0), .i ((Fref06Box x0).Y0), .i ((Fref06Box x0).X1), .i ((Fref06Box x0).Y1)])))
set_option maxRecDepth 100000 in
theorem pref06Box (x0 : TEdge) : Pure Try.prog 30 (cref06Box x0).2.1 (.av (.agg [.i ((Fref06Box x0).X0), .i ((Fref06Box x0).Y0), .i ((Fref06Box x0).X1), .i ((Fref06Box x0).Y1)])) := by
  refine pure_of_aw Try.func30 rfl (by kernel_rfl) (by kernel_rfl) fun W0 M0 => ?_
  refine aw_seq ?_
  refine aw_region eqok [] [1, 2] [1, 2] [] ⟨[(1, .av (.one (.ptr 1 0))), (2, .av (.one (.ptr 2 0)))], [(1, .cells [.i x0.Kind, .i x0.A.X, .i x0.A.Y, .i x0.B.X, .i x0.B.Y, .i x0.C.X, .i x0.C.Y] 26), (2, .cells [.i 0, .i 0, .i 0, .i 0] 43)]⟩ .nil (by kernel_rfl) .nil ?_
  refine ath_n ?_
  refine aw_seq ?_
  refine aw_region eqok [] [2] [2] [] ⟨[(2, .av (.one (.ptr 2 0)))], [(2, .cells [.i (min x0.A.X x0.B.X), .i (min x0.A.Y x0.B.Y), .i (max x0.A.X x0.B.X), .i (max x0.A.Y x0.B.Y)] 43)]⟩ .nil (by kernel_rfl) .nil ?_
  refine ath_n ?_
  refine aw_ret ?_
  exact ⟨.inl rfl, .av (.agg [.i (min x0.A.X x0.B.X), .i (min x0.A.Y x0.B.Y), .i (max x0.A.X x0.B.X), .i (max x0.A.Y x0.B.Y)]), by kernel_rfl, (by rfl)⟩
theorem okref06Box (x0 : TEdge) : CallOk Try.prog (cref06Box x0).1 (cref06Box x0).2.1 (cref06Box x0).2.2 := callOk_pure (fun _ _ => by kernel_rfl) fun _ => pref06Box x0 
def Fref06within (x0 : TRect) (x1 : TPoint) : Bool := bif bif bif decide ((x0.X0 : Int) ≤ x1.X) then decide ((x1.X : Int) ≤ x0.X1) else false then decide ((x0.Y0 : Int) ≤ x1.Y) else false then decide ((x1.Y : Int) ≤ x0.Y1) else false
def cref06within (x0 : TRect) (x1 : TPoint) : FuncId × List Av × Ef := (41, [.agg [.i x0.X0, .i x0.Y0, .i x0.X1, .i x0.Y1], .agg [.i x1.X, .i x1.Y]], .val [] (.av (.one (.b (Fref06within x0 x1)))))
set_option maxRecDepth 100000 in
theorem pref06within (x0 : TRect) (x1 : TPoint) : Pure Try.prog 41 (cref06within x0 x1).2.1 (.av (.one (.b (Fref06within x0 x1)))) := by
  refine pure_of_aw Try.func41 rfl (by kernel_rfl) (by kernel_rfl) fun W0 M0 => ?_
  refine aw_seq ?_
  refine aw_region eqok [] [2, 3] [2, 3] [] ⟨[(2, .av (.one (.ptr 2 0))), (3, .av (.one (.ptr 3 0)))], [(2, .cells [.i x0.X0, .i x0.Y0, .i x0.X1, .i x0.Y1] 43), (3, .cells [.i x1.X, .i x1.Y] 24)]⟩ .nil (by kernel_rfl) .nil ?_
  refine ath_n ?_
  refine aw_seq ?_
  refine aw_region eqok [] [4] [] [((decide ((x0.X0 : Int) ≤ x1.X)) = true) → ((decide ((x0.X0 : Int) ≤ x1.X)) = true), ((decide ((x0.X0 : Int) ≤ x1.X)) = true) → ((decide ((x0.X0 : Int) ≤ x1.X)) = true), ((decide ((x0.X0 : Int) ≤ x1.X)) = true) → ((decide ((x0.X0 : Int) ≤ x1.X)) = true), ((decide ((x0.X0 : Int) ≤ x1.X)) = true) → ((decide ((x0.X0 : Int) ≤ x1.X)) = true), (decide ((x0.X0 : Int) ≤ x1.X)) = true → ((decide ((x0.X0 : Int) ≤ x1.X)) = true), ((bif decide ((x0.X0 : Int) ≤ x1.X) then decide ((x1.X : Int) ≤ x0.X1) else false) = true) → ((bif decide ((x0.X0 : Int) ≤ x1.X) then decide ((x1.X : Int) ≤ x0.X1) else false) = true), ((bif decide ((x0.X0 : Int) ≤ x1.X) then decide ((x1.X : Int) ≤ x0.X1) else false) = true) → ((bif decide ((x0.X0 : Int) ≤ x1.X) then decide ((x1.X : Int) ≤ x0.X1) else false) = true), ((bif decide ((x0.X0 : Int) ≤ x1.X) then decide ((x1.X : Int) ≤ x0.X1) else false) = true) → ((bif decide ((x0.X0 : Int) ≤ x1.X) then decide ((x1.X : Int) ≤ x0.X1) else false) = true), ((bif decide ((x0.X0 : Int) ≤ x1.X) then decide ((x1.X : Int) ≤ x0.X1) else false) = true) → ((bif decide ((x0.X0 : Int) ≤ x1.X) then decide ((x1.X : Int) ≤ x0.X1) else false) = true), (bif decide ((x0.X0 : Int) ≤ x1.X) then decide ((x1.X : Int) ≤ x0.X1) else false) = true → ((bif decide ((x0.X0 : Int) ≤ x1.X) then decide ((x1.X : Int) ≤ x0.X1) else false) = true), ((bif bif decide ((x0.X0 : Int) ≤ x1.X) then decide ((x1.X : Int) ≤ x0.X1) else false then decide ((x0.Y0 : Int) ≤ x1.Y) else false) = true) → ((bif bif decide ((x0.X0 : Int) ≤ x1.X) then decide ((x1.X : Int) ≤ x0.X1) else false then decide ((x0.Y0 : Int) ≤ x1.Y) else false) = true), ((bif bif decide ((x0.X0 : Int) ≤ x1.X) then decide ((x1.X : Int) ≤ x0.X1) else false then decide ((x0.Y0 : Int) ≤ x1.Y) else false) = true) → ((bif bif decide ((x0.X0 : Int) ≤ x1.X) then decide ((x1.X : Int) ≤ x0.X1) else false then decide ((x0.Y0 : Int) ≤ x1.Y) else false) = true), ((bif bif decide ((x0.X0 : Int) ≤ x1.X) then decide ((x1.X : Int) ≤ x0.X1) else false then decide ((x0.Y0 : Int) ≤ x1.Y) else false) = true) → ((bif bif decide ((x0.X0 : Int) ≤ x1.X) then decide ((x1.X : Int) ≤ x0.X1) else false then decide ((x0.Y0 : Int) ≤ x1.Y) else false) = true), ((bif bif decide ((x0.X0 : Int) ≤ x1.X) then decide ((x1.X : Int) ≤ x0.X1) else false then decide ((x0.Y0 : Int) ≤ x1.Y) else false) = true) → ((bif bif decide ((x0.X0 : Int) ≤ x1.X) then decide ((x1.X : Int) ≤ x0.X1) else false then decide ((x0.Y0 : Int) ≤ x1.Y) else false) = true), (bif bif decide ((x0.X0 : Int) ≤ x1.X) then decide ((x1.X : Int) ≤ x0.X1) else false then decide ((x0.Y0 : Int) ≤ x1.Y) else false) = true → ((bif bif decide ((x0.X0 : Int) ≤ x1.X) then decide ((x1.X : Int) ≤ x0.X1) else false then decide ((x0.Y0 : Int) ≤ x1.Y) else false) = true)] ⟨[(4, .av (.one (.b (bif bif bif decide ((x0.X0 : Int) ≤ x1.X) then decide ((x1.X : Int) ≤ x0.X1) else false then decide ((x0.Y0 : Int) ≤ x1.Y) else false then decide ((x1.Y : Int) ≤ x0.Y1) else false))))], []⟩ .nil (by kernel_rfl) (.cons (by intros; first | assumption | exact And.left (by assumption) | simp_all) (.cons (by intros; first | assumption | exact And.left (by assumption) | simp_all) (.cons (by intros; first | assumption | exact And.left (by assumption) | simp_all) (.cons (by intros; first | assumption | exact And.left (by assumption) | simp_all) (.cons id (.cons (by intros; first | assumption | exact And.left (by assumption) | simp_all) (.cons (by intros; first | assumption | exact And.left (by assumption) | simp_all) (.cons (by intros; first | assumption | exact And.left (by assumption) | simp_all) (.cons (by intros; first | assumption | exact And.left (by assumption) | simp_all) (.cons id (.cons (by intros; first | assumption | exact And.left (by assumption) | simp_all) (.cons (by intros; first | assumption | exact And.left (by assumption) | simp_all) (.cons (by intros; first | assumption | exact And.left (by assumption) | simp_all) (.cons (by intros; first | assumption | exact And.left (by assumption) | simp_all) (.cons id .nil))))))))))))))) ?_
  refine ath_n ?_
  refine aw_ret ?_
  exact ⟨.inl rfl, .av (.one (.b (bif bif bif decide ((x0.X0 : Int) ≤ x1.X) then decide ((x1.X : Int) ≤ x0.X1) else false then decide ((x0.Y0 : Int) ≤ x1.Y) else false then decide ((x1.Y : Int) ≤ x0.Y1) else false))), by kernel_rfl, (by rfl)⟩
theorem okref06within (x0 : TRect) (x1 : TPoint) : CallOk Try.prog (cref06within x0 x1).1 (cref06within x0 x1).2.1 (cref06within x0 x1).2.2 := callOk_pure (fun _ _ => by kernel_rfl) fun _ => pref06within x0 x1 
def Fref06On (x0 : TEdge) (x1 : TPoint) : Bool := bif bif !decide (((Fref06Check x0) : Int) = 0) then true else !(Fref06within (Fref06Box x0) x1) then (false) else (bif decide ((x0.Kind : Int) = 1) then (decide (((Fref05Cross (Fref05Sub x0.B x0.A) (Fref05Sub x1 x0.A)) : Int) = 0)) else (decide (((Fref05Dot (Fref05Sub x1 x0.C) (Fref05Sub x1 x0.C)) : Int) = (W64 ((Fref06Radius x0) * (Fref06Radius x0))))))
def cref06On (x0 : TEdge) (x1 : TPoint) : FuncId × List Av × Ef := (20, [.agg [.i x0.Kind, .i x0.A.X, .i x0.A.Y, .i x0.B.X, .i x0.B.Y, .i x0.C.X, .i x0.C.Y], .agg [.i x1.X, .i x1.Y]], .val [] (.av (.one (.b (Fref06On x0 x1)))))
set_option maxRecDepth 100000 in
theorem pref06On (x0 : TEdge) (x1 : TPoint) : Pure Try.prog 20 (cref06On x0 x1).2.1 (.av (.one (.b (Fref06On x0 x1)))) := by
  refine pure_of_aw Try.func20 rfl (by kernel_rfl) (by kernel_rfl) fun W0 M0 => ?_
  refine aw_seq ?_
  refine aw_region eqok [] [2, 3] [2, 3] [] ⟨[(2, .av (.one (.ptr 2 0))), (3, .av (.one (.ptr 3 0)))], [(2, .cells [.i x0.Kind, .i x0.A.X, .i x0.A.Y, .i x0.B.X, .i x0.B.Y, .i x0.C.X, .i x0.C.Y] 26), (3, .cells [.i x1.X, .i x1.Y] 24)]⟩ .nil (by kernel_rfl) .nil ?_
  refine ath_n ?_
  refine aw_seq ?_
  refine aw_draw mixed eqok [(9, cref06Box x0), (11, cref06within (Fref06Box x0) x1)] [2, 3, 5] [2, 3] [Same (cref06Box x0).2.1, Same (cref06within (Fref06Box x0) x1).2.1] ⟨[(2, .av (.one (.ptr 2 0))), (3, .av (.one (.ptr 3 0))), (5, .av (.one (.b (Fref06within (Fref06Box x0) x1))))], [(2, .cells [.i x0.Kind, .i x0.A.X, .i x0.A.Y, .i x0.B.X, .i x0.B.Y, .i x0.C.X, .i x0.C.Y] 26), (3, .cells [.i x1.X, .i x1.Y] 24)]⟩ (.cons (okref06Box x0) (.cons (okref06within (Fref06Box x0) x1) .nil)) (by kernel_rfl) (by kernel_rfl) (.cons rfl (.cons rfl .nil)) ?_
  refine ath_n ?_
  refine aw_seq ?_
  refine aw_seq ?_
  refine aw_region eqok [(13, cref06Check x0)] [2, 3, 18] [2, 3] [Same (cref06Check x0).2.1, ((!decide (((Fref06Check x0) : Int) = 0)) = false) → ((!decide (((Fref06Check x0) : Int) = 0)) = false), (!decide (((Fref06Check x0) : Int) = 0)) = false → ((!decide (((Fref06Check x0) : Int) = 0)) = false)] ⟨[(2, .av (.one (.ptr 2 0))), (3, .av (.one (.ptr 3 0))), (18, .av (.one (.b (bif !decide (((Fref06Check x0) : Int) = 0) then true else !(Fref06within (Fref06Box x0) x1)))))], [(2, .cells [.i x0.Kind, .i x0.A.X, .i x0.A.Y, .i x0.B.X, .i x0.B.Y, .i x0.C.X, .i x0.C.Y] 26), (3, .cells [.i x1.X, .i x1.Y] 24)]⟩ (.cons (okref06Check x0) .nil) (by kernel_rfl) (.cons rfl (.cons (by intros; first | assumption | exact And.left (by assumption) | simp_all) (.cons id .nil))) ?_
  refine ath_n ?_
  refine aw_cond (bif !decide (((Fref06Check x0) : Int) = 0) then true else !(Fref06within (Fref06Box x0) x1)) (by kernel_rfl) (fun h1 => ?_) (fun h1 => ?_)
  · refine aw_seq ?_
    refine aw_region eqok [] [4] [] [] ⟨[(4, .av (.one (.b false)))], []⟩ .nil (by kernel_rfl) .nil ?_
    refine ath_n ?_
    refine aw_ret ?_
    refine ath_r ?_
    exact ⟨.inl rfl, .av (.one (.b false)), by kernel_rfl, (by first | (simp only [Fref06On, h1, cond_true, cond_false]; done) | (simp only [Fref06On, h1, cond_true, cond_false]; rfl))⟩
  · refine aw_skip ?_
    refine ath_n ?_
    refine aw_seq ?_
    refine aw_seq ?_
    refine aw_region eqok [] [2, 3, 21] [2, 3] [] ⟨[(2, .av (.one (.ptr 2 0))), (3, .av (.one (.ptr 3 0))), (21, .av (.one (.b (decide ((x0.Kind : Int) = 1)))))], [(2, .cells [.i x0.Kind, .i x0.A.X, .i x0.A.Y, .i x0.B.X, .i x0.B.Y, .i x0.C.X, .i x0.C.Y] 26), (3, .cells [.i x1.X, .i x1.Y] 24)]⟩ .nil (by kernel_rfl) .nil ?_
    refine ath_n ?_
    refine aw_cond (decide ((x0.Kind : Int) = 1)) (by kernel_rfl) (fun h2 => ?_) (fun h2 => ?_)
    · have g2 := of_decide_eq_true h2
      refine aw_seq ?_
      refine aw_draw mixed eqok [(26, cref05Sub x0.B x0.A), (30, cref05Sub x1 x0.A), (31, cref05Cross (Fref05Sub x0.B x0.A) (Fref05Sub x1 x0.A))] [4] [] [Same (cref05Sub x0.B x0.A).2.1, Same (cref05Sub x1 x0.A).2.1, Same (cref05Cross (Fref05Sub x0.B x0.A) (Fref05Sub x1 x0.A)).2.1] ⟨[(4, .av (.one (.b (decide (((Fref05Cross (Fref05Sub x0.B x0.A) (Fref05Sub x1 x0.A)) : Int) = 0)))))], []⟩ (.cons (okref05Sub x0.B x0.A) (.cons (okref05Sub x1 x0.A) (.cons (okref05Cross (Fref05Sub x0.B x0.A) (Fref05Sub x1 x0.A)) .nil))) (by kernel_rfl) (by kernel_rfl) (.cons rfl (.cons rfl (.cons rfl .nil))) ?_
      refine ath_n ?_
      refine aw_ret ?_
      refine ath_r ?_
      exact ⟨.inl rfl, .av (.one (.b (decide (((Fref05Cross (Fref05Sub x0.B x0.A) (Fref05Sub x1 x0.A)) : Int) = 0)))), by kernel_rfl, (by first | (simp only [Fref06On, h1, h2, cond_true, cond_false]; done) | (simp only [Fref06On, h1, h2, cond_true, cond_false]; rfl))⟩
    · have g2 := of_decide_eq_false h2
      refine aw_skip ?_
      refine ath_n ?_
      refine aw_seq ?_
      refine aw_region eqok [(36, cref05Sub x1 x0.C)] [2, 6] [2, 6] [Same (cref05Sub x1 x0.C).2.1] ⟨[(2, .av (.one (.ptr 2 0))), (6, .av (.one (.ptr 6 0)))], [(2, .cells [.i x0.Kind, .i x0.A.X, .i x0.A.Y, .i x0.B.X, .i x0.B.Y, .i x0.C.X, .i x0.C.Y] 26), (6, .cells [.i ((Fref05Sub x1 x0.C).X), .i ((Fref05Sub x1 x0.C).Y)] 24)]⟩ (.cons (okref05Sub x1 x0.C) .nil) (by kernel_rfl) (.cons rfl .nil) ?_
      refine ath_n ?_
      refine aw_seq ?_
      refine aw_region eqok [(38, cref06Radius x0)] [6, 7] [6] [Same (cref06Radius x0).2.1] ⟨[(6, .av (.one (.ptr 6 0))), (7, .av (.one (.i (Fref06Radius x0))))], [(6, .cells [.i ((Fref05Sub x1 x0.C).X), .i ((Fref05Sub x1 x0.C).Y)] 24)]⟩ (.cons (okref06Radius x0) .nil) (by kernel_rfl) (.cons rfl .nil) ?_
      refine ath_n ?_
      refine aw_seq ?_
      refine aw_region eqok [(41, cref05Dot (Fref05Sub x1 x0.C) (Fref05Sub x1 x0.C))] [4] [] [Same (cref05Dot (Fref05Sub x1 x0.C) (Fref05Sub x1 x0.C)).2.1] ⟨[(4, .av (.one (.b (decide (((Fref05Dot (Fref05Sub x1 x0.C) (Fref05Sub x1 x0.C)) : Int) = (W64 ((Fref06Radius x0) * (Fref06Radius x0))))))))], []⟩ (.cons (okref05Dot (Fref05Sub x1 x0.C) (Fref05Sub x1 x0.C)) .nil) (by kernel_rfl) (.cons rfl .nil) ?_
      refine ath_n ?_
      refine aw_ret ?_
      exact ⟨.inl rfl, .av (.one (.b (decide (((Fref05Dot (Fref05Sub x1 x0.C) (Fref05Sub x1 x0.C)) : Int) = (W64 ((Fref06Radius x0) * (Fref06Radius x0))))))), by kernel_rfl, (by first | (simp only [Fref06On, h1, h2, cond_true, cond_false]; done) | (simp only [Fref06On, h1, h2, cond_true, cond_false]; rfl))⟩
theorem okref06On (x0 : TEdge) (x1 : TPoint) : CallOk Try.prog (cref06On x0 x1).1 (cref06On x0 x1).2.1 (cref06On x0 x1).2.2 := callOk_pure (fun _ _ => by kernel_rfl) fun _ => pref06On x0 x1 
def Fref06beyond (x0 : TEdge) (x1 : TPoint) : Bool := bif decide ((x1.X : Int) < ((Fref06Box x0).X0)) then (true) else (bif decide ((((Fref06Box x0).X1) : Int) ≤ x1.X) then (false) else (bif decide ((x0.Kind : Int) = 1) then (decide (((W64 ((W64 (x1.X - (bif decide ((x0.B.Y : Int) < x0.A.Y) then x0.B.X else x0.A.X))) * (W64 ((bif decide ((x0.B.Y : Int) < x0.A.Y) then x0.A.Y else x0.B.Y) - (bif decide ((x0.B.Y : Int) < x0.A.Y) then x0.B.Y else x0.A.Y))))) : Int) < (W64 ((W64 (x1.Y - (bif decide ((x0.B.Y : Int) < x0.A.Y) then x0.B.Y else x0.A.Y))) * (W64 ((bif decide ((x0.B.Y : Int) < x0.A.Y) then x0.A.X else x0.B.X) - (bif decide ((x0.B.Y : Int) < x0.A.Y) then x0.B.X else x0.A.X))))))) else (bif decide (((W64 (2 * x0.C.X)) : Int) < (W64 (x0.A.X + x0.B.X))) then (decide (((Fref05Dot (Fref05Sub x1 x0.C) (Fref05Sub x1 x0.C)) : Int) < (W64 ((Fref06Radius x0) * (Fref06Radius x0))))) else (bif decide (((W64 ((Fref06Radius x0) * (Fref06Radius x0))) : Int) < (Fref05Dot (Fref05Sub x1 x0.C) (Fref05Sub x1 x0.C))) then decide ((((Fref05Sub x1 x0.C).X) : Int) < 0) else false))))
def cref06beyond (x0 : TEdge) (x1 : TPoint) : FuncId × List Av × Ef := (45, [.agg [.i x0.Kind, .i x0.A.X, .i x0.A.Y, .i x0.B.X, .i x0.B.Y, .i x0.C.X, .i x0.C.Y], .agg [.i x1.X, .i x1.Y]], .val [] (.av (.one (.b (Fref06beyond x0 x1)))))
set_option maxRecDepth 100000 in
theorem pref06beyond (x0 : TEdge) (x1 : TPoint) : Pure Try.prog 45 (cref06beyond x0 x1).2.1 (.av (.one (.b (Fref06beyond x0 x1)))) := by
  refine pure_of_aw Try.func45 rfl (by kernel_rfl) (by kernel_rfl) fun W0 M0 => ?_
  refine aw_seq ?_
  refine aw_region eqok [] [2, 3] [2, 3] [] ⟨[(2, .av (.one (.ptr 2 0))), (3, .av (.one (.ptr 3 0)))], [(2, .cells [.i x0.Kind, .i x0.A.X, .i x0.A.Y, .i x0.B.X, .i x0.B.Y, .i x0.C.X, .i x0.C.Y] 26), (3, .cells [.i x1.X, .i x1.Y] 24)]⟩ .nil (by kernel_rfl) .nil ?_
  refine ath_n ?_
  refine aw_seq ?_
  refine aw_region eqok [(13, cref06Box x0)] [2, 3, 5] [2, 3, 5] [Same (cref06Box x0).2.1] ⟨[(2, .av (.one (.ptr 2 0))), (3, .av (.one (.ptr 3 0))), (5, .av (.one (.ptr 5 0)))], [(2, .cells [.i x0.Kind, .i x0.A.X, .i x0.A.Y, .i x0.B.X, .i x0.B.Y, .i x0.C.X, .i x0.C.Y] 26), (3, .cells [.i x1.X, .i x1.Y] 24), (5, .cells [.i ((Fref06Box x0).X0), .i ((Fref06Box x0).Y0), .i ((Fref06Box x0).X1), .i ((Fref06Box x0).Y1)] 43)]⟩ (.cons (okref06Box x0) .nil) (by kernel_rfl) (.cons rfl .nil) ?_
  refine ath_n ?_
  refine aw_seq ?_
  refine aw_seq ?_
  refine aw_region eqok [] [2, 3, 5, 18] [2, 3, 5] [] ⟨[(2, .av (.one (.ptr 2 0))), (3, .av (.one (.ptr 3 0))), (5, .av (.one (.ptr 5 0))), (18, .av (.one (.b (decide ((x1.X : Int) < ((Fref06Box x0).X0))))))], [(2, .cells [.i x0.Kind, .i x0.A.X, .i x0.A.Y, .i x0.B.X, .i x0.B.Y, .i x0.C.X, .i x0.C.Y] 26), (3, .cells [.i x1.X, .i x1.Y] 24), (5, .cells [.i ((Fref06Box x0).X0), .i ((Fref06Box x0).Y0), .i ((Fref06Box x0).X1), .i ((Fref06Box x0).Y1)] 43)]⟩ .nil (by kernel_rfl) .nil ?_
  refine ath_n ?_
  refine aw_cond (decide ((x1.X : Int) < ((Fref06Box x0).X0))) (by kernel_rfl) (fun h1 => ?_) (fun h1 => ?_)
  · have g1 := of_decide_eq_true h1
    refine aw_seq ?_
    refine aw_region eqok [] [4] [] [] ⟨[(4, .av (.one (.b true)))], []⟩ .nil (by kernel_rfl) .nil ?_
    refine ath_n ?_
    refine aw_ret ?_
    refine ath_r ?_
    exact ⟨.inl rfl, .av (.one (.b true)), by kernel_rfl, (by first | (simp only [Fref06beyond, h1, cond_true, cond_false]; done) | (simp only [Fref06beyond, h1, cond_true, cond_false]; rfl))⟩
  · have g1 := of_decide_eq_false h1
    refine aw_skip ?_
    refine ath_n ?_
    refine aw_seq ?_
    refine aw_seq ?_
    refine aw_region eqok [] [2, 3, 23] [2, 3] [] ⟨[(2, .av (.one (.ptr 2 0))), (3, .av (.one (.ptr 3 0))), (23, .av (.one (.b (decide ((((Fref06Box x0).X1) : Int) ≤ x1.X)))))], [(2, .cells [.i x0.Kind, .i x0.A.X, .i x0.A.Y, .i x0.B.X, .i x0.B.Y, .i x0.C.X, .i x0.C.Y] 26), (3, .cells [.i x1.X, .i x1.Y] 24)]⟩ .nil (by kernel_rfl) .nil ?_
    refine ath_n ?_
    refine aw_cond (decide ((((Fref06Box x0).X1) : Int) ≤ x1.X)) (by kernel_rfl) (fun h2 => ?_) (fun h2 => ?_)
    · have g2 := of_decide_eq_true h2
      refine aw_seq ?_
      refine aw_region eqok [] [4] [] [] ⟨[(4, .av (.one (.b false)))], []⟩ .nil (by kernel_rfl) .nil ?_
      refine ath_n ?_
      refine aw_ret ?_
      refine ath_r ?_
      exact ⟨.inl rfl, .av (.one (.b false)), by kernel_rfl, (by first | (simp only [Fref06beyond, h1, h2, cond_true, cond_false]; done) | (simp only [Fref06beyond, h1, h2, cond_true, cond_false]; rfl))⟩
    · have g2 := of_decide_eq_false h2
      refine aw_skip ?_
      refine ath_n ?_
      refine aw_seq ?_
      refine aw_seq ?_
      refine aw_region eqok [] [2, 3, 26] [2, 3] [] ⟨[(2, .av (.one (.ptr 2 0))), (3, .av (.one (.ptr 3 0))), (26, .av (.one (.b (decide ((x0.Kind : Int) = 1)))))], [(2, .cells [.i x0.Kind, .i x0.A.X, .i x0.A.Y, .i x0.B.X, .i x0.B.Y, .i x0.C.X, .i x0.C.Y] 26), (3, .cells [.i x1.X, .i x1.Y] 24)]⟩ .nil (by kernel_rfl) .nil ?_
      refine ath_n ?_
      refine aw_cond (decide ((x0.Kind : Int) = 1)) (by kernel_rfl) (fun h3 => ?_) (fun h3 => ?_)
      · have g3 := of_decide_eq_true h3
        refine aw_seq ?_
        refine aw_region eqok [] [2, 3, 6] [2, 3, 6] [] ⟨[(2, .av (.one (.ptr 2 0))), (3, .av (.one (.ptr 3 0))), (6, .av (.one (.ptr 6 0)))], [(2, .cells [.i x0.Kind, .i x0.A.X, .i x0.A.Y, .i x0.B.X, .i x0.B.Y, .i x0.C.X, .i x0.C.Y] 26), (3, .cells [.i x1.X, .i x1.Y] 24), (6, .cells [.i x0.A.X, .i x0.A.Y] 24)]⟩ .nil (by kernel_rfl) .nil ?_
        refine ath_n ?_
        refine aw_seq ?_
        refine aw_region eqok [] [3, 6, 7] [3, 6, 7] [] ⟨[(3, .av (.one (.ptr 3 0))), (6, .av (.one (.ptr 6 0))), (7, .av (.one (.ptr 7 0)))], [(3, .cells [.i x1.X, .i x1.Y] 24), (6, .cells [.i x0.A.X, .i x0.A.Y] 24), (7, .cells [.i x0.B.X, .i x0.B.Y] 24)]⟩ .nil (by kernel_rfl) .nil ?_
        refine ath_n ?_
        refine aw_seq ?_
        refine aw_seq ?_
        refine aw_region eqok [] [3, 6, 7, 35] [3, 6, 7] [] ⟨[(3, .av (.one (.ptr 3 0))), (6, .av (.one (.ptr 6 0))), (7, .av (.one (.ptr 7 0))), (35, .av (.one (.b (decide ((x0.B.Y : Int) < x0.A.Y)))))], [(3, .cells [.i x1.X, .i x1.Y] 24), (6, .cells [.i x0.A.X, .i x0.A.Y] 24), (7, .cells [.i x0.B.X, .i x0.B.Y] 24)]⟩ .nil (by kernel_rfl) .nil ?_
        refine ath_n ?_
        refine aw_join [3, 6, 7] [3, 6, 7] ⟨[(3, .av (.one (.ptr 3 0))), (6, .av (.one (.ptr 6 0))), (7, .av (.one (.ptr 7 0)))], [(3, .cells [.i x1.X, .i x1.Y] 24), (6, .cells [.i (bif decide ((x0.B.Y : Int) < x0.A.Y) then x0.B.X else x0.A.X), .i (bif decide ((x0.B.Y : Int) < x0.A.Y) then x0.B.Y else x0.A.Y)] 24), (7, .cells [.i (bif decide ((x0.B.Y : Int) < x0.A.Y) then x0.A.X else x0.B.X), .i (bif decide ((x0.B.Y : Int) < x0.A.Y) then x0.A.Y else x0.B.Y)] 24)]⟩ ?_ ?_
        · refine aw_cond (decide ((x0.B.Y : Int) < x0.A.Y)) (by kernel_rfl) (fun h4 => ?_) (fun h4 => ?_)
          · have g4 := of_decide_eq_true h4
            refine aw_region eqok [] [3, 6, 7] [3, 6, 7] [] ⟨[(3, .av (.one (.ptr 3 0))), (6, .av (.one (.ptr 6 0))), (7, .av (.one (.ptr 7 0)))], [(3, .cells [.i x1.X, .i x1.Y] 24), (6, .cells [.i x0.B.X, .i x0.B.Y] 24), (7, .cells [.i x0.A.X, .i x0.A.Y] 24)]⟩ .nil (by kernel_rfl) .nil ?_
            refine ath_n ?_
            refine Eq.trans (b := ⟨[(3, .av (.one (.ptr 3 0))), (6, .av (.one (.ptr 6 0))), (7, .av (.one (.ptr 7 0)))], [(3, .cells [.i x1.X, .i x1.Y] 24), (6, .cells [.i x0.B.X, .i x0.B.Y] 24), (7, .cells [.i x0.A.X, .i x0.A.Y] 24)]⟩) (by kernel_rfl) ?_
            first | rfl | (simp only [h4, cond_true, cond_false]; done)
          · have g4 := of_decide_eq_false h4
            refine aw_skip ?_
            refine ath_n ?_
            refine Eq.trans (b := ⟨[(3, .av (.one (.ptr 3 0))), (6, .av (.one (.ptr 6 0))), (7, .av (.one (.ptr 7 0)))], [(3, .cells [.i x1.X, .i x1.Y] 24), (6, .cells [.i x0.A.X, .i x0.A.Y] 24), (7, .cells [.i x0.B.X, .i x0.B.Y] 24)]⟩) (by kernel_rfl) ?_
            first | rfl | (simp only [h4, cond_true, cond_false]; done)
        refine aw_seq ?_
        refine aw_region eqok [] [4] [] [] ⟨[(4, .av (.one (.b (decide (((W64 ((W64 (x1.X - (bif decide ((x0.B.Y : Int) < x0.A.Y) then x0.B.X else x0.A.X))) * (W64 ((bif decide ((x0.B.Y : Int) < x0.A.Y) then x0.A.Y else x0.B.Y) - (bif decide ((x0.B.Y : Int) < x0.A.Y) then x0.B.Y else x0.A.Y))))) : Int) < (W64 ((W64 (x1.Y - (bif decide ((x0.B.Y : Int) < x0.A.Y) then x0.B.Y else x0.A.Y))) * (W64 ((bif decide ((x0.B.Y : Int) < x0.A.Y) then x0.A.X else x0.B.X) - (bif decide ((x0.B.Y : Int) < x0.A.Y) then x0.B.X else x0.A.X))))))))))], []⟩ .nil (by kernel_rfl) .nil ?_
        refine ath_n ?_
        refine aw_ret ?_
        refine ath_r ?_
        exact ⟨.inl rfl, .av (.one (.b (decide (((W64 ((W64 (x1.X - (bif decide ((x0.B.Y : Int) < x0.A.Y) then x0.B.X else x0.A.X))) * (W64 ((bif decide ((x0.B.Y : Int) < x0.A.Y) then x0.A.Y else x0.B.Y) - (bif decide ((x0.B.Y : Int) < x0.A.Y) then x0.B.Y else x0.A.Y))))) : Int) < (W64 ((W64 (x1.Y - (bif decide ((x0.B.Y : Int) < x0.A.Y) then x0.B.Y else x0.A.Y))) * (W64 ((bif decide ((x0.B.Y : Int) < x0.A.Y) then x0.A.X else x0.B.X) - (bif decide ((x0.B.Y : Int) < x0.A.Y) then x0.B.X else x0.A.X))))))))), by kernel_rfl, (by first | (simp only [Fref06beyond, h1, h2, h3, cond_true, cond_false]; done) | (simp only [Fref06beyond, h1, h2, h3, cond_true, cond_false]; rfl))⟩
      · have g3 := of_decide_eq_false h3
        refine aw_skip ?_
        refine ath_n ?_
        refine aw_seq ?_
        refine aw_region eqok [(64, cref05Sub x1 x0.C)] [2, 8] [2, 8] [Same (cref05Sub x1 x0.C).2.1] ⟨[(2, .av (.one (.ptr 2 0))), (8, .av (.one (.ptr 8 0)))], [(2, .cells [.i x0.Kind, .i x0.A.X, .i x0.A.Y, .i x0.B.X, .i x0.B.Y, .i x0.C.X, .i x0.C.Y] 26), (8, .cells [.i ((Fref05Sub x1 x0.C).X), .i ((Fref05Sub x1 x0.C).Y)] 24)]⟩ (.cons (okref05Sub x1 x0.C) .nil) (by kernel_rfl) (.cons rfl .nil) ?_
        refine ath_n ?_
        refine aw_seq ?_
        refine aw_region eqok [(66, cref06Radius x0)] [2, 8, 9] [2, 8] [Same (cref06Radius x0).2.1] ⟨[(2, .av (.one (.ptr 2 0))), (8, .av (.one (.ptr 8 0))), (9, .av (.one (.i (Fref06Radius x0))))], [(2, .cells [.i x0.Kind, .i x0.A.X, .i x0.A.Y, .i x0.B.X, .i x0.B.Y, .i x0.C.X, .i x0.C.Y] 26), (8, .cells [.i ((Fref05Sub x1 x0.C).X), .i ((Fref05Sub x1 x0.C).Y)] 24)]⟩ (.cons (okref06Radius x0) .nil) (by kernel_rfl) (.cons rfl .nil) ?_
        refine ath_n ?_
        refine aw_seq ?_
        refine aw_region eqok [(69, cref05Dot (Fref05Sub x1 x0.C) (Fref05Sub x1 x0.C))] [2, 8, 9, 10] [2, 8] [Same (cref05Dot (Fref05Sub x1 x0.C) (Fref05Sub x1 x0.C)).2.1] ⟨[(2, .av (.one (.ptr 2 0))), (8, .av (.one (.ptr 8 0))), (9, .av (.one (.i (Fref06Radius x0)))), (10, .av (.one (.b (decide (((Fref05Dot (Fref05Sub x1 x0.C) (Fref05Sub x1 x0.C)) : Int) < (W64 ((Fref06Radius x0) * (Fref06Radius x0))))))))], [(2, .cells [.i x0.Kind, .i x0.A.X, .i x0.A.Y, .i x0.B.X, .i x0.B.Y, .i x0.C.X, .i x0.C.Y] 26), (8, .cells [.i ((Fref05Sub x1 x0.C).X), .i ((Fref05Sub x1 x0.C).Y)] 24)]⟩ (.cons (okref05Dot (Fref05Sub x1 x0.C) (Fref05Sub x1 x0.C)) .nil) (by kernel_rfl) (.cons rfl .nil) ?_
        refine ath_n ?_
        refine aw_seq ?_
        refine aw_seq ?_
        refine aw_region eqok [] [8, 9, 10, 85] [8] [] ⟨[(8, .av (.one (.ptr 8 0))), (9, .av (.one (.i (Fref06Radius x0)))), (10, .av (.one (.b (decide (((Fref05Dot (Fref05Sub x1 x0.C) (Fref05Sub x1 x0.C)) : Int) < (W64 ((Fref06Radius x0) * (Fref06Radius x0)))))))), (85, .av (.one (.b (decide (((W64 (2 * x0.C.X)) : Int) < (W64 (x0.A.X + x0.B.X)))))))], [(8, .cells [.i ((Fref05Sub x1 x0.C).X), .i ((Fref05Sub x1 x0.C).Y)] 24)]⟩ .nil (by kernel_rfl) .nil ?_
        refine ath_n ?_
        refine aw_cond (decide (((W64 (2 * x0.C.X)) : Int) < (W64 (x0.A.X + x0.B.X)))) (by kernel_rfl) (fun h4 => ?_) (fun h4 => ?_)
        · have g4 := of_decide_eq_true h4
          refine aw_seq ?_
          refine aw_region eqok [] [4] [] [] ⟨[(4, .av (.one (.b (decide (((Fref05Dot (Fref05Sub x1 x0.C) (Fref05Sub x1 x0.C)) : Int) < (W64 ((Fref06Radius x0) * (Fref06Radius x0))))))))], []⟩ .nil (by kernel_rfl) .nil ?_
          refine ath_n ?_
          refine aw_ret ?_
          refine ath_r ?_
          exact ⟨.inl rfl, .av (.one (.b (decide (((Fref05Dot (Fref05Sub x1 x0.C) (Fref05Sub x1 x0.C)) : Int) < (W64 ((Fref06Radius x0) * (Fref06Radius x0))))))), by kernel_rfl, (by first | (simp only [Fref06beyond, h1, h2, h3, h4, cond_true, cond_false]; done) | (simp only [Fref06beyond, h1, h2, h3, h4, cond_true, cond_false]; rfl))⟩
        · have g4 := of_decide_eq_false h4
          refine aw_skip ?_
          refine ath_n ?_
          refine aw_seq ?_
          refine aw_region eqok [(89, cref05Dot (Fref05Sub x1 x0.C) (Fref05Sub x1 x0.C))] [8, 11] [8] [Same (cref05Dot (Fref05Sub x1 x0.C) (Fref05Sub x1 x0.C)).2.1] ⟨[(8, .av (.one (.ptr 8 0))), (11, .av (.one (.b (decide (((W64 ((Fref06Radius x0) * (Fref06Radius x0))) : Int) < (Fref05Dot (Fref05Sub x1 x0.C) (Fref05Sub x1 x0.C)))))))], [(8, .cells [.i ((Fref05Sub x1 x0.C).X), .i ((Fref05Sub x1 x0.C).Y)] 24)]⟩ (.cons (okref05Dot (Fref05Sub x1 x0.C) (Fref05Sub x1 x0.C)) .nil) (by kernel_rfl) (.cons rfl .nil) ?_
          refine ath_n ?_
          refine aw_seq ?_
          refine aw_region eqok [] [4] [] [((decide (((W64 ((Fref06Radius x0) * (Fref06Radius x0))) : Int) < (Fref05Dot (Fref05Sub x1 x0.C) (Fref05Sub x1 x0.C)))) = true) → ((decide (((W64 ((Fref06Radius x0) * (Fref06Radius x0))) : Int) < (Fref05Dot (Fref05Sub x1 x0.C) (Fref05Sub x1 x0.C)))) = true), ((decide (((W64 ((Fref06Radius x0) * (Fref06Radius x0))) : Int) < (Fref05Dot (Fref05Sub x1 x0.C) (Fref05Sub x1 x0.C)))) = true) → ((decide (((W64 ((Fref06Radius x0) * (Fref06Radius x0))) : Int) < (Fref05Dot (Fref05Sub x1 x0.C) (Fref05Sub x1 x0.C)))) = true), (decide (((W64 ((Fref06Radius x0) * (Fref06Radius x0))) : Int) < (Fref05Dot (Fref05Sub x1 x0.C) (Fref05Sub x1 x0.C)))) = true → ((decide (((W64 ((Fref06Radius x0) * (Fref06Radius x0))) : Int) < (Fref05Dot (Fref05Sub x1 x0.C) (Fref05Sub x1 x0.C)))) = true)] ⟨[(4, .av (.one (.b (bif decide (((W64 ((Fref06Radius x0) * (Fref06Radius x0))) : Int) < (Fref05Dot (Fref05Sub x1 x0.C) (Fref05Sub x1 x0.C))) then decide ((((Fref05Sub x1 x0.C).X) : Int) < 0) else false))))], []⟩ .nil (by kernel_rfl) (.cons (by intros; first | assumption | exact And.left (by assumption) | simp_all) (.cons (by intros; first | assumption | exact And.left (by assumption) | simp_all) (.cons id .nil))) ?_
          refine ath_n ?_
          refine aw_ret ?_
          exact ⟨.inl rfl, .av (.one (.b (bif decide (((W64 ((Fref06Radius x0) * (Fref06Radius x0))) : Int) < (Fref05Dot (Fref05Sub x1 x0.C) (Fref05Sub x1 x0.C))) then decide ((((Fref05Sub x1 x0.C).X) : Int) < 0) else false))), by kernel_rfl, (by first | (simp only [Fref06beyond, h1, h2, h3, h4, cond_true, cond_false]; done) | (simp only [Fref06beyond, h1, h2, h3, h4, cond_true, cond_false]; rfl))⟩
theorem okref06beyond (x0 : TEdge) (x1 : TPoint) : CallOk Try.prog (cref06beyond x0 x1).1 (cref06beyond x0 x1).2.1 (cref06beyond x0 x1).2.2 := callOk_pure (fun _ _ => by kernel_rfl) fun _ => pref06beyond x0 x1 
def Fref06Ray (x0 : TEdge) (x1 : TPoint) : Int := bif !decide (((Fref06Check x0) : Int) = 0) then (0) else (bif bif bif decide ((x0.A.Y : Int) ≤ x1.Y) then decide ((x1.Y : Int) < x0.B.Y) else false then Fref06beyond x0 x1 else false then (1) else (bif bif bif decide ((x0.B.Y : Int) ≤ x1.Y) then decide ((x1.Y : Int) < x0.A.Y) else false then Fref06beyond x0 x1 else false then ((-1)) else (0)))
def cref06Ray (x0 : TEdge) (x1 : TPoint) : FuncId × List Av × Ef := (22, [.agg [.i x0.Kind, .i x0.A.X, .i x0.A.Y, .i x0.B.X, .i x0.B.Y, .i x0.C.X, .i x0.C.Y], .agg [.i x1.X, .i x1.Y]], .val [] (.av (.one (.i (Fref06Ray x0 x1)))))
set_option maxRecDepth 100000 in
theorem pref06Ray (x0 : TEdge) (x1 : TPoint) : Pure Try.prog 22 (cref06Ray x0 x1).2.1 (.av (.one (.i (Fref06Ray x0 x1)))) := by
  refine pure_of_aw Try.func22 rfl (by kernel_rfl) (by kernel_rfl) fun W0 M0 => ?_
  refine aw_seq ?_
  refine aw_region eqok [] [2, 3] [2, 3] [] ⟨[(2, .av (.one (.ptr 2 0))), (3, .av (.one (.ptr 3 0)))], [(2, .cells [.i x0.Kind, .i x0.A.X, .i x0.A.Y, .i x0.B.X, .i x0.B.Y, .i x0.C.X, .i x0.C.Y] 26), (3, .cells [.i x1.X, .i x1.Y] 24)]⟩ .nil (by kernel_rfl) .nil ?_
  refine ath_n ?_
  refine aw_seq ?_
  refine aw_seq ?_
  refine aw_region eqok [(6, cref06Check x0)] [2, 3, 7] [2, 3] [Same (cref06Check x0).2.1] ⟨[(2, .av (.one (.ptr 2 0))), (3, .av (.one (.ptr 3 0))), (7, .av (.one (.b (!decide (((Fref06Check x0) : Int) = 0)))))], [(2, .cells [.i x0.Kind, .i x0.A.X, .i x0.A.Y, .i x0.B.X, .i x0.B.Y, .i x0.C.X, .i x0.C.Y] 26), (3, .cells [.i x1.X, .i x1.Y] 24)]⟩ (.cons (okref06Check x0) .nil) (by kernel_rfl) (.cons rfl .nil) ?_
  refine ath_n ?_
  refine aw_cond (!decide (((Fref06Check x0) : Int) = 0)) (by kernel_rfl) (fun h1 => ?_) (fun h1 => ?_)
  · have g1 := of_not_decide_true h1
    refine aw_seq ?_
    refine aw_region eqok [] [4] [] [] ⟨[(4, .av (.one (.i 0)))], []⟩ .nil (by kernel_rfl) .nil ?_
    refine ath_n ?_
    refine aw_ret ?_
    refine ath_r ?_
    exact ⟨.inl rfl, .av (.one (.i 0)), by kernel_rfl, (by first | (simp only [Fref06Ray, h1, cond_true, cond_false]; done) | (simp only [Fref06Ray, h1, cond_true, cond_false]; rfl))⟩
  · have g1 := of_not_decide_false h1
    refine aw_skip ?_
    refine ath_n ?_
    refine aw_seq ?_
    refine aw_seq ?_
    refine aw_region eqok [(25, cref06beyond x0 x1)] [2, 3, 26] [2, 3] [((decide ((x0.A.Y : Int) ≤ x1.Y)) = true) → ((decide ((x0.A.Y : Int) ≤ x1.Y)) = true), ((decide ((x0.A.Y : Int) ≤ x1.Y)) = true) → ((decide ((x0.A.Y : Int) ≤ x1.Y)) = true), ((decide ((x0.A.Y : Int) ≤ x1.Y)) = true) → ((decide ((x0.A.Y : Int) ≤ x1.Y)) = true), ((decide ((x0.A.Y : Int) ≤ x1.Y)) = true) → ((decide ((x0.A.Y : Int) ≤ x1.Y)) = true), ((decide ((x0.A.Y : Int) ≤ x1.Y)) = true) → ((decide ((x0.A.Y : Int) ≤ x1.Y)) = true), (decide ((x0.A.Y : Int) ≤ x1.Y)) = true → ((decide ((x0.A.Y : Int) ≤ x1.Y)) = true), ((bif decide ((x0.A.Y : Int) ≤ x1.Y) then decide ((x1.Y : Int) < x0.B.Y) else false) = true) → ((bif decide ((x0.A.Y : Int) ≤ x1.Y) then decide ((x1.Y : Int) < x0.B.Y) else false) = true), ((bif decide ((x0.A.Y : Int) ≤ x1.Y) then decide ((x1.Y : Int) < x0.B.Y) else false) = true) → ((bif decide ((x0.A.Y : Int) ≤ x1.Y) then decide ((x1.Y : Int) < x0.B.Y) else false) = true), ((bif decide ((x0.A.Y : Int) ≤ x1.Y) then decide ((x1.Y : Int) < x0.B.Y) else false) = true) → (Same (cref06beyond x0 x1).2.1), (bif decide ((x0.A.Y : Int) ≤ x1.Y) then decide ((x1.Y : Int) < x0.B.Y) else false) = true → ((bif decide ((x0.A.Y : Int) ≤ x1.Y) then decide ((x1.Y : Int) < x0.B.Y) else false) = true)] ⟨[(2, .av (.one (.ptr 2 0))), (3, .av (.one (.ptr 3 0))), (26, .av (.one (.b (bif bif decide ((x0.A.Y : Int) ≤ x1.Y) then decide ((x1.Y : Int) < x0.B.Y) else false then Fref06beyond x0 x1 else false))))], [(2, .cells [.i x0.Kind, .i x0.A.X, .i x0.A.Y, .i x0.B.X, .i x0.B.Y, .i x0.C.X, .i x0.C.Y] 26), (3, .cells [.i x1.X, .i x1.Y] 24)]⟩ (.cons (okref06beyond x0 x1) .nil) (by kernel_rfl) (.cons (by intros; first | assumption | exact And.left (by assumption) | simp_all) (.cons (by intros; first | assumption | exact And.left (by assumption) | simp_all) (.cons (by intros; first | assumption | exact And.left (by assumption) | simp_all) (.cons (by intros; first | assumption | exact And.left (by assumption) | simp_all) (.cons (by intros; first | assumption | exact And.left (by assumption) | simp_all) (.cons id (.cons (by intros; first | assumption | exact And.left (by assumption) | simp_all) (.cons (by intros; first | assumption | exact And.left (by assumption) | simp_all) (.cons (fun _ => rfl) (.cons id .nil)))))))))) ?_
    refine ath_n ?_
    refine aw_cond (bif bif decide ((x0.A.Y : Int) ≤ x1.Y) then decide ((x1.Y : Int) < x0.B.Y) else false then Fref06beyond x0 x1 else false) (by kernel_rfl) (fun h2 => ?_) (fun h2 => ?_)
    · refine aw_seq ?_
      refine aw_region eqok [] [4] [] [] ⟨[(4, .av (.one (.i 1)))], []⟩ .nil (by kernel_rfl) .nil ?_
      refine ath_n ?_
      refine aw_ret ?_
      refine ath_r ?_
      exact ⟨.inl rfl, .av (.one (.i 1)), by kernel_rfl, (by first | (simp only [Fref06Ray, h1, h2, cond_true, cond_false]; done) | (simp only [Fref06Ray, h1, h2, cond_true, cond_false]; rfl))⟩
    · refine aw_skip ?_
      refine ath_n ?_
      refine aw_seq ?_
      refine aw_seq ?_
      refine aw_region eqok [(44, cref06beyond x0 x1)] [45] [] [((decide ((x0.B.Y : Int) ≤ x1.Y)) = true) → ((decide ((x0.B.Y : Int) ≤ x1.Y)) = true), ((decide ((x0.B.Y : Int) ≤ x1.Y)) = true) → ((decide ((x0.B.Y : Int) ≤ x1.Y)) = true), ((decide ((x0.B.Y : Int) ≤ x1.Y)) = true) → ((decide ((x0.B.Y : Int) ≤ x1.Y)) = true), ((decide ((x0.B.Y : Int) ≤ x1.Y)) = true) → ((decide ((x0.B.Y : Int) ≤ x1.Y)) = true), ((decide ((x0.B.Y : Int) ≤ x1.Y)) = true) → ((decide ((x0.B.Y : Int) ≤ x1.Y)) = true), (decide ((x0.B.Y : Int) ≤ x1.Y)) = true → ((decide ((x0.B.Y : Int) ≤ x1.Y)) = true), ((bif decide ((x0.B.Y : Int) ≤ x1.Y) then decide ((x1.Y : Int) < x0.A.Y) else false) = true) → ((bif decide ((x0.B.Y : Int) ≤ x1.Y) then decide ((x1.Y : Int) < x0.A.Y) else false) = true), ((bif decide ((x0.B.Y : Int) ≤ x1.Y) then decide ((x1.Y : Int) < x0.A.Y) else false) = true) → ((bif decide ((x0.B.Y : Int) ≤ x1.Y) then decide ((x1.Y : Int) < x0.A.Y) else false) = true), ((bif decide ((x0.B.Y : Int) ≤ x1.Y) then decide ((x1.Y : Int) < x0.A.Y) else false) = true) → (Same (cref06beyond x0 x1).2.1), (bif decide ((x0.B.Y : Int) ≤ x1.Y) then decide ((x1.Y : Int) < x0.A.Y) else false) = true → ((bif decide ((x0.B.Y : Int) ≤ x1.Y) then decide ((x1.Y : Int) < x0.A.Y) else false) = true)] ⟨[(45, .av (.one (.b (bif bif decide ((x0.B.Y : Int) ≤ x1.Y) then decide ((x1.Y : Int) < x0.A.Y) else false then Fref06beyond x0 x1 else false))))], []⟩ (.cons (okref06beyond x0 x1) .nil) (by kernel_rfl) (.cons (by intros; first | assumption | exact And.left (by assumption) | simp_all) (.cons (by intros; first | assumption | exact And.left (by assumption) | simp_all) (.cons (by intros; first | assumption | exact And.left (by assumption) | simp_all) (.cons (by intros; first | assumption | exact And.left (by assumption) | simp_all) (.cons (by intros; first | assumption | exact And.left (by assumption) | simp_all) (.cons id (.cons (by intros; first | assumption | exact And.left (by assumption) | simp_all) (.cons (by intros; first | assumption | exact And.left (by assumption) | simp_all) (.cons (fun _ => rfl) (.cons id .nil)))))))))) ?_
      refine ath_n ?_
      refine aw_cond (bif bif decide ((x0.B.Y : Int) ≤ x1.Y) then decide ((x1.Y : Int) < x0.A.Y) else false then Fref06beyond x0 x1 else false) (by kernel_rfl) (fun h3 => ?_) (fun h3 => ?_)
      · refine aw_seq ?_
        refine aw_region eqok [] [4] [] [] ⟨[(4, .av (.one (.i ((-1)))))], []⟩ .nil (by kernel_rfl) .nil ?_
        refine ath_n ?_
        refine aw_ret ?_
        refine ath_r ?_
        exact ⟨.inl rfl, .av (.one (.i ((-1)))), by kernel_rfl, (by first | (simp only [Fref06Ray, h1, h2, h3, cond_true, cond_false]; done) | (simp only [Fref06Ray, h1, h2, h3, cond_true, cond_false]; rfl))⟩
      · refine aw_skip ?_
        refine ath_n ?_
        refine aw_seq ?_
        refine aw_region eqok [] [4] [] [] ⟨[(4, .av (.one (.i 0)))], []⟩ .nil (by kernel_rfl) .nil ?_
        refine ath_n ?_
        refine aw_ret ?_
        exact ⟨.inl rfl, .av (.one (.i 0)), by kernel_rfl, (by first | (simp only [Fref06Ray, h1, h2, h3, cond_true, cond_false]; done) | (simp only [Fref06Ray, h1, h2, h3, cond_true, cond_false]; rfl))⟩
theorem okref06Ray (x0 : TEdge) (x1 : TPoint) : CallOk Try.prog (cref06Ray x0 x1).1 (cref06Ray x0 x1).2.1 (cref06Ray x0 x1).2.2 := callOk_pure (fun _ _ => by kernel_rfl) fun _ => pref06Ray x0 x1 
def Fref06Reverse (x0 : TEdge) : TEdge := TEdge.mk (Fref06turn x0.Kind) x0.B x0.A x0.C
def cref06Reverse (x0 : TEdge) : FuncId × List Av × Ef := (27, [.agg [.i x0.Kind, .i x0.A.X, .i x0.A.Y, .i x0.B.X, .i x0.B.Y, .i x0.C.X, .i x0.C.Y]], .val [] (.av (.agg [.i ((Fref06Reverse x0).Kind), .i (((Fref06Reverse x0).A).X), .i (((Fref06Reverse x0).A).Y), .i (((Fref06Reverse x0).B).X), .i (((Fref06Reverse x0).B).Y), .i (((Fref06Reverse x0).C).X), .i (((Fref06Reverse x0).C).Y)])))
set_option maxRecDepth 100000 in
theorem pref06Reverse (x0 : TEdge) : Pure Try.prog 27 (cref06Reverse x0).2.1 (.av (.agg [.i ((Fref06Reverse x0).Kind), .i (((Fref06Reverse x0).A).X), .i (((Fref06Reverse x0).A).Y), .i (((Fref06Reverse x0).B).X), .i (((Fref06Reverse x0).B).Y), .i (((Fref06Reverse x0).C).X), .i (((Fref06Reverse x0).C).Y)])) := by
  refine pure_of_aw Try.func27 rfl (by kernel_rfl) (by kernel_rfl) fun W0 M0 => ?_
  refine aw_seq ?_
  refine aw_region eqok [] [1, 2] [1, 2] [] ⟨[(1, .av (.one (.ptr 1 0))), (2, .av (.one (.ptr 2 0)))], [(1, .cells [.i x0.Kind, .i x0.A.X, .i x0.A.Y, .i x0.B.X, .i x0.B.Y, .i x0.C.X, .i x0.C.Y] 26), (2, .cells [.i 0, .i 0, .i 0, .i 0, .i 0, .i 0, .i 0] 26)]⟩ .nil (by kernel_rfl) .nil ?_
  refine ath_n ?_
  refine aw_seq ?_
  refine aw_draw mixed eqok [(5, cref06turn x0.Kind)] [2] [2] [Same (cref06turn x0.Kind).2.1] ⟨[(2, .av (.one (.ptr 2 0)))], [(2, .cells [.i (Fref06turn x0.Kind), .i x0.B.X, .i x0.B.Y, .i x0.A.X, .i x0.A.Y, .i x0.C.X, .i x0.C.Y] 26)]⟩ (.cons (okref06turn x0.Kind) .nil) (by kernel_rfl) (by kernel_rfl) (.cons rfl .nil) ?_
  refine ath_n ?_
  refine aw_ret ?_
  exact ⟨.inl rfl, .av (.agg [.i (Fref06turn x0.Kind), .i x0.B.X, .i x0.B.Y, .i x0.A.X, .i x0.A.Y, .i x0.C.X, .i x0.C.Y]), by kernel_rfl, (by rfl)⟩
theorem okref06Reverse (x0 : TEdge) : CallOk Try.prog (cref06Reverse x0).1 (cref06Reverse x0).2.1 (cref06Reverse x0).2.2 := callOk_pure (fun _ _ => by kernel_rfl) fun _ => pref06Reverse x0 
def Fref06Move (x0 : TEdge) (x1 : TMotion) : TEdge := TEdge.mk (bif x1.Mirror then (Fref06turn x0.Kind) else x0.Kind) (Fref05Apply x1 x0.A) (Fref05Apply x1 x0.B) (TPoint.mk (bif !decide ((x0.Kind : Int) = 1) then ((Fref05Apply x1 x0.C).X) else x0.C.X) (bif !decide ((x0.Kind : Int) = 1) then ((Fref05Apply x1 x0.C).Y) else x0.C.Y))
def cref06Move (x0 : TEdge) (x1 : TMotion) : FuncId × List Av × Ef := (29, [.agg [.i x0.Kind, .i x0.A.X, .i x0.A.Y, .i x0.B.X, .i x0.B.Y, .i x0.C.X, .i x0.C.Y], .agg [.i x1.At.X, .i x1.At.Y, .i x1.Turn, .b x1.Mirror]], .val [] (.av (.agg [.i ((Fref06Move x0 x1).Kind), .i (((Fref06Move x0 x1).A).X), .i (((Fref06Move x0 x1).A).Y), .i (((Fref06Move x0 x1).B).X), .i (((Fref06Move x0 x1).B).Y), .i (((Fref06Move x0 x1).C).X), .i (((Fref06Move x0 x1).C).Y)])))
set_option maxRecDepth 100000 in
theorem pref06Move (x0 : TEdge) (x1 : TMotion) : Pure Try.prog 29 (cref06Move x0 x1).2.1 (.av (.agg [.i ((Fref06Move x0 x1).Kind), .i (((Fref06Move x0 x1).A).X), .i (((Fref06Move x0 x1).A).Y), .i (((Fref06Move x0 x1).B).X), .i (((Fref06Move x0 x1).B).Y), .i (((Fref06Move x0 x1).C).X), .i (((Fref06Move x0 x1).C).Y)])) := by
  refine pure_of_aw Try.func29 rfl (by kernel_rfl) (by kernel_rfl) fun W0 M0 => ?_
  refine aw_seq ?_
  refine aw_region eqok [] [2, 3, 4] [2, 3, 4] [] ⟨[(2, .av (.one (.ptr 2 0))), (3, .av (.one (.ptr 3 0))), (4, .av (.one (.ptr 4 0)))], [(2, .cells [.i x0.Kind, .i x0.A.X, .i x0.A.Y, .i x0.B.X, .i x0.B.Y, .i x0.C.X, .i x0.C.Y] 26), (3, .cells [.i x1.At.X, .i x1.At.Y, .i x1.Turn, .b x1.Mirror] 55), (4, .cells [.i 0, .i 0, .i 0, .i 0, .i 0, .i 0, .i 0] 26)]⟩ .nil (by kernel_rfl) .nil ?_
  refine ath_n ?_
  refine aw_seq ?_
  refine aw_draw mixed eqok [(11, cref05Apply x1 x0.A), (15, cref05Apply x1 x0.B)] [2, 3, 4, 5] [2, 3, 4, 5] [Same (cref05Apply x1 x0.A).2.1, Same (cref05Apply x1 x0.B).2.1] ⟨[(2, .av (.one (.ptr 2 0))), (3, .av (.one (.ptr 3 0))), (4, .av (.one (.ptr 4 0))), (5, .av (.one (.ptr 5 0)))], [(2, .cells [.i x0.Kind, .i x0.A.X, .i x0.A.Y, .i x0.B.X, .i x0.B.Y, .i x0.C.X, .i x0.C.Y] 26), (3, .cells [.i x1.At.X, .i x1.At.Y, .i x1.Turn, .b x1.Mirror] 55), (4, .cells [.i 0, .i 0, .i 0, .i 0, .i 0, .i 0, .i 0] 26), (5, .cells [.i x0.Kind, .i ((Fref05Apply x1 x0.A).X), .i ((Fref05Apply x1 x0.A).Y), .i ((Fref05Apply x1 x0.B).X), .i ((Fref05Apply x1 x0.B).Y), .i x0.C.X, .i x0.C.Y] 26)]⟩ (.cons (okref05Apply x1 x0.A) (.cons (okref05Apply x1 x0.B) .nil)) (by kernel_rfl) (by kernel_rfl) (.cons rfl (.cons rfl .nil)) ?_
  refine ath_n ?_
  refine aw_seq ?_
  refine aw_seq ?_
  refine aw_region eqok [] [2, 3, 4, 5, 21] [2, 3, 4, 5] [] ⟨[(2, .av (.one (.ptr 2 0))), (3, .av (.one (.ptr 3 0))), (4, .av (.one (.ptr 4 0))), (5, .av (.one (.ptr 5 0))), (21, .av (.one (.b (!decide ((x0.Kind : Int) = 1)))))], [(2, .cells [.i x0.Kind, .i x0.A.X, .i x0.A.Y, .i x0.B.X, .i x0.B.Y, .i x0.C.X, .i x0.C.Y] 26), (3, .cells [.i x1.At.X, .i x1.At.Y, .i x1.Turn, .b x1.Mirror] 55), (4, .cells [.i 0, .i 0, .i 0, .i 0, .i 0, .i 0, .i 0] 26), (5, .cells [.i x0.Kind, .i ((Fref05Apply x1 x0.A).X), .i ((Fref05Apply x1 x0.A).Y), .i ((Fref05Apply x1 x0.B).X), .i ((Fref05Apply x1 x0.B).Y), .i x0.C.X, .i x0.C.Y] 26)]⟩ .nil (by kernel_rfl) .nil ?_
  refine ath_n ?_
  refine aw_join [2, 3, 4, 5] [2, 3, 4, 5] ⟨[(2, .av (.one (.ptr 2 0))), (3, .av (.one (.ptr 3 0))), (4, .av (.one (.ptr 4 0))), (5, .av (.one (.ptr 5 0)))], [(2, .cells [.i x0.Kind, .i x0.A.X, .i x0.A.Y, .i x0.B.X, .i x0.B.Y, .i x0.C.X, .i x0.C.Y] 26), (3, .cells [.i x1.At.X, .i x1.At.Y, .i x1.Turn, .b x1.Mirror] 55), (4, .cells [.i 0, .i 0, .i 0, .i 0, .i 0, .i 0, .i 0] 26), (5, .cells [.i x0.Kind, .i ((Fref05Apply x1 x0.A).X), .i ((Fref05Apply x1 x0.A).Y), .i ((Fref05Apply x1 x0.B).X), .i ((Fref05Apply x1 x0.B).Y), .i (bif !decide ((x0.Kind : Int) = 1) then ((Fref05Apply x1 x0.C).X) else x0.C.X), .i (bif !decide ((x0.Kind : Int) = 1) then ((Fref05Apply x1 x0.C).Y) else x0.C.Y)] 26)]⟩ ?_ ?_
  · refine aw_cond (!decide ((x0.Kind : Int) = 1)) (by kernel_rfl) (fun h1 => ?_) (fun h1 => ?_)
    · have g1 := of_not_decide_true h1
      refine aw_region eqok [(25, cref05Apply x1 x0.C)] [2, 3, 4, 5] [2, 3, 4, 5] [Same (cref05Apply x1 x0.C).2.1] ⟨[(2, .av (.one (.ptr 2 0))), (3, .av (.one (.ptr 3 0))), (4, .av (.one (.ptr 4 0))), (5, .av (.one (.ptr 5 0)))], [(2, .cells [.i x0.Kind, .i x0.A.X, .i x0.A.Y, .i x0.B.X, .i x0.B.Y, .i x0.C.X, .i x0.C.Y] 26), (3, .cells [.i x1.At.X, .i x1.At.Y, .i x1.Turn, .b x1.Mirror] 55), (4, .cells [.i 0, .i 0, .i 0, .i 0, .i 0, .i 0, .i 0] 26), (5, .cells [.i x0.Kind, .i ((Fref05Apply x1 x0.A).X), .i ((Fref05Apply x1 x0.A).Y), .i ((Fref05Apply x1 x0.B).X), .i ((Fref05Apply x1 x0.B).Y), .i ((Fref05Apply x1 x0.C).X), .i ((Fref05Apply x1 x0.C).Y)] 26)]⟩ (.cons (okref05Apply x1 x0.C) .nil) (by kernel_rfl) (.cons rfl .nil) ?_
      refine ath_n ?_
      refine Eq.trans (b := ⟨[(2, .av (.one (.ptr 2 0))), (3, .av (.one (.ptr 3 0))), (4, .av (.one (.ptr 4 0))), (5, .av (.one (.ptr 5 0)))], [(2, .cells [.i x0.Kind, .i x0.A.X, .i x0.A.Y, .i x0.B.X, .i x0.B.Y, .i x0.C.X, .i x0.C.Y] 26), (3, .cells [.i x1.At.X, .i x1.At.Y, .i x1.Turn, .b x1.Mirror] 55), (4, .cells [.i 0, .i 0, .i 0, .i 0, .i 0, .i 0, .i 0] 26), (5, .cells [.i x0.Kind, .i ((Fref05Apply x1 x0.A).X), .i ((Fref05Apply x1 x0.A).Y), .i ((Fref05Apply x1 x0.B).X), .i ((Fref05Apply x1 x0.B).Y), .i ((Fref05Apply x1 x0.C).X), .i ((Fref05Apply x1 x0.C).Y)] 26)]⟩) (by kernel_rfl) ?_
      first | rfl | (simp only [h1, cond_true, cond_false]; done)
    · have g1 := of_not_decide_false h1
      refine aw_skip ?_
      refine ath_n ?_
      refine Eq.trans (b := ⟨[(2, .av (.one (.ptr 2 0))), (3, .av (.one (.ptr 3 0))), (4, .av (.one (.ptr 4 0))), (5, .av (.one (.ptr 5 0)))], [(2, .cells [.i x0.Kind, .i x0.A.X, .i x0.A.Y, .i x0.B.X, .i x0.B.Y, .i x0.C.X, .i x0.C.Y] 26), (3, .cells [.i x1.At.X, .i x1.At.Y, .i x1.Turn, .b x1.Mirror] 55), (4, .cells [.i 0, .i 0, .i 0, .i 0, .i 0, .i 0, .i 0] 26), (5, .cells [.i x0.Kind, .i ((Fref05Apply x1 x0.A).X), .i ((Fref05Apply x1 x0.A).Y), .i ((Fref05Apply x1 x0.B).X), .i ((Fref05Apply x1 x0.B).Y), .i x0.C.X, .i x0.C.Y] 26)]⟩) (by kernel_rfl) ?_
      first | rfl | (simp only [h1, cond_true, cond_false]; done)
  refine aw_seq ?_
  refine aw_seq ?_
  refine aw_region eqok [] [2, 4, 5, 28] [2, 4, 5] [] ⟨[(2, .av (.one (.ptr 2 0))), (4, .av (.one (.ptr 4 0))), (5, .av (.one (.ptr 5 0))), (28, .av (.one (.b x1.Mirror)))], [(2, .cells [.i x0.Kind, .i x0.A.X, .i x0.A.Y, .i x0.B.X, .i x0.B.Y, .i x0.C.X, .i x0.C.Y] 26), (4, .cells [.i 0, .i 0, .i 0, .i 0, .i 0, .i 0, .i 0] 26), (5, .cells [.i x0.Kind, .i ((Fref05Apply x1 x0.A).X), .i ((Fref05Apply x1 x0.A).Y), .i ((Fref05Apply x1 x0.B).X), .i ((Fref05Apply x1 x0.B).Y), .i (bif !decide ((x0.Kind : Int) = 1) then ((Fref05Apply x1 x0.C).X) else x0.C.X), .i (bif !decide ((x0.Kind : Int) = 1) then ((Fref05Apply x1 x0.C).Y) else x0.C.Y)] 26)]⟩ .nil (by kernel_rfl) .nil ?_
  refine ath_n ?_
  refine aw_join [4, 5] [4, 5] ⟨[(4, .av (.one (.ptr 4 0))), (5, .av (.one (.ptr 5 0)))], [(4, .cells [.i 0, .i 0, .i 0, .i 0, .i 0, .i 0, .i 0] 26), (5, .cells [.i (bif x1.Mirror then (Fref06turn x0.Kind) else x0.Kind), .i ((Fref05Apply x1 x0.A).X), .i ((Fref05Apply x1 x0.A).Y), .i ((Fref05Apply x1 x0.B).X), .i ((Fref05Apply x1 x0.B).Y), .i (bif !decide ((x0.Kind : Int) = 1) then ((Fref05Apply x1 x0.C).X) else x0.C.X), .i (bif !decide ((x0.Kind : Int) = 1) then ((Fref05Apply x1 x0.C).Y) else x0.C.Y)] 26)]⟩ ?_ ?_
  · refine aw_cond (x1.Mirror) (by kernel_rfl) (fun h1 => ?_) (fun h1 => ?_)
    · refine aw_region eqok [(31, cref06turn x0.Kind)] [4, 5] [4, 5] [Same (cref06turn x0.Kind).2.1] ⟨[(4, .av (.one (.ptr 4 0))), (5, .av (.one (.ptr 5 0)))], [(4, .cells [.i 0, .i 0, .i 0, .i 0, .i 0, .i 0, .i 0] 26), (5, .cells [.i (Fref06turn x0.Kind), .i ((Fref05Apply x1 x0.A).X), .i ((Fref05Apply x1 x0.A).Y), .i ((Fref05Apply x1 x0.B).X), .i ((Fref05Apply x1 x0.B).Y), .i (bif !decide ((x0.Kind : Int) = 1) then ((Fref05Apply x1 x0.C).X) else x0.C.X), .i (bif !decide ((x0.Kind : Int) = 1) then ((Fref05Apply x1 x0.C).Y) else x0.C.Y)] 26)]⟩ (.cons (okref06turn x0.Kind) .nil) (by kernel_rfl) (.cons rfl .nil) ?_
      refine ath_n ?_
      refine Eq.trans (b := ⟨[(4, .av (.one (.ptr 4 0))), (5, .av (.one (.ptr 5 0)))], [(4, .cells [.i 0, .i 0, .i 0, .i 0, .i 0, .i 0, .i 0] 26), (5, .cells [.i (Fref06turn x0.Kind), .i ((Fref05Apply x1 x0.A).X), .i ((Fref05Apply x1 x0.A).Y), .i ((Fref05Apply x1 x0.B).X), .i ((Fref05Apply x1 x0.B).Y), .i (bif !decide ((x0.Kind : Int) = 1) then ((Fref05Apply x1 x0.C).X) else x0.C.X), .i (bif !decide ((x0.Kind : Int) = 1) then ((Fref05Apply x1 x0.C).Y) else x0.C.Y)] 26)]⟩) (by kernel_rfl) ?_
      first | rfl | (simp only [h1, cond_true, cond_false]; done)
    · refine aw_skip ?_
      refine ath_n ?_
      refine Eq.trans (b := ⟨[(4, .av (.one (.ptr 4 0))), (5, .av (.one (.ptr 5 0)))], [(4, .cells [.i 0, .i 0, .i 0, .i 0, .i 0, .i 0, .i 0] 26), (5, .cells [.i x0.Kind, .i ((Fref05Apply x1 x0.A).X), .i ((Fref05Apply x1 x0.A).Y), .i ((Fref05Apply x1 x0.B).X), .i ((Fref05Apply x1 x0.B).Y), .i (bif !decide ((x0.Kind : Int) = 1) then ((Fref05Apply x1 x0.C).X) else x0.C.X), .i (bif !decide ((x0.Kind : Int) = 1) then ((Fref05Apply x1 x0.C).Y) else x0.C.Y)] 26)]⟩) (by kernel_rfl) ?_
      first | rfl | (simp only [h1, cond_true, cond_false]; done)
  refine aw_seq ?_
  refine aw_region eqok [] [4] [4] [] ⟨[(4, .av (.one (.ptr 4 0)))], [(4, .cells [.i (bif x1.Mirror then (Fref06turn x0.Kind) else x0.Kind), .i ((Fref05Apply x1 x0.A).X), .i ((Fref05Apply x1 x0.A).Y), .i ((Fref05Apply x1 x0.B).X), .i ((Fref05Apply x1 x0.B).Y), .i (bif !decide ((x0.Kind : Int) = 1) then ((Fref05Apply x1 x0.C).X) else x0.C.X), .i (bif !decide ((x0.Kind : Int) = 1) then ((Fref05Apply x1 x0.C).Y) else x0.C.Y)] 26)]⟩ .nil (by kernel_rfl) .nil ?_
  refine ath_n ?_
  refine aw_ret ?_
  exact ⟨.inl rfl, .av (.agg [.i (bif x1.Mirror then (Fref06turn x0.Kind) else x0.Kind), .i ((Fref05Apply x1 x0.A).X), .i ((Fref05Apply x1 x0.A).Y), .i ((Fref05Apply x1 x0.B).X), .i ((Fref05Apply x1 x0.B).Y), .i (bif !decide ((x0.Kind : Int) = 1) then ((Fref05Apply x1 x0.C).X) else x0.C.X), .i (bif !decide ((x0.Kind : Int) = 1) then ((Fref05Apply x1 x0.C).Y) else x0.C.Y)]), by kernel_rfl, (by rfl)⟩
theorem okref06Move (x0 : TEdge) (x1 : TMotion) : CallOk Try.prog (cref06Move x0 x1).1 (cref06Move x0 x1).2.1 (cref06Move x0 x1).2.2 := callOk_pure (fun _ _ => by kernel_rfl) fun _ => pref06Move x0 x1 
def Fref06Arc (x0 : TPoint) (x1 : Int) (x2 : Int) (x3 : Int) : TEdge := TEdge.mk x3 (Fref05Add x0 (Fref05Apply (TMotion.mk (TPoint.mk 0 0) x2 false) (TPoint.mk x1 0))) (Fref05Add x0 (Fref05Apply (TMotion.mk (TPoint.mk 0 0) (bif decide ((x3 : Int) = 3) then (W64 (x2 + 3)) else (W64 (x2 + 1))) false) (TPoint.mk x1 0))) x0
def cref06Arc (x0 : TPoint) (x1 : Int) (x2 : Int) (x3 : Int) : FuncId × List Av × Ef := (26, [.agg [.i x0.X, .i x0.Y], .one (.i x1), .one (.i x2), .one (.i x3)], .val [] (.av (.agg [.i ((Fref06Arc x0 x1 x2 x3).Kind), .i (((Fref06Arc x0 x1 x2 x3).A).X), .i (((Fref06Arc x0 x1 x2 x3).A).Y), .i (((Fref06Arc x0 x1 x2 x3).B).X), .i (((Fref06Arc x0 x1 x2 x3).B).Y), .i (((Fref06Arc x0 x1 x2 x3).C).X), .i (((Fref06Arc x0 x1 x2 x3).C).Y)])))
set_option maxRecDepth 100000 in
theorem pref06Arc (x0 : TPoint) (x1 : Int) (x2 : Int) (x3 : Int) : Pure Try.prog 26 (cref06Arc x0 x1 x2 x3).2.1 (.av (.agg [.i ((Fref06Arc x0 x1 x2 x3).Kind), .i (((Fref06Arc x0 x1 x2 x3).A).X), .i (((Fref06Arc x0 x1 x2 x3).A).Y), .i (((Fref06Arc x0 x1 x2 x3).B).X), .i (((Fref06Arc x0 x1 x2 x3).B).Y), .i (((Fref06Arc x0 x1 x2 x3).C).X), .i (((Fref06Arc x0 x1 x2 x3).C).Y)])) := by
  refine pure_of_aw Try.func26 rfl (by kernel_rfl) (by kernel_rfl) fun W0 M0 => ?_
  refine aw_seq ?_
  refine aw_region eqok [] [1, 2, 3, 4, 8] [4, 8] [] ⟨[(1, .av (.one (.i x1))), (2, .av (.one (.i x2))), (3, .av (.one (.i x3))), (4, .av (.one (.ptr 4 0))), (8, .av (.one (.ptr 8 0)))], [(4, .cells [.i x0.X, .i x0.Y] 24), (8, .cells [.i 0, .i 0, .i 0, .i 0, .i 0, .i 0, .i 0] 26)]⟩ .nil (by kernel_rfl) .nil ?_
  refine ath_n ?_
  refine aw_seq ?_
  refine aw_region eqok [(16, cref05Apply (TMotion.mk (TPoint.mk 0 0) x2 false) (TPoint.mk x1 0))] [1, 2, 3, 4, 8, 9] [4, 8, 9] [Same (cref05Apply (TMotion.mk (TPoint.mk 0 0) x2 false) (TPoint.mk x1 0)).2.1] ⟨[(1, .av (.one (.i x1))), (2, .av (.one (.i x2))), (3, .av (.one (.i x3))), (4, .av (.one (.ptr 4 0))), (8, .av (.one (.ptr 8 0))), (9, .av (.one (.ptr 9 0)))], [(4, .cells [.i x0.X, .i x0.Y] 24), (8, .cells [.i 0, .i 0, .i 0, .i 0, .i 0, .i 0, .i 0] 26), (9, .cells [.i ((Fref05Apply (TMotion.mk (TPoint.mk 0 0) x2 false) (TPoint.mk x1 0)).X), .i ((Fref05Apply (TMotion.mk (TPoint.mk 0 0) x2 false) (TPoint.mk x1 0)).Y)] 24)]⟩ (.cons (okref05Apply (TMotion.mk (TPoint.mk 0 0) x2 false) (TPoint.mk x1 0)) .nil) (by kernel_rfl) (.cons rfl .nil) ?_
  refine ath_n ?_
  refine aw_seq ?_
  refine aw_region eqok [] [1, 2, 3, 4, 8, 9, 10] [4, 8, 9] [] ⟨[(1, .av (.one (.i x1))), (2, .av (.one (.i x2))), (3, .av (.one (.i x3))), (4, .av (.one (.ptr 4 0))), (8, .av (.one (.ptr 8 0))), (9, .av (.one (.ptr 9 0))), (10, .av (.one (.i (W64 (x2 + 1)))))], [(4, .cells [.i x0.X, .i x0.Y] 24), (8, .cells [.i 0, .i 0, .i 0, .i 0, .i 0, .i 0, .i 0] 26), (9, .cells [.i ((Fref05Apply (TMotion.mk (TPoint.mk 0 0) x2 false) (TPoint.mk x1 0)).X), .i ((Fref05Apply (TMotion.mk (TPoint.mk 0 0) x2 false) (TPoint.mk x1 0)).Y)] 24)]⟩ .nil (by kernel_rfl) .nil ?_
  refine ath_n ?_
  refine aw_seq ?_
  refine aw_seq ?_
  refine aw_region eqok [] [1, 2, 3, 4, 8, 9, 10, 20] [4, 8, 9] [] ⟨[(1, .av (.one (.i x1))), (2, .av (.one (.i x2))), (3, .av (.one (.i x3))), (4, .av (.one (.ptr 4 0))), (8, .av (.one (.ptr 8 0))), (9, .av (.one (.ptr 9 0))), (10, .av (.one (.i (W64 (x2 + 1))))), (20, .av (.one (.b (decide ((x3 : Int) = 3)))))], [(4, .cells [.i x0.X, .i x0.Y] 24), (8, .cells [.i 0, .i 0, .i 0, .i 0, .i 0, .i 0, .i 0] 26), (9, .cells [.i ((Fref05Apply (TMotion.mk (TPoint.mk 0 0) x2 false) (TPoint.mk x1 0)).X), .i ((Fref05Apply (TMotion.mk (TPoint.mk 0 0) x2 false) (TPoint.mk x1 0)).Y)] 24)]⟩ .nil (by kernel_rfl) .nil ?_
  refine ath_n ?_
  refine aw_join [1, 3, 4, 8, 9, 10] [4, 8, 9] ⟨[(1, .av (.one (.i x1))), (3, .av (.one (.i x3))), (4, .av (.one (.ptr 4 0))), (8, .av (.one (.ptr 8 0))), (9, .av (.one (.ptr 9 0))), (10, .av (.one (.i (bif decide ((x3 : Int) = 3) then (W64 (x2 + 3)) else (W64 (x2 + 1))))))], [(4, .cells [.i x0.X, .i x0.Y] 24), (8, .cells [.i 0, .i 0, .i 0, .i 0, .i 0, .i 0, .i 0] 26), (9, .cells [.i ((Fref05Apply (TMotion.mk (TPoint.mk 0 0) x2 false) (TPoint.mk x1 0)).X), .i ((Fref05Apply (TMotion.mk (TPoint.mk 0 0) x2 false) (TPoint.mk x1 0)).Y)] 24)]⟩ ?_ ?_
  · refine aw_cond (decide ((x3 : Int) = 3)) (by kernel_rfl) (fun h1 => ?_) (fun h1 => ?_)
    · have g1 := of_decide_eq_true h1
      refine aw_region eqok [] [1, 3, 4, 8, 9, 10] [4, 8, 9] [] ⟨[(1, .av (.one (.i x1))), (3, .av (.one (.i x3))), (4, .av (.one (.ptr 4 0))), (8, .av (.one (.ptr 8 0))), (9, .av (.one (.ptr 9 0))), (10, .av (.one (.i (W64 (x2 + 3)))))], [(4, .cells [.i x0.X, .i x0.Y] 24), (8, .cells [.i 0, .i 0, .i 0, .i 0, .i 0, .i 0, .i 0] 26), (9, .cells [.i ((Fref05Apply (TMotion.mk (TPoint.mk 0 0) x2 false) (TPoint.mk x1 0)).X), .i ((Fref05Apply (TMotion.mk (TPoint.mk 0 0) x2 false) (TPoint.mk x1 0)).Y)] 24)]⟩ .nil (by kernel_rfl) .nil ?_
      refine ath_n ?_
      refine Eq.trans (b := ⟨[(1, .av (.one (.i x1))), (3, .av (.one (.i x3))), (4, .av (.one (.ptr 4 0))), (8, .av (.one (.ptr 8 0))), (9, .av (.one (.ptr 9 0))), (10, .av (.one (.i (W64 (x2 + 3)))))], [(4, .cells [.i x0.X, .i x0.Y] 24), (8, .cells [.i 0, .i 0, .i 0, .i 0, .i 0, .i 0, .i 0] 26), (9, .cells [.i ((Fref05Apply (TMotion.mk (TPoint.mk 0 0) x2 false) (TPoint.mk x1 0)).X), .i ((Fref05Apply (TMotion.mk (TPoint.mk 0 0) x2 false) (TPoint.mk x1 0)).Y)] 24)]⟩) (by kernel_rfl) ?_
      first | rfl | (simp only [h1, cond_true, cond_false]; done)
    · have g1 := of_decide_eq_false h1
      refine aw_skip ?_
      refine ath_n ?_
      refine Eq.trans (b := ⟨[(1, .av (.one (.i x1))), (3, .av (.one (.i x3))), (4, .av (.one (.ptr 4 0))), (8, .av (.one (.ptr 8 0))), (9, .av (.one (.ptr 9 0))), (10, .av (.one (.i (W64 (x2 + 1)))))], [(4, .cells [.i x0.X, .i x0.Y] 24), (8, .cells [.i 0, .i 0, .i 0, .i 0, .i 0, .i 0, .i 0] 26), (9, .cells [.i ((Fref05Apply (TMotion.mk (TPoint.mk 0 0) x2 false) (TPoint.mk x1 0)).X), .i ((Fref05Apply (TMotion.mk (TPoint.mk 0 0) x2 false) (TPoint.mk x1 0)).Y)] 24)]⟩) (by kernel_rfl) ?_
      first | rfl | (simp only [h1, cond_true, cond_false]; done)
  refine aw_seq ?_
  refine aw_region eqok [(27, cref05Apply (TMotion.mk (TPoint.mk 0 0) (bif decide ((x3 : Int) = 3) then (W64 (x2 + 3)) else (W64 (x2 + 1))) false) (TPoint.mk x1 0))] [3, 4, 8, 9, 11] [4, 8, 9, 11] [Same (cref05Apply (TMotion.mk (TPoint.mk 0 0) (bif decide ((x3 : Int) = 3) then (W64 (x2 + 3)) else (W64 (x2 + 1))) false) (TPoint.mk x1 0)).2.1] ⟨[(3, .av (.one (.i x3))), (4, .av (.one (.ptr 4 0))), (8, .av (.one (.ptr 8 0))), (9, .av (.one (.ptr 9 0))), (11, .av (.one (.ptr 11 0)))], [(4, .cells [.i x0.X, .i x0.Y] 24), (8, .cells [.i 0, .i 0, .i 0, .i 0, .i 0, .i 0, .i 0] 26), (9, .cells [.i ((Fref05Apply (TMotion.mk (TPoint.mk 0 0) x2 false) (TPoint.mk x1 0)).X), .i ((Fref05Apply (TMotion.mk (TPoint.mk 0 0) x2 false) (TPoint.mk x1 0)).Y)] 24), (11, .cells [.i ((Fref05Apply (TMotion.mk (TPoint.mk 0 0) (bif decide ((x3 : Int) = 3) then (W64 (x2 + 3)) else (W64 (x2 + 1))) false) (TPoint.mk x1 0)).X), .i ((Fref05Apply (TMotion.mk (TPoint.mk 0 0) (bif decide ((x3 : Int) = 3) then (W64 (x2 + 3)) else (W64 (x2 + 1))) false) (TPoint.mk x1 0)).Y)] 24)]⟩ (.cons (okref05Apply (TMotion.mk (TPoint.mk 0 0) (bif decide ((x3 : Int) = 3) then (W64 (x2 + 3)) else (W64 (x2 + 1))) false) (TPoint.mk x1 0)) .nil) (by kernel_rfl) (.cons rfl .nil) ?_
  refine ath_n ?_
  refine aw_seq ?_
  refine aw_draw mixed eqok [(31, cref05Add x0 (Fref05Apply (TMotion.mk (TPoint.mk 0 0) x2 false) (TPoint.mk x1 0))), (34, cref05Add x0 (Fref05Apply (TMotion.mk (TPoint.mk 0 0) (bif decide ((x3 : Int) = 3) then (W64 (x2 + 3)) else (W64 (x2 + 1))) false) (TPoint.mk x1 0)))] [8] [8] [Same (cref05Add x0 (Fref05Apply (TMotion.mk (TPoint.mk 0 0) x2 false) (TPoint.mk x1 0))).2.1, Same (cref05Add x0 (Fref05Apply (TMotion.mk (TPoint.mk 0 0) (bif decide ((x3 : Int) = 3) then (W64 (x2 + 3)) else (W64 (x2 + 1))) false) (TPoint.mk x1 0))).2.1] ⟨[(8, .av (.one (.ptr 8 0)))], [(8, .cells [.i x3, .i ((Fref05Add x0 (Fref05Apply (TMotion.mk (TPoint.mk 0 0) x2 false) (TPoint.mk x1 0))).X), .i ((Fref05Add x0 (Fref05Apply (TMotion.mk (TPoint.mk 0 0) x2 false) (TPoint.mk x1 0))).Y), .i ((Fref05Add x0 (Fref05Apply (TMotion.mk (TPoint.mk 0 0) (bif decide ((x3 : Int) = 3) then (W64 (x2 + 3)) else (W64 (x2 + 1))) false) (TPoint.mk x1 0))).X), .i ((Fref05Add x0 (Fref05Apply (TMotion.mk (TPoint.mk 0 0) (bif decide ((x3 : Int) = 3) then (W64 (x2 + 3)) else (W64 (x2 + 1))) false) (TPoint.mk x1 0))).Y), .i x0.X, .i x0.Y] 26)]⟩ (.cons (okref05Add x0 (Fref05Apply (TMotion.mk (TPoint.mk 0 0) x2 false) (TPoint.mk x1 0))) (.cons (okref05Add x0 (Fref05Apply (TMotion.mk (TPoint.mk 0 0) (bif decide ((x3 : Int) = 3) then (W64 (x2 + 3)) else (W64 (x2 + 1))) false) (TPoint.mk x1 0))) .nil)) (by kernel_rfl) (by kernel_rfl) (.cons rfl (.cons rfl .nil)) ?_
  refine ath_n ?_
  refine aw_ret ?_
  exact ⟨.inl rfl, .av (.agg [.i x3, .i ((Fref05Add x0 (Fref05Apply (TMotion.mk (TPoint.mk 0 0) x2 false) (TPoint.mk x1 0))).X), .i ((Fref05Add x0 (Fref05Apply (TMotion.mk (TPoint.mk 0 0) x2 false) (TPoint.mk x1 0))).Y), .i ((Fref05Add x0 (Fref05Apply (TMotion.mk (TPoint.mk 0 0) (bif decide ((x3 : Int) = 3) then (W64 (x2 + 3)) else (W64 (x2 + 1))) false) (TPoint.mk x1 0))).X), .i ((Fref05Add x0 (Fref05Apply (TMotion.mk (TPoint.mk 0 0) (bif decide ((x3 : Int) = 3) then (W64 (x2 + 3)) else (W64 (x2 + 1))) false) (TPoint.mk x1 0))).Y), .i x0.X, .i x0.Y]), by kernel_rfl, (by rfl)⟩
theorem okref06Arc (x0 : TPoint) (x1 : Int) (x2 : Int) (x3 : Int) : CallOk Try.prog (cref06Arc x0 x1 x2 x3).1 (cref06Arc x0 x1 x2 x3).2.1 (cref06Arc x0 x1 x2 x3).2.2 := callOk_pure (fun _ _ => by kernel_rfl) fun _ => pref06Arc x0 x1 x2 x3 
def FMod (n : Int) (m : Int) : Int := Int.tmod (W64 ((Int.tmod n m) + m)) m
def cMod (n : Int) (m : Int) : FuncId × List Av × Ef := (13, [.one (.i n), .one (.i m)], .val [] (.av (.one (.i (FMod n m)))))
set_option maxRecDepth 100000 in
theorem pMod (n : Int) (m : Int) (hm : m ≠ 0) : Pure Try.prog 13 (cMod n m).2.1 (.av (.one (.i (FMod n m)))) := by
  refine pure_of_aw Try.func13 rfl (by kernel_rfl) (by kernel_rfl) fun W0 M0 => ?_
  refine aw_seq ?_
  refine aw_region eqok [] [0, 1] [] [] ⟨[(0, .av (.one (.i n))), (1, .av (.one (.i m)))], []⟩ .nil (by kernel_rfl) .nil ?_
  refine ath_n ?_
  refine aw_seq ?_
  refine aw_region eqok [] [4] [] [(m : Int) ≠ 0, (m : Int) ≠ 0] ⟨[(4, .av (.one (.i (Int.tmod (W64 ((Int.tmod n m) + m)) m))))], []⟩ .nil (by kernel_rfl) (.cons (by first | assumption | decide | omega) (.cons (by first | assumption | decide | omega) .nil)) ?_
  refine ath_n ?_
  refine aw_ret ?_
  exact ⟨.inl rfl, .av (.one (.i (Int.tmod (W64 ((Int.tmod n m) + m)) m))), by kernel_rfl, (by rfl)⟩
theorem okMod (n : Int) (m : Int) (hm : m ≠ 0) : CallOk Try.prog (cMod n m).1 (cMod n m).2.1 (cMod n m).2.2 := callOk_pure (fun _ _ => by kernel_rfl) fun _ => pMod n m hm
def DrawOk (d : TDraw) : Prop := 0 ≤ d.At ∧ d.At ≤ d.L.length ∧ (d.L.length : Int) ≤ 9223372036854775807
def FNext (d : TDraw) (n : Int) : (Int × TDraw) := bif decide ((((d.L.length : Int)) : Int) ≤ d.At) then ((0, d)) else ((FMod (d.L.getD ((W64 ((W64 (d.At + 1)) - 1)).toNat) default) n, TDraw.mk d.L (W64 (d.At + 1))))
def cNext (id : Nat) (d : TDraw) (n : Int) : FuncId × List Av × Ef := (33, ([.one (.ptr 1000 0), .one (.i n)] : List Av).map (renA 1000 id), wrI id (.cells [lst 1 (fun x => [.i x]) d.L, .i d.At] 49) (.av (.one (.i ((FNext d n).1)))) (.cells [lst 1 (fun x => [.i x]) (((FNext d n).2).L), .i (((FNext d n).2).At)] 49))
set_option maxRecDepth 100000 in
theorem pNext (d : TDraw) (n : Int) (hd : DrawOk d) (hn : n ≠ 0) : Wr Try.prog 33 1000 [.one (.ptr 1000 0), .one (.i n)] (.cells [lst 1 (fun x => [.i x]) d.L, .i d.At] 49) (.av (.one (.i ((FNext d n).1)))) (.cells [lst 1 (fun x => [.i x]) (((FNext d n).2).L), .i (((FNext d n).2).At)] 49) := by
  refine wr_of_aw Try.func33 rfl (by kernel_rfl) (by kernel_rfl) (by kernel_rfl) (by kernel_rfl) fun W0 M0 X => ?_
  obtain ⟨a1, a2, a3⟩ := hd
  refine aw_seq ?_
  refine aw_region eqok [] [0, 1] [1000] [] ⟨[(0, .av (.one (.ptr 1000 0))), (1, .av (.one (.i n)))], [(1000, .cells [lst 1 (fun x => [.i x]) d.L, .i d.At] 49)]⟩ .nil (by kernel_rfl) .nil ?_
  refine ath_n ?_
  refine aw_seq ?_
  refine aw_seq ?_
  refine aw_draw mixed eqok [] [0, 1, 14] [1000] [] ⟨[(0, .av (.one (.ptr 1000 0))), (1, .av (.one (.i n))), (14, .av (.one (.b (decide ((((d.L.length : Int)) : Int) ≤ d.At)))))], [(1000, .cells [lst 1 (fun x => [.i x]) d.L, .i d.At] 49)]⟩ .nil (by kernel_rfl) (by kernel_rfl) .nil ?_
  refine ath_n ?_
  refine aw_cond (decide ((((d.L.length : Int)) : Int) ≤ d.At)) (by kernel_rfl) (fun h1 => ?_) (fun h1 => ?_)
  · have g1 := of_decide_eq_true h1
    refine aw_seq ?_
    refine aw_region eqok [] [4] [1000] [] ⟨[(4, .av (.one (.i 0)))], [(1000, .cells [lst 1 (fun x => [.i x]) d.L, .i d.At] 49)]⟩ .nil (by kernel_rfl) .nil ?_
    refine ath_n ?_
    refine aw_ret ?_
    refine ath_r ?_
    exact ⟨.inl rfl, .av (.one (.i 0)), by kernel_rfl, ⟨(by first | (simp only [FNext, h1, cond_true, cond_false]; done) | (simp only [FNext, h1, cond_true, cond_false]; rfl)), (by first | (simp only [FNext, h1, cond_true, cond_false]; done) | (simp only [FNext, h1, cond_true, cond_false]; kernel_rfl))⟩⟩
  · have g1 := of_decide_eq_false h1
    refine aw_skip ?_
    refine ath_n ?_
    refine aw_seq ?_
    refine aw_region eqok [] [0, 1] [1000] [] ⟨[(0, .av (.one (.ptr 1000 0))), (1, .av (.one (.i n)))], [(1000, .cells [lst 1 (fun x => [.i x]) d.L, .i (W64 (d.At + 1))] 49)]⟩ .nil (by kernel_rfl) .nil ?_
    refine ath_n ?_
    refine aw_seq ?_
    refine aw_draw mixed eqok [(34, cMod (d.L.getD ((W64 ((W64 (d.At + 1)) - 1)).toNat) default) n)] [4] [1000] [0 ≤ (W64 ((W64 (d.At + 1)) - 1) : Int) ∧ (W64 ((W64 (d.At + 1)) - 1) : Int) < ((d.L.length : Nat) : Int), Same (cMod (d.L.getD ((W64 ((W64 (d.At + 1)) - 1)).toNat) default) n).2.1] ⟨[(4, .av (.one (.i (FMod (d.L.getD ((W64 ((W64 (d.At + 1)) - 1)).toNat) default) n))))], [(1000, .cells [lst 1 (fun x => [.i x]) d.L, .i (W64 (d.At + 1))] 49)]⟩ (.cons (okMod (d.L.getD ((W64 ((W64 (d.At + 1)) - 1)).toNat) default) n (by first | assumption | decide | omega)) .nil) (by kernel_rfl) (by kernel_rfl) (.cons (by first | decide | omega | (simp only [W64_def]; omega) | (constructor <;> omega)) (.cons rfl .nil)) ?_
    refine ath_n ?_
    refine aw_ret ?_
    exact ⟨.inl rfl, .av (.one (.i (FMod (d.L.getD ((W64 ((W64 (d.At + 1)) - 1)).toNat) default) n))), by kernel_rfl, ⟨(by first | (simp only [FNext, h1, cond_true, cond_false]; done) | (simp only [FNext, h1, cond_true, cond_false]; rfl)), (by first | (simp only [FNext, h1, cond_true, cond_false]; done) | (simp only [FNext, h1, cond_true, cond_false]; kernel_rfl))⟩⟩
theorem okNext (id : Nat) (d : TDraw) (n : Int) (hd : DrawOk d) (hn : n ≠ 0) : CallOk Try.prog (cNext id d n).1 (cNext id d n).2.1 (cNext id d n).2.2 := callOk_wr (fun _ _ => by kernel_rfl) (by kernel_rfl) (by kernel_rfl) (pNext d n hd hn)
theorem draw_new {l : List Int} (h : (l.length : Int) ≤ 9223372036854775807) : DrawOk (TDraw.mk l 0) := ⟨Int.le_refl _, by show (0 : Int) ≤ (l.length : Int); omega, h⟩
theorem next_ok {d : TDraw} {n : Int} (h : DrawOk d) : DrawOk (FNext d n).2 := by
  obtain ⟨h1, h2, h3⟩ := h
  unfold FNext
  by_cases hc : (d.L.length : Int) ≤ d.At
  · simp only [hc, decide_true, cond_true]; exact ⟨h1, h2, h3⟩
  · simp only [hc, decide_false, cond_false]
    rw [W64_id (by omega) (by omega)]
    exact ⟨by show 0 ≤ d.At + 1; omega, by show d.At + 1 ≤ (d.L.length : Int); omega, h3⟩
theorem mod_b (n m : Int) (h0 : 0 < m) (h1 : m ≤ 4611686018427387904) : 0 ≤ FMod n m ∧ FMod n m < m := by
  have e : FMod n m = n % m := by
    unfold FMod W64
    rcases Int.lt_or_le n 0 with h | h
    · have b1 := Int.emod_nonneg (-n) (show m ≠ 0 by omega)
      have b2 := Int.emod_lt_of_pos (-n) h0
      rw [show n.tmod m = -((-n) % m) by rw [← Int.tmod_eq_emod_of_nonneg (by omega), Int.neg_tmod, Int.neg_neg]]
      rw [IntKind.wrap_i64]
      rw [show (-((-n) % m) + m + 9223372036854775808) % 18446744073709551616 - 9223372036854775808 = -((-n) % m) + m by omega]
      rw [Int.tmod_eq_emod_of_nonneg (by omega)]
      have e1 := Int.emod_add_mul_ediv (-n) m
      have e2 : -((-n) % m) + m = n + m * ((-n) / m + 1) := by grind
      rw [e2, Int.add_mul_emod_self_left]
    · have b1 := Int.emod_nonneg n (show m ≠ 0 by omega)
      have b2 := Int.emod_lt_of_pos n h0
      rw [Int.tmod_eq_emod_of_nonneg h, IntKind.wrap_i64]
      rw [show (n % m + m + 9223372036854775808) % 18446744073709551616 - 9223372036854775808 = n % m + m by omega]
      rw [Int.tmod_eq_emod_of_nonneg (by omega), Int.add_emod_right, Int.emod_emod_of_dvd _ (Int.dvd_refl m)]
  rw [e]
  exact ⟨Int.emod_nonneg n (by omega), Int.emod_lt_of_pos n h0⟩
theorem next_b (d : TDraw) (n : Int) (h0 : 0 < n) (h1 : n ≤ 4611686018427387904) : 0 ≤ (FNext d n).1 ∧ (FNext d n).1 < n := by
  unfold FNext
  by_cases hc : (d.L.length : Int) ≤ d.At
  · simp only [hc, decide_true, cond_true]; omega
  · simp only [hc, decide_false, cond_false]
    exact mod_b _ n h0 h1
theorem in_next (d : TDraw) (n k : Int) (h0 : 0 < n) (h1 : n ≤ 4611686018427387904) (h2 : n ≤ k) : 0 ≤ (FNext d n).1 ∧ (FNext d n).1 < k := ⟨(next_b d n h0 h1).1, by have := (next_b d n h0 h1).2; omega⟩
theorem getD_nz {l : List Int} (h : ∀ x ∈ l, x ≠ 0) {k : Int} (hk : 0 ≤ k ∧ k < l.length) : l.getD k.toNat 0 ≠ 0 := by
  have hlt : k.toNat < l.length := by omega
  rw [List.getD_eq_getElem?_getD, List.getElem?_eq_getElem hlt]
  exact h _ (List.getElem_mem _)
def FNear (d : TDraw) (width : Int) : (TPoint × TDraw) := (TPoint.mk (W64 (((FNext d (W64 ((W64 (2 * width)) + 1))).1) - width)) (W64 (((FNext ((FNext d (W64 ((W64 (2 * width)) + 1))).2) (W64 ((W64 (2 * width)) + 1))).1) - width)), (FNext ((FNext d (W64 ((W64 (2 * width)) + 1))).2) (W64 ((W64 (2 * width)) + 1))).2)
def cNear (id : Nat) (d : TDraw) (width : Int) : FuncId × List Av × Ef := (25, ([.one (.ptr 1000 0), .one (.i width)] : List Av).map (renA 1000 id), wrI id (.cells [lst 1 (fun x => [.i x]) d.L, .i d.At] 49) (.av (.agg [.i (((FNear d width).1).X), .i (((FNear d width).1).Y)])) (.cells [lst 1 (fun x => [.i x]) (((FNear d width).2).L), .i (((FNear d width).2).At)] 49))
set_option maxRecDepth 100000 in
theorem pNear (d : TDraw) (width : Int) (hd : DrawOk d) (hw : 0 ≤ width ∧ width ≤ 1000000) : Wr Try.prog 25 1000 [.one (.ptr 1000 0), .one (.i width)] (.cells [lst 1 (fun x => [.i x]) d.L, .i d.At] 49) (.av (.agg [.i (((FNear d width).1).X), .i (((FNear d width).1).Y)])) (.cells [lst 1 (fun x => [.i x]) (((FNear d width).2).L), .i (((FNear d width).2).At)] 49) := by
  refine wr_of_aw Try.func25 rfl (by kernel_rfl) (by kernel_rfl) (by kernel_rfl) (by kernel_rfl) fun W0 M0 X => ?_
  refine aw_seq ?_
  refine aw_region eqok [] [0, 1, 4] [4, 1000] [] ⟨[(0, .av (.one (.ptr 1000 0))), (1, .av (.one (.i width))), (4, .av (.one (.ptr 4 0)))], [(4, .cells [.i 0, .i 0] 24), (1000, .cells [lst 1 (fun x => [.i x]) d.L, .i d.At] 49)]⟩ .nil (by kernel_rfl) .nil ?_
  refine ath_n ?_
  refine aw_seq ?_
  refine aw_region eqok [(10, cNext 1000 d (W64 ((W64 (2 * width)) + 1)))] [0, 1, 4, 5] [4, 1000] [Same (cNext 1000 d (W64 ((W64 (2 * width)) + 1))).2.1, SameB (.cells [lst 1 (fun x => [.i x]) d.L, .i d.At] 49)] ⟨[(0, .av (.one (.ptr 1000 0))), (1, .av (.one (.i width))), (4, .av (.one (.ptr 4 0))), (5, .av (.one (.i (W64 (((FNext d (W64 ((W64 (2 * width)) + 1))).1) - width)))))], [(4, .cells [.i 0, .i 0] 24), (1000, .cells [lst 1 (fun x => [.i x]) (((FNext d (W64 ((W64 (2 * width)) + 1))).2).L), .i (((FNext d (W64 ((W64 (2 * width)) + 1))).2).At)] 49)]⟩ (.cons (okNext 1000 d (W64 ((W64 (2 * width)) + 1)) (by repeat (first | assumption | exact draw_new (by assumption) | refine next_ok ?_ | refine near_ok ?_)) (by first | decide | omega | (simp only [W64_def]; omega))) .nil) (by kernel_rfl) (.cons rfl (.cons rfl .nil)) ?_
  refine ath_n ?_
  refine aw_seq ?_
  refine aw_region eqok [(18, cNext 1000 ((FNext d (W64 ((W64 (2 * width)) + 1))).2) (W64 ((W64 (2 * width)) + 1)))] [4] [4, 1000] [Same (cNext 1000 ((FNext d (W64 ((W64 (2 * width)) + 1))).2) (W64 ((W64 (2 * width)) + 1))).2.1, SameB (.cells [lst 1 (fun x => [.i x]) (((FNext d (W64 ((W64 (2 * width)) + 1))).2).L), .i (((FNext d (W64 ((W64 (2 * width)) + 1))).2).At)] 49)] ⟨[(4, .av (.one (.ptr 4 0)))], [(4, .cells [.i (W64 (((FNext d (W64 ((W64 (2 * width)) + 1))).1) - width)), .i (W64 (((FNext ((FNext d (W64 ((W64 (2 * width)) + 1))).2) (W64 ((W64 (2 * width)) + 1))).1) - width))] 24), (1000, .cells [lst 1 (fun x => [.i x]) (((FNext ((FNext d (W64 ((W64 (2 * width)) + 1))).2) (W64 ((W64 (2 * width)) + 1))).2).L), .i (((FNext ((FNext d (W64 ((W64 (2 * width)) + 1))).2) (W64 ((W64 (2 * width)) + 1))).2).At)] 49)]⟩ (.cons (okNext 1000 ((FNext d (W64 ((W64 (2 * width)) + 1))).2) (W64 ((W64 (2 * width)) + 1)) (by repeat (first | assumption | exact draw_new (by assumption) | refine next_ok ?_ | refine near_ok ?_)) (by first | decide | omega | (simp only [W64_def]; omega))) .nil) (by kernel_rfl) (.cons rfl (.cons rfl .nil)) ?_
  refine ath_n ?_
  refine aw_ret ?_
  exact ⟨.inl rfl, .av (.agg [.i (W64 (((FNext d (W64 ((W64 (2 * width)) + 1))).1) - width)), .i (W64 (((FNext ((FNext d (W64 ((W64 (2 * width)) + 1))).2) (W64 ((W64 (2 * width)) + 1))).1) - width))]), by kernel_rfl, ⟨(by rfl), (by kernel_rfl)⟩⟩
theorem okNear (id : Nat) (d : TDraw) (width : Int) (hd : DrawOk d) (hw : 0 ≤ width ∧ width ≤ 1000000) : CallOk Try.prog (cNear id d width).1 (cNear id d width).2.1 (cNear id d width).2.2 := callOk_wr (fun _ _ => by kernel_rfl) (by kernel_rfl) (by kernel_rfl) (pNear d width hd hw)
theorem near_ok {d : TDraw} {n : Int} (h : DrawOk d) : DrawOk (FNear d n).2 := next_ok (next_ok h)
theorem near_b (d : TDraw) (n : Int) (h0 : 0 ≤ n) (h1 : n ≤ 1000000) : (-n ≤ (FNear d n).1.X ∧ (FNear d n).1.X ≤ n) ∧ (-n ≤ (FNear d n).1.Y ∧ (FNear d n).1.Y ≤ n) := by
  have e : W64 (W64 (2 * n) + 1) = 2 * n + 1 := by simp only [W64_def]; omega
  unfold FNear
  simp only [e]
  have b1 := next_b d (2 * n + 1) (by omega) (by omega)
  have b2 := next_b (FNext d (2 * n + 1)).2 (2 * n + 1) (by omega) (by omega)
  simp only [W64_def]
  omega
end Go.Proofs.Ytmhhigaelofbmaa
