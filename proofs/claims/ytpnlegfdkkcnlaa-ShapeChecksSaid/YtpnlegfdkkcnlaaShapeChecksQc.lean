/-
  No statement is proved in this text. It holds a part of what the proof of ShapeChecks needs.
-/
import Derived.Test.YtpnlegfdkkcnlaaShapeChecksQb
namespace Go.Proofs.Ytpnlegfdkkcnlaa
set_option maxRecDepth 100000
open Go.RowKit
set_option linter.unusedVariables false
set_option linter.unusedSimpArgs false
theorem mixed : Try.prog.follows .mixedOrders = true := by kernel_rfl
structure TPoint where
 X : Int
 Y : Int
 deriving Inhabited
def TPoint.c (x : TPoint) : List Cl := [.i x.X, .i x.Y]
structure TMotion where
 At : TPoint
 Turn : Int
 Mirror : Bool
 deriving Inhabited
def TMotion.c (x : TMotion) : List Cl := [.i x.At.X, .i x.At.Y, .i x.Turn, .b x.Mirror]
structure TEdge where
 Kind : Int
 A : TPoint
 B : TPoint
 C : TPoint
 deriving Inhabited
def TEdge.c (x : TEdge) : List Cl := [.i x.Kind, .i x.A.X, .i x.A.Y, .i x.B.X, .i x.B.Y, .i x.C.X, .i x.C.Y]
structure TRect where
 X0 : Int
 Y0 : Int
 X1 : Int
 Y1 : Int
 deriving Inhabited
def TRect.c (x : TRect) : List Cl := [.i x.X0, .i x.Y0, .i x.X1, .i x.Y1]
structure TDraw where
 L : (List Int)
 At : Int
 deriving Inhabited
def TDraw.c (x : TDraw) : List Cl := [lst 1 (fun x => [.i x]) x.L, .i x.At]
structure TA102 where
 e0 : Int
 e1 : Int
 deriving Inhabited
def TA102.c (x : TA102) : List Cl := [.i x.e0, .i x.e1]
structure TShape where
 Kind : Int
 Edges : (List TEdge)
 R : Int
 deriving Inhabited
def TShape.c (x : TShape) : List Cl := [.i x.Kind, lst 7 TEdge.c x.Edges, .i x.R]
structure TWide where
 e0 : Int
 e1 : Int
 deriving Inhabited
def TWide.c (x : TWide) : List Cl := [.val (.int .u64 x.e0), .val (.int .u64 x.e1)]
structure TNum where
 Neg : Bool
 D : (List Int)
 deriving Inhabited
abbrev cU (x : Int) : List Cl := [.val (.int .u32 x)]
def TNum.c (x : TNum) : List Cl := [.b x.Neg, lst 1 cU x.D]
structure TA41 where
 e0 : Int
 e1 : Int
 e2 : Int
 deriving Inhabited
def TA41.c (x : TA41) : List Cl := [.i x.e0, .i x.e1, .i x.e2]
structure TA59 where
 e0 : Int
 e1 : Int
 deriving Inhabited
def TA59.c (x : TA59) : List Cl := [.val (.int .u8 x.e0), .val (.int .u8 x.e1)]
structure TOdd where
 Which : Int
 N : Int
 deriving Inhabited
def TOdd.c (x : TOdd) : List Cl := [.val (.int .u8 x.Which), .i x.N]
def eqE : TypeId → Option (List Kd) := fun T => get [(29, [.int .i64, .int .i64]), (35, [.int .i64, .int .i64, .int .i64, .int .i64, .int .i64, .int .i64, .int .i64]), (54, [.int .i64, .int .i64, .int .i64, .int .i64]), (109, [.int .u64, .int .u64])] T
theorem eqok : EqOk Try.prog ⟨fun _ => none, eqE, fun _ => false, fun _ => none⟩ := by
 intro T ks h
 have hm : (T, ks) ∈ _ := get_mem h
 simp only [List.mem_cons, Prod.mk.injEq, List.not_mem_nil, or_false] at hm
 rcases hm with ⟨rfl, rfl⟩ | ⟨rfl, rfl⟩ | ⟨rfl, rfl⟩ | ⟨rfl, rfl⟩
 all_goals exact ⟨by kernel_rfl, by kernel_rfl, _, rfl, rfl⟩
def FvecRight (x0 : TPoint) : Bool := bif decide (((max x0.X x0.Y) : Int) ≤ 67108864) then decide ((((-67108864)) : Int) ≤ (min x0.X x0.Y)) else false
def cvecRight (x0 : TPoint) : FuncId × List Av × Ef := (83, [.agg (TPoint.c x0)], .val [] (.av (.one (.b (FvecRight x0)))))
theorem pvecRight (x0 : TPoint) : Pure Try.prog 83 (cvecRight x0).2.1 (.av (.one (.b (FvecRight x0)))) := by
 refine pure_of_awF Try.func83 rfl (by kernel_rfl) (by kernel_rfl) fun W0 M0 => ?_
 refine aw_seq ?_
 refine aw_region eqok [] [] [] [1] [1] [] ⟨[(1, tP 1 0)], [(1, .cells (TPoint.c x0) 29)]⟩ .nil (by kernel_rfl) .nil <| ath_n <| aw_seq ?_
 refine aw_region eqok [] [] [] [2] [] [((decide (((max x0.X x0.Y) : Int) ≤ 67108864)) = true) → ((decide (((max x0.X x0.Y) : Int) ≤ 67108864)) = true), ((decide (((max x0.X x0.Y) : Int) ≤ 67108864)) = true) → ((decide (((max x0.X x0.Y) : Int) ≤ 67108864)) = true), ((decide (((max x0.X x0.Y) : Int) ≤ 67108864)) = true) → ((decide (((max x0.X x0.Y) : Int) ≤ 67108864)) = true), ((decide (((max x0.X x0.Y) : Int) ≤ 67108864)) = true) → ((decide (((max x0.X x0.Y) : Int) ≤ 67108864)) = true), ((decide (((max x0.X x0.Y) : Int) ≤ 67108864)) = true) → ((decide (((max x0.X x0.Y) : Int) ≤ 67108864)) = true), (decide (((max x0.X x0.Y) : Int) ≤ 67108864)) = true → ((decide (((max x0.X x0.Y) : Int) ≤ 67108864)) = true)] ⟨[(2, tB (bif decide (((max x0.X x0.Y) : Int) ≤ 67108864) then decide ((((-67108864)) : Int) ≤ (min x0.X x0.Y)) else false))], []⟩ .nil (by kernel_rfl) (.cons id (.cons id (.cons id (.cons id (.cons id (.cons id .nil)))))) <| ath_n <| aw_ret ?_
 exact ⟨_, Cv.refl _, .inl rfl, .av (.one (.b (bif decide (((max x0.X x0.Y) : Int) ≤ 67108864) then decide ((((-67108864)) : Int) ≤ (min x0.X x0.Y)) else false))), by kernel_rfl, tve_eq (by rfl)⟩
theorem okvecRight (x0 : TPoint) : CallOk Try.prog (cvecRight x0).1 (cvecRight x0).2.1 (cvecRight x0).2.2 := callOk_pure (fun _ _ => by kernel_rfl) fun _ => pvecRight x0
def FvecSub (x0 : TPoint) (x1 : TPoint) : TPoint := TPoint.mk (W64 (x0.X - x1.X)) (W64 (x0.Y - x1.Y))
def cvecSub (x0 : TPoint) (x1 : TPoint) : FuncId × List Av × Ef := (71, [.agg (TPoint.c x0), .agg (TPoint.c x1)], .val [] (.av (.agg (TPoint.c (FvecSub x0 x1)))))
theorem pvecSub (x0 : TPoint) (x1 : TPoint) : Pure Try.prog 71 (cvecSub x0 x1).2.1 (.av (.agg (TPoint.c (FvecSub x0 x1)))) := by
 refine pure_of_awF Try.func71 rfl (by kernel_rfl) (by kernel_rfl) fun W0 M0 => ?_
 refine aw_seq ?_
 refine aw_region eqok [] [] [] [2, 3, 4] [2, 3, 4] [] ⟨[(2, tP 2 0), (3, tP 3 0), (4, tP 4 0)], [(2, .cells (TPoint.c x0) 29), (3, .cells (TPoint.c x1) 29), (4, .cells [.i 0, .i 0] 29)]⟩ .nil (by kernel_rfl) .nil <| ath_n <| aw_seq ?_
 refine aw_region eqok [] [] [] [4] [4] [] ⟨[(4, tP 4 0)], [(4, .cells [.i (W64 (x0.X - x1.X)), .i (W64 (x0.Y - x1.Y))] 29)]⟩ .nil (by kernel_rfl) .nil <| ath_n <| aw_ret ?_
 exact ⟨_, Cv.refl _, .inl rfl, .av (.agg [.i (W64 (x0.X - x1.X)), .i (W64 (x0.Y - x1.Y))]), by kernel_rfl, tve_eq (by rfl)⟩
theorem okvecSub (x0 : TPoint) (x1 : TPoint) : CallOk Try.prog (cvecSub x0 x1).1 (cvecSub x0 x1).2.1 (cvecSub x0 x1).2.2 := callOk_pure (fun _ _ => by kernel_rfl) fun _ => pvecSub x0 x1
def FvecAdd (x0 : TPoint) (x1 : TPoint) : TPoint := TPoint.mk (W64 (x0.X + x1.X)) (W64 (x0.Y + x1.Y))
def cvecAdd (x0 : TPoint) (x1 : TPoint) : FuncId × List Av × Ef := (106, [.agg (TPoint.c x0), .agg (TPoint.c x1)], .val [] (.av (.agg (TPoint.c (FvecAdd x0 x1)))))
theorem pvecAdd (x0 : TPoint) (x1 : TPoint) : Pure Try.prog 106 (cvecAdd x0 x1).2.1 (.av (.agg (TPoint.c (FvecAdd x0 x1)))) := by
 refine pure_of_awF Try.func106 rfl (by kernel_rfl) (by kernel_rfl) fun W0 M0 => ?_
 refine aw_seq ?_
 refine aw_region eqok [] [] [] [2, 3, 4] [2, 3, 4] [] ⟨[(2, tP 2 0), (3, tP 3 0), (4, tP 4 0)], [(2, .cells (TPoint.c x0) 29), (3, .cells (TPoint.c x1) 29), (4, .cells [.i 0, .i 0] 29)]⟩ .nil (by kernel_rfl) .nil <| ath_n <| aw_seq ?_
 refine aw_region eqok [] [] [] [4] [4] [] ⟨[(4, tP 4 0)], [(4, .cells [.i (W64 (x0.X + x1.X)), .i (W64 (x0.Y + x1.Y))] 29)]⟩ .nil (by kernel_rfl) .nil <| ath_n <| aw_ret ?_
 exact ⟨_, Cv.refl _, .inl rfl, .av (.agg [.i (W64 (x0.X + x1.X)), .i (W64 (x0.Y + x1.Y))]), by kernel_rfl, tve_eq (by rfl)⟩
theorem okvecAdd (x0 : TPoint) (x1 : TPoint) : CallOk Try.prog (cvecAdd x0 x1).1 (cvecAdd x0 x1).2.1 (cvecAdd x0 x1).2.2 := callOk_pure (fun _ _ => by kernel_rfl) fun _ => pvecAdd x0 x1
def FvecDot (x0 : TPoint) (x1 : TPoint) : Int := W64 ((W64 (x0.X * x1.X)) + (W64 (x0.Y * x1.Y)))
def cvecDot (x0 : TPoint) (x1 : TPoint) : FuncId × List Av × Ef := (74, [.agg (TPoint.c x0), .agg (TPoint.c x1)], .val [] (.av (.one (.i (FvecDot x0 x1)))))
theorem pvecDot (x0 : TPoint) (x1 : TPoint) : Pure Try.prog 74 (cvecDot x0 x1).2.1 (.av (.one (.i (FvecDot x0 x1)))) := by
 refine pure_of_awF Try.func74 rfl (by kernel_rfl) (by kernel_rfl) fun W0 M0 => ?_
 refine aw_seq ?_
 refine aw_region eqok [] [] [] [2, 3] [2, 3] [] ⟨[(2, tP 2 0), (3, tP 3 0)], [(2, .cells (TPoint.c x0) 29), (3, .cells (TPoint.c x1) 29)]⟩ .nil (by kernel_rfl) .nil <| ath_n <| aw_seq ?_
 refine aw_region eqok [] [] [] [4] [] [] ⟨[(4, tI (W64 ((W64 (x0.X * x1.X)) + (W64 (x0.Y * x1.Y)))))], []⟩ .nil (by kernel_rfl) .nil <| ath_n <| aw_ret ?_
 exact ⟨_, Cv.refl _, .inl rfl, .av (.one (.i (W64 ((W64 (x0.X * x1.X)) + (W64 (x0.Y * x1.Y)))))), by kernel_rfl, tve_eq (by rfl)⟩
theorem okvecDot (x0 : TPoint) (x1 : TPoint) : CallOk Try.prog (cvecDot x0 x1).1 (cvecDot x0 x1).2.1 (cvecDot x0 x1).2.2 := callOk_pure (fun _ _ => by kernel_rfl) fun _ => pvecDot x0 x1
def FvecCross (x0 : TPoint) (x1 : TPoint) : Int := W64 ((W64 (x0.X * x1.Y)) - (W64 (x0.Y * x1.X)))
def cvecCross (x0 : TPoint) (x1 : TPoint) : FuncId × List Av × Ef := (75, [.agg (TPoint.c x0), .agg (TPoint.c x1)], .val [] (.av (.one (.i (FvecCross x0 x1)))))
theorem pvecCross (x0 : TPoint) (x1 : TPoint) : Pure Try.prog 75 (cvecCross x0 x1).2.1 (.av (.one (.i (FvecCross x0 x1)))) := by
 refine pure_of_awF Try.func75 rfl (by kernel_rfl) (by kernel_rfl) fun W0 M0 => ?_
 refine aw_seq ?_
 refine aw_region eqok [] [] [] [2, 3] [2, 3] [] ⟨[(2, tP 2 0), (3, tP 3 0)], [(2, .cells (TPoint.c x0) 29), (3, .cells (TPoint.c x1) 29)]⟩ .nil (by kernel_rfl) .nil <| ath_n <| aw_seq ?_
 refine aw_region eqok [] [] [] [4] [] [] ⟨[(4, tI (W64 ((W64 (x0.X * x1.Y)) - (W64 (x0.Y * x1.X)))))], []⟩ .nil (by kernel_rfl) .nil <| ath_n <| aw_ret ?_
 exact ⟨_, Cv.refl _, .inl rfl, .av (.one (.i (W64 ((W64 (x0.X * x1.Y)) - (W64 (x0.Y * x1.X)))))), by kernel_rfl, tve_eq (by rfl)⟩
theorem okvecCross (x0 : TPoint) (x1 : TPoint) : CallOk Try.prog (cvecCross x0 x1).1 (cvecCross x0 x1).2.1 (cvecCross x0 x1).2.2 := callOk_pure (fun _ _ => by kernel_rfl) fun _ => pvecCross x0 x1
def FvecSide (x0 : TPoint) (x1 : TPoint) (x2 : TPoint) : Int := bif decide ((0 : Int) < (FvecCross (FvecSub x1 x0) (FvecSub x2 x0))) then (1) else (bif decide (((FvecCross (FvecSub x1 x0) (FvecSub x2 x0)) : Int) < 0) then ((-1)) else (0))
def cvecSide (x0 : TPoint) (x1 : TPoint) (x2 : TPoint) : FuncId × List Av × Ef := (111, [.agg (TPoint.c x0), .agg (TPoint.c x1), .agg (TPoint.c x2)], .val [] (.av (.one (.i (FvecSide x0 x1 x2)))))
theorem pvecSide (x0 : TPoint) (x1 : TPoint) (x2 : TPoint) : Pure Try.prog 111 (cvecSide x0 x1 x2).2.1 (.av (.one (.i (FvecSide x0 x1 x2)))) := by
 refine pure_of_awF Try.func111 rfl (by kernel_rfl) (by kernel_rfl) fun W0 M0 => ?_
 refine aw_seq ?_
 refine aw_region eqok [] [] [] [3, 4, 5] [3, 4, 5] [] ⟨[(3, tP 3 0), (4, tP 4 0), (5, tP 5 0)], [(3, .cells (TPoint.c x0) 29), (4, .cells (TPoint.c x1) 29), (5, .cells (TPoint.c x2) 29)]⟩ .nil (by kernel_rfl) .nil <| ath_n ?_
 refine aw_seq <| aw_seq ?_
 refine aw_draw mixed eqok [] [] [(10, cvecSub x1 x0), (13, cvecSub x2 x0), (14, cvecCross (FvecSub x1 x0) (FvecSub x2 x0))] [7] [] [Same (cvecSub x1 x0).2.1, Same (cvecSub x2 x0).2.1, Same (cvecCross (FvecSub x1 x0) (FvecSub x2 x0)).2.1] ⟨[(7, tI (FvecCross (FvecSub x1 x0) (FvecSub x2 x0)))], []⟩ (.cons (okvecSub x1 x0) (.cons (okvecSub x2 x0) (.cons (okvecCross (FvecSub x1 x0) (FvecSub x2 x0)) .nil))) (by kernel_rfl) (by kernel_rfl) (.cons rfl (.cons rfl (.cons rfl .nil))) <| ath_n ?_
 refine aw_block <| aw_seq ?_
 refine aw_region eqok [] [] [] [7, 15] [] [] ⟨[(7, tI (FvecCross (FvecSub x1 x0) (FvecSub x2 x0))), (15, tB (decide ((0 : Int) < (FvecCross (FvecSub x1 x0) (FvecSub x2 x0)))))], []⟩ .nil (by kernel_rfl) .nil <| ath_n ?_
 refine aw_cond (decide ((0 : Int) < (FvecCross (FvecSub x1 x0) (FvecSub x2 x0)))) (by kernel_rfl) (fun h1 => ?_) (fun h1 => ?_)
 ·have g1 := of_decide_eq_true h1
  refine aw_seq ?_
  refine aw_region eqok [] [] [] [6] [] [] ⟨[(6, tI 1)], []⟩ .nil (by kernel_rfl) .nil <| ath_n ?_
  refine aw_ret <| abl_r <| ath_r ?_
  exact ⟨_, Cv.refl _, .inl rfl, .av (.one (.i 1)), by kernel_rfl, tve_eq (by first | (simp only [FvecSide, h1, cond_true, cond_false]; done) | (simp only [FvecSide, h1, cond_true, cond_false]; rfl))⟩
 ·have g1 := of_decide_eq_false h1
  refine aw_seq ?_
  refine aw_region eqok [] [] [] [18] [] [] ⟨[(18, tB (decide (((FvecCross (FvecSub x1 x0) (FvecSub x2 x0)) : Int) < 0)))], []⟩ .nil (by kernel_rfl) .nil <| ath_n ?_
  refine aw_cond (decide (((FvecCross (FvecSub x1 x0) (FvecSub x2 x0)) : Int) < 0)) (by kernel_rfl) (fun h2 => ?_) (fun h2 => ?_)
  ·have g2 := of_decide_eq_true h2
   refine aw_seq ?_
   refine aw_region eqok [] [] [] [6] [] [] ⟨[(6, tI ((-1)))], []⟩ .nil (by kernel_rfl) .nil <| ath_n ?_
   refine aw_ret <| abl_r <| ath_r ?_
   exact ⟨_, Cv.refl _, .inl rfl, .av (.one (.i ((-1)))), by kernel_rfl, tve_eq (by first | (simp only [FvecSide, h1, h2, cond_true, cond_false]; done) | (simp only [FvecSide, h1, h2, cond_true, cond_false]; rfl))⟩
  ·have g2 := of_decide_eq_false h2
   refine aw_skip <| abl_n ?_
   refine ath_n <| aw_seq ?_
   refine aw_region eqok [] [] [] [6] [] [] ⟨[(6, tI 0)], []⟩ .nil (by kernel_rfl) .nil <| ath_n <| aw_ret ?_
   exact ⟨_, Cv.refl _, .inl rfl, .av (.one (.i 0)), by kernel_rfl, tve_eq (by first | (simp only [FvecSide, h1, h2, cond_true, cond_false]; done) | (simp only [FvecSide, h1, h2, cond_true, cond_false]; rfl))⟩
theorem okvecSide (x0 : TPoint) (x1 : TPoint) (x2 : TPoint) : CallOk Try.prog (cvecSide x0 x1 x2).1 (cvecSide x0 x1 x2).2.1 (cvecSide x0 x1 x2).2.2 := callOk_pure (fun _ _ => by kernel_rfl) fun _ => pvecSide x0 x1 x2
def FvecTurns (m : TMotion) : Int := A64 m.Turn 3
def cvecTurns (m : TMotion) : FuncId × List Av × Ef := (105, [.agg (TMotion.c m)], .val [] (.av (.one (.i (FvecTurns m)))))
theorem pvecTurns (m : TMotion) : Pure Try.prog 105 (cvecTurns m).2.1 (.av (.one (.i (FvecTurns m)))) := by
 refine pure_of_awF Try.func105 rfl (by kernel_rfl) (by kernel_rfl) fun W0 M0 => ?_
 refine aw_seq ?_
 refine aw_region eqok [] [] [] [1] [1] [] ⟨[(1, tP 1 0)], [(1, .cells (TMotion.c m) 39)]⟩ .nil (by kernel_rfl) .nil <| ath_n <| aw_seq ?_
 refine aw_region eqok [] [] [] [2] [] [] ⟨[(2, tI (A64 m.Turn 3))], []⟩ .nil (by kernel_rfl) .nil <| ath_n <| aw_ret ?_
 exact ⟨_, Cv.refl _, .inl rfl, .av (.one (.i (A64 m.Turn 3))), by kernel_rfl, tve_eq (by rfl)⟩
theorem okvecTurns (m : TMotion) : CallOk Try.prog (cvecTurns m).1 (cvecTurns m).2.1 (cvecTurns m).2.2 := callOk_pure (fun _ _ => by kernel_rfl) fun _ => pvecTurns m
theorem A64_3 (t : Int) : 0 ≤ A64 t 3 ∧ A64 t 3 ≤ 3 := by
 unfold A64
 rw [IntKind.wrap_i64]
 have h : ((BitVec.ofInt 64 t &&& BitVec.ofInt 64 3).toNat) ≤ 3 := by
  rw [BitVec.toNat_and]
  exact Nat.le_trans Nat.and_le_right (by decide)
 generalize (BitVec.ofInt 64 t &&& BitVec.ofInt 64 3).toNat = n at *
 omega
theorem turns_b (m : TMotion) : 0 ≤ FvecTurns m ∧ FvecTurns m ≤ 3 := A64_3 m.Turn
def FvecApply_l0 (m : TMotion) (p : TPoint) : Nat → TPoint → Int → TPoint
 | 0, _, _ => default
 | n0 + 1, p', v13 => bif decide ((v13 : Int) < (FvecTurns m)) then ((FvecApply_l0 m p n0) (TPoint.mk (W64 (0 - p'.Y)) p'.X) (v13 + 1)) else (FvecAdd p' m.At)
def FvecApply (m : TMotion) (p : TPoint) : TPoint := FvecApply_l0 m p ((((FvecTurns m)) - 0).toNat + 1) (TPoint.mk (bif m.Mirror then (W64 (0 - p.X)) else p.X) p.Y) 0
def cvecApply (m : TMotion) (p : TPoint) : FuncId × List Av × Ef := (86, [.agg (TMotion.c m), .agg (TPoint.c p)], .val [] (.av (.agg (TPoint.c (FvecApply m p)))))
theorem at0 {p : Prop} (h : p := by simp only [List.length_append, List.length_cons, List.length_nil]; omega) : p := h
theorem at1 {p : Prop} (h : p := by simp only [List.length_set, List.length_append, List.length_cons, List.length_nil]; omega) : p := h
theorem at2 {p : Prop} (h : p := by simp only [W64_def]; omega) : p := h
theorem pvecApply (m : TMotion) (p : TPoint) : Pure Try.prog 86 (cvecApply m p).2.1 (.av (.agg (TPoint.c (FvecApply m p)))) := by
 refine pure_of_awF Try.func86 rfl (by kernel_rfl) (by kernel_rfl) fun W0 M0 => ?_
 refine aw_seq ?_
 refine aw_region eqok [] [] [] [2, 3, 4] [2, 3, 4] [] ⟨[(2, tP 2 0), (3, tP 3 0), (4, tP 4 0)], [(2, .cells (TMotion.c m) 39), (3, .cells (TPoint.c p) 29), (4, .cells [.i 0, .i 0] 29)]⟩ .nil (by kernel_rfl) .nil <| ath_n ?_
 refine aw_seq <| aw_seq ?_
 refine aw_region eqok [] [] [] [2, 3, 4, 6] [2, 3, 4] [] ⟨[(2, tP 2 0), (3, tP 3 0), (4, tP 4 0), (6, tB m.Mirror)], [(2, .cells (TMotion.c m) 39), (3, .cells (TPoint.c p) 29), (4, .cells [.i 0, .i 0] 29)]⟩ .nil (by kernel_rfl) .nil <| ath_n ?_
 refine aw_joinC (⟨[(2, tP 2 0), (3, tP 3 0), (4, tP 4 0)], [(2, .cells (TMotion.c m) 39), (3, .cells [.i (bif m.Mirror then (W64 (0 - p.X)) else p.X), .i p.Y] 29), (4, .cells [.i 0, .i 0] 29)]⟩) ?_ ?_
 ·refine aw_cond (m.Mirror) (by kernel_rfl) (fun h1 => ?_) (fun h1 => ?_)
  ·refine aw_region eqok [] [] [] [2, 3, 4] [2, 3, 4] [] ⟨[(2, tP 2 0), (3, tP 3 0), (4, tP 4 0)], [(2, .cells (TMotion.c m) 39), (3, .cells [.i (W64 (0 - p.X)), .i p.Y] 29), (4, .cells [.i 0, .i 0] 29)]⟩ .nil (by kernel_rfl) .nil <| ath_n ?_
   refine cv_eq ?_
   first | rfl | (simp only [h1, cond_true, cond_false]; done) | (simp only [h1, cond_true, cond_false]; rfl)
  ·refine aw_skip <| ath_n ?_
   refine Cv.trans (cv_keep [2, 3, 4] [2, 3, 4] (⟨[(2, tP 2 0), (3, tP 3 0), (4, tP 4 0)], [(2, .cells (TMotion.c m) 39), (3, .cells (TPoint.c p) 29), (4, .cells [.i 0, .i 0] 29)]⟩) (by kernel_rfl)) (cv_eq ?_)
   first | rfl | (simp only [h1, cond_true, cond_false]; done) | (simp only [h1, cond_true, cond_false]; rfl)
 refine aw_seq <| aw_seq ?_
 refine aw_region eqok [] [] [(12, cvecTurns m)] [2, 3, 4, 12, 13] [2, 3, 4] [Same (cvecTurns m).2.1] ⟨[(2, tP 2 0), (3, tP 3 0), (4, tP 4 0), (12, tI (FvecTurns m)), (13, tI 0)], [(2, .cells (TMotion.c m) 39), (3, .cells [.i (bif m.Mirror then (W64 (0 - p.X)) else p.X), .i p.Y] 29), (4, .cells [.i 0, .i 0] 29)]⟩ (.cons (okvecTurns m) .nil) (by kernel_rfl) (.cons rfl .nil) <| ath_n <| aw_block ?_
 refine aw_loopC (ι := Nat × TPoint × Int) (fun x => ⟨[(2, tP 2 0), (3, tP 3 0), (4, tP 4 0), (12, tI (FvecTurns m)), (13, tI x.2.2)], [(2, .cells (TMotion.c m) 39), (3, .cells (TPoint.c x.2.1) 29), (4, .cells [.i 0, .i 0] 29)]⟩) (fun x => (((FvecTurns m)) - x.2.2).toNat < x.1 ∧ (0 ≤ x.2.2 ∧ x.2.2 ≤ FvecTurns m) ∧ FvecApply_l0 m p x.1 x.2.1 x.2.2 = FvecApply m p) (fun x => x.1) ?_ ((((FvecTurns m)) - 0).toNat + 1, TPoint.mk (bif m.Mirror then (W64 (0 - p.X)) else p.X) p.Y, 0) ⟨Nat.lt_succ_self _, (by show 0 ≤ 0 ∧ 0 ≤ FvecTurns m; (have := turns_b m; omega)), (by simp only [FvecApply, cond_true, cond_false])⟩
 rintro ⟨n0, p', v13⟩ ⟨hn, hinv, hF⟩
 have hm0 : (((FvecTurns m)) - v13).toNat < n0 := hn; have hinv0 : 0 ≤ v13 ∧ v13 ≤ FvecTurns m := hinv; have hF0 : FvecApply_l0 m p n0 p' v13 = FvecApply m p := hF; clear hn hinv hF
 cases n0 with
 | zero => exact absurd hm0 (Nat.not_lt_zero _)
 | succ n0 =>
  have ht := turns_b m
  have e1 : W64 (v13 + 1) = v13 + 1 := W64_id (by omega) (by omega)
  refine aw_seq ?_
  refine aw_region eqok [] [] [] [2, 3, 4, 12, 13, 14] [2, 3, 4] [] ⟨[(2, tP 2 0), (3, tP 3 0), (4, tP 4 0), (12, tI (FvecTurns m)), (13, tI v13), (14, tB (decide ((v13 : Int) < (FvecTurns m))))], [(2, .cells (TMotion.c m) 39), (3, .cells (TPoint.c p') 29), (4, .cells [.i 0, .i 0] 29)]⟩ .nil (by kernel_rfl) .nil <| ath_n <| aw_seq ?_
  refine aw_cond (decide ((v13 : Int) < (FvecTurns m))) (by kernel_rfl) (fun h1 => ?_) (fun h1 => ?_)
  ·have g1 := of_decide_eq_true h1
   refine aw_skip <| ath_n ?_
   refine aw_seq <| aw_block ?_
   refine aw_region eqok [] [] [] [2, 3, 4, 12, 13] [2, 3, 4] [] ⟨[(2, tP 2 0), (3, tP 3 0), (4, tP 4 0), (12, tI (FvecTurns m)), (13, tI v13)], [(2, .cells (TMotion.c m) 39), (3, .cells [.i (W64 (0 - p'.Y)), .i p'.X] 29), (4, .cells [.i 0, .i 0] 29)]⟩ .nil (by kernel_rfl) .nil <| abl_n <| ath_n ?_
   refine aw_region eqok [] [] [] [2, 3, 4, 12, 13] [2, 3, 4] [] ⟨[(2, tP 2 0), (3, tP 3 0), (4, tP 4 0), (12, tI (FvecTurns m)), (13, tI (W64 (v13 + 1)))], [(2, .cells (TMotion.c m) 39), (3, .cells [.i (W64 (0 - p'.Y)), .i p'.X] 29), (4, .cells [.i 0, .i 0] 29)]⟩ .nil (by kernel_rfl) .nil ?_
   (try rw [e1])
   refine ath_n ?_
   refine ⟨(n0, TPoint.mk (W64 (0 - p'.Y)) p'.X, v13 + 1), ⟨?_, ?_, (by rw [← hF0]; simp only [FvecApply_l0, h1, cond_true, cond_false])⟩, Nat.lt_succ_self _, cv_eq (by kernel_rfl)⟩
   ·show (((FvecTurns m)) - (v13 + 1)).toNat < n0; omega
   ·exact (by show 0 ≤ (v13 + 1) ∧ (v13 + 1) ≤ FvecTurns m; first | trivial | omega | exact at0 | exact at1 | exact at2 | (simp; omega) | simp)
  ·have g1 := of_decide_eq_false h1
   refine aw_exit <| ath_e ?_
   refine ath_e <| abl_hit ?_
   refine ath_n <| aw_seq ?_
   refine aw_region eqok [] [] [(25, cvecAdd p' m.At)] [4] [4] [Same (cvecAdd p' m.At).2.1] ⟨[(4, tP 4 0)], [(4, .cells (TPoint.c (FvecAdd p' m.At)) 29)]⟩ (.cons (okvecAdd p' m.At) .nil) (by kernel_rfl) (.cons rfl .nil) <| ath_n <| aw_ret ?_
   exact ⟨_, Cv.refl _, .inl rfl, .av (.agg (TPoint.c (FvecAdd p' m.At))), by kernel_rfl, tve_eq (by rw [← hF0]; first | (simp only [FvecApply_l0, h1, cond_true, cond_false]; done) | (simp only [FvecApply_l0, h1, cond_true, cond_false]; rfl))⟩
theorem okvecApply (m : TMotion) (p : TPoint) : CallOk Try.prog (cvecApply m p).1 (cvecApply m p).2.1 (cvecApply m p).2.2 := callOk_pure (fun _ _ => by kernel_rfl) fun _ => pvecApply m p
def FedgeBox (x0 : TEdge) : TRect := TRect.mk (min x0.A.X x0.B.X) (min x0.A.Y x0.B.Y) (max x0.A.X x0.B.X) (max x0.A.Y x0.B.Y)
def cedgeBox (x0 : TEdge) : FuncId × List Av × Ef := (59, [.agg (TEdge.c x0)], .val [] (.av (.agg (TRect.c (FedgeBox x0)))))
theorem pedgeBox (x0 : TEdge) : Pure Try.prog 59 (cedgeBox x0).2.1 (.av (.agg (TRect.c (FedgeBox x0)))) := by
 refine pure_of_awF Try.func59 rfl (by kernel_rfl) (by kernel_rfl) fun W0 M0 => ?_
 refine aw_seq ?_
 refine aw_region eqok [] [] [] [1, 2] [1, 2] [] ⟨[(1, tP 1 0), (2, tP 2 0)], [(1, .cells (TEdge.c x0) 35), (2, .cells [.i 0, .i 0, .i 0, .i 0] 54)]⟩ .nil (by kernel_rfl) .nil <| ath_n <| aw_seq ?_
 refine aw_region eqok [] [] [] [2] [2] [] ⟨[(2, tP 2 0)], [(2, .cells [.i (min x0.A.X x0.B.X), .i (min x0.A.Y x0.B.Y), .i (max x0.A.X x0.B.X), .i (max x0.A.Y x0.B.Y)] 54)]⟩ .nil (by kernel_rfl) .nil <| ath_n <| aw_ret ?_
 exact ⟨_, Cv.refl _, .inl rfl, .av (.agg [.i (min x0.A.X x0.B.X), .i (min x0.A.Y x0.B.Y), .i (max x0.A.X x0.B.X), .i (max x0.A.Y x0.B.Y)]), by kernel_rfl, tve_eq (by rfl)⟩
theorem okedgeBox (x0 : TEdge) : CallOk Try.prog (cedgeBox x0).1 (cedgeBox x0).2.1 (cedgeBox x0).2.2 := callOk_pure (fun _ _ => by kernel_rfl) fun _ => pedgeBox x0
def Fedgeupward (x0 : TEdge) : Int := bif decide ((x0.A.Y : Int) < x0.B.Y) then (1) else (bif decide ((x0.B.Y : Int) < x0.A.Y) then ((-1)) else (0))
def cedgeupward (x0 : TEdge) : FuncId × List Av × Ef := (78, [.agg (TEdge.c x0)], .val [] (.av (.one (.i (Fedgeupward x0)))))
theorem pedgeupward (x0 : TEdge) : Pure Try.prog 78 (cedgeupward x0).2.1 (.av (.one (.i (Fedgeupward x0)))) := by
 refine pure_of_awF Try.func78 rfl (by kernel_rfl) (by kernel_rfl) fun W0 M0 => ?_
 refine aw_seq ?_
 refine aw_region eqok [] [] [] [1] [1] [] ⟨[(1, tP 1 0)], [(1, .cells (TEdge.c x0) 35)]⟩ .nil (by kernel_rfl) .nil <| ath_n ?_
 refine aw_seq <| aw_block <| aw_seq ?_
 refine aw_region eqok [] [] [] [1, 3] [1] [] ⟨[(1, tP 1 0), (3, tB (decide ((x0.A.Y : Int) < x0.B.Y)))], [(1, .cells (TEdge.c x0) 35)]⟩ .nil (by kernel_rfl) .nil <| ath_n ?_
 refine aw_cond (decide ((x0.A.Y : Int) < x0.B.Y)) (by kernel_rfl) (fun h1 => ?_) (fun h1 => ?_)
 ·have g1 := of_decide_eq_true h1
  refine aw_seq ?_
  refine aw_region eqok [] [] [] [2] [] [] ⟨[(2, tI 1)], []⟩ .nil (by kernel_rfl) .nil <| ath_n ?_
  refine aw_ret <| abl_r <| ath_r ?_
  exact ⟨_, Cv.refl _, .inl rfl, .av (.one (.i 1)), by kernel_rfl, tve_eq (by first | (simp only [Fedgeupward, h1, cond_true, cond_false]; done) | (simp only [Fedgeupward, h1, cond_true, cond_false]; rfl))⟩
 ·have g1 := of_decide_eq_false h1
  refine aw_seq ?_
  refine aw_region eqok [] [] [] [11] [] [] ⟨[(11, tB (decide ((x0.B.Y : Int) < x0.A.Y)))], []⟩ .nil (by kernel_rfl) .nil <| ath_n ?_
  refine aw_cond (decide ((x0.B.Y : Int) < x0.A.Y)) (by kernel_rfl) (fun h2 => ?_) (fun h2 => ?_)
  ·have g2 := of_decide_eq_true h2
   refine aw_seq ?_
   refine aw_region eqok [] [] [] [2] [] [] ⟨[(2, tI ((-1)))], []⟩ .nil (by kernel_rfl) .nil <| ath_n ?_
   refine aw_ret <| abl_r <| ath_r ?_
   exact ⟨_, Cv.refl _, .inl rfl, .av (.one (.i ((-1)))), by kernel_rfl, tve_eq (by first | (simp only [Fedgeupward, h1, h2, cond_true, cond_false]; done) | (simp only [Fedgeupward, h1, h2, cond_true, cond_false]; rfl))⟩
  ·have g2 := of_decide_eq_false h2
   refine aw_skip <| abl_n ?_
   refine ath_n <| aw_seq ?_
   refine aw_region eqok [] [] [] [2] [] [] ⟨[(2, tI 0)], []⟩ .nil (by kernel_rfl) .nil <| ath_n <| aw_ret ?_
   exact ⟨_, Cv.refl _, .inl rfl, .av (.one (.i 0)), by kernel_rfl, tve_eq (by first | (simp only [Fedgeupward, h1, h2, cond_true, cond_false]; done) | (simp only [Fedgeupward, h1, h2, cond_true, cond_false]; rfl))⟩
theorem okedgeupward (x0 : TEdge) : CallOk Try.prog (cedgeupward x0).1 (cedgeupward x0).2.1 (cedgeupward x0).2.2 := callOk_pure (fun _ _ => by kernel_rfl) fun _ => pedgeupward x0
def Fedgepower (x0 : TEdge) (x1 : TPoint) : Int := W64 ((FvecDot (FvecSub x1 x0.C) (FvecSub x1 x0.C)) - (FvecDot (FvecSub x0.A x0.C) (FvecSub x0.A x0.C)))
def cedgepower (x0 : TEdge) (x1 : TPoint) : FuncId × List Av × Ef := (113, [.agg (TEdge.c x0), .agg (TPoint.c x1)], .val [] (.av (.one (.i (Fedgepower x0 x1)))))
theorem pedgepower (x0 : TEdge) (x1 : TPoint) : Pure Try.prog 113 (cedgepower x0 x1).2.1 (.av (.one (.i (Fedgepower x0 x1)))) := by
 refine pure_of_awF Try.func113 rfl (by kernel_rfl) (by kernel_rfl) fun W0 M0 => ?_
 refine aw_seq ?_
 refine aw_region eqok [] [] [] [2, 3] [2, 3] [] ⟨[(2, tP 2 0), (3, tP 3 0)], [(2, .cells (TEdge.c x0) 35), (3, .cells (TPoint.c x1) 29)]⟩ .nil (by kernel_rfl) .nil <| ath_n <| aw_seq ?_
 refine aw_draw mixed eqok [] [] [(10, cvecSub x1 x0.C), (15, cvecSub x0.A x0.C)] [5, 6] [5, 6] [Same (cvecSub x1 x0.C).2.1, Same (cvecSub x0.A x0.C).2.1] ⟨[(5, tP 5 0), (6, tP 6 0)], [(5, .cells (TPoint.c (FvecSub x1 x0.C)) 29), (6, .cells (TPoint.c (FvecSub x0.A x0.C)) 29)]⟩ (.cons (okvecSub x1 x0.C) (.cons (okvecSub x0.A x0.C) .nil)) (by kernel_rfl) (by kernel_rfl) (.cons rfl (.cons rfl .nil)) <| ath_n <| aw_seq ?_
 refine aw_draw mixed eqok [] [] [(18, cvecDot (FvecSub x1 x0.C) (FvecSub x1 x0.C)), (21, cvecDot (FvecSub x0.A x0.C) (FvecSub x0.A x0.C))] [4] [] [Same (cvecDot (FvecSub x1 x0.C) (FvecSub x1 x0.C)).2.1, Same (cvecDot (FvecSub x0.A x0.C) (FvecSub x0.A x0.C)).2.1] ⟨[(4, tI (W64 ((FvecDot (FvecSub x1 x0.C) (FvecSub x1 x0.C)) - (FvecDot (FvecSub x0.A x0.C) (FvecSub x0.A x0.C)))))], []⟩ (.cons (okvecDot (FvecSub x1 x0.C) (FvecSub x1 x0.C)) (.cons (okvecDot (FvecSub x0.A x0.C) (FvecSub x0.A x0.C)) .nil)) (by kernel_rfl) (by kernel_rfl) (.cons rfl (.cons rfl .nil)) <| ath_n <| aw_ret ?_
 exact ⟨_, Cv.refl _, .inl rfl, .av (.one (.i (W64 ((FvecDot (FvecSub x1 x0.C) (FvecSub x1 x0.C)) - (FvecDot (FvecSub x0.A x0.C) (FvecSub x0.A x0.C)))))), by kernel_rfl, tve_eq (by rfl)⟩
theorem okedgepower (x0 : TEdge) (x1 : TPoint) : CallOk Try.prog (cedgepower x0 x1).1 (cedgepower x0 x1).2.1 (cedgepower x0 x1).2.2 := callOk_pure (fun _ _ => by kernel_rfl) fun _ => pedgepower x0 x1
def Fedgequarter (x0 : TEdge) (x1 : Int) : Bool := bif !((decide ((((FvecSub x0.A x0.C).X) : Int) = 0)) == (decide ((((FvecSub x0.A x0.C).Y) : Int) = 0))) then (decide (((FvecSub x0.B x0.C).X) = ((FvecApply (TMotion.mk (TPoint.mk 0 0) x1 false) (FvecSub x0.A x0.C)).X)) && (decide (((FvecSub x0.B x0.C).Y) = ((FvecApply (TMotion.mk (TPoint.mk 0 0) x1 false) (FvecSub x0.A x0.C)).Y)) && true)) else false
def cedgequarter (x0 : TEdge) (x1 : Int) : FuncId × List Av × Ef := (112, [.agg (TEdge.c x0), .one (.i x1)], .val [] (.av (.one (.b (Fedgequarter x0 x1)))))
theorem pedgequarter (x0 : TEdge) (x1 : Int) : Pure Try.prog 112 (cedgequarter x0 x1).2.1 (.av (.one (.b (Fedgequarter x0 x1)))) := by
 refine pure_of_awF Try.func112 rfl (by kernel_rfl) (by kernel_rfl) fun W0 M0 => ?_
 refine aw_seq ?_
 refine aw_region eqok [] [] [] [1, 2] [2] [] ⟨[(1, tI x1), (2, tP 2 0)], [(2, .cells (TEdge.c x0) 35)]⟩ .nil (by kernel_rfl) .nil <| ath_n <| aw_seq ?_
 refine aw_region eqok [] [] [(10, cvecSub x0.A x0.C)] [1, 2, 5] [2, 5] [Same (cvecSub x0.A x0.C).2.1] ⟨[(1, tI x1), (2, tP 2 0), (5, tP 5 0)], [(2, .cells (TEdge.c x0) 35), (5, .cells (TPoint.c (FvecSub x0.A x0.C)) 29)]⟩ (.cons (okvecSub x0.A x0.C) .nil) (by kernel_rfl) (.cons rfl .nil) <| ath_n <| aw_seq ?_
 refine aw_draw mixed eqok [] [] [(23, cvecSub x0.B x0.C), (27, cvecApply (TMotion.mk (TPoint.mk 0 0) x1 false) (FvecSub x0.A x0.C))] [4] [] [((!((decide ((((FvecSub x0.A x0.C).X) : Int) = 0)) == (decide ((((FvecSub x0.A x0.C).Y) : Int) = 0)))) = true) → ((!((decide ((((FvecSub x0.A x0.C).X) : Int) = 0)) == (decide ((((FvecSub x0.A x0.C).Y) : Int) = 0)))) = true), ((!((decide ((((FvecSub x0.A x0.C).X) : Int) = 0)) == (decide ((((FvecSub x0.A x0.C).Y) : Int) = 0)))) = true) → ((!((decide ((((FvecSub x0.A x0.C).X) : Int) = 0)) == (decide ((((FvecSub x0.A x0.C).Y) : Int) = 0)))) = true), ((!((decide ((((FvecSub x0.A x0.C).X) : Int) = 0)) == (decide ((((FvecSub x0.A x0.C).Y) : Int) = 0)))) = true) → ((!((decide ((((FvecSub x0.A x0.C).X) : Int) = 0)) == (decide ((((FvecSub x0.A x0.C).Y) : Int) = 0)))) = true), ((!((decide ((((FvecSub x0.A x0.C).X) : Int) = 0)) == (decide ((((FvecSub x0.A x0.C).Y) : Int) = 0)))) = true) → ((!((decide ((((FvecSub x0.A x0.C).X) : Int) = 0)) == (decide ((((FvecSub x0.A x0.C).Y) : Int) = 0)))) = true), ((!((decide ((((FvecSub x0.A x0.C).X) : Int) = 0)) == (decide ((((FvecSub x0.A x0.C).Y) : Int) = 0)))) = true) → (Same (cvecSub x0.B x0.C).2.1), ((!((decide ((((FvecSub x0.A x0.C).X) : Int) = 0)) == (decide ((((FvecSub x0.A x0.C).Y) : Int) = 0)))) = true) → ((!((decide ((((FvecSub x0.A x0.C).X) : Int) = 0)) == (decide ((((FvecSub x0.A x0.C).Y) : Int) = 0)))) = true), ((!((decide ((((FvecSub x0.A x0.C).X) : Int) = 0)) == (decide ((((FvecSub x0.A x0.C).Y) : Int) = 0)))) = true) → ((!((decide ((((FvecSub x0.A x0.C).X) : Int) = 0)) == (decide ((((FvecSub x0.A x0.C).Y) : Int) = 0)))) = true), ((!((decide ((((FvecSub x0.A x0.C).X) : Int) = 0)) == (decide ((((FvecSub x0.A x0.C).Y) : Int) = 0)))) = true) → ((!((decide ((((FvecSub x0.A x0.C).X) : Int) = 0)) == (decide ((((FvecSub x0.A x0.C).Y) : Int) = 0)))) = true), ((!((decide ((((FvecSub x0.A x0.C).X) : Int) = 0)) == (decide ((((FvecSub x0.A x0.C).Y) : Int) = 0)))) = true) → (Same (cvecApply (TMotion.mk (TPoint.mk 0 0) x1 false) (FvecSub x0.A x0.C)).2.1), ((!((decide ((((FvecSub x0.A x0.C).X) : Int) = 0)) == (decide ((((FvecSub x0.A x0.C).Y) : Int) = 0)))) = true) → ((!((decide ((((FvecSub x0.A x0.C).X) : Int) = 0)) == (decide ((((FvecSub x0.A x0.C).Y) : Int) = 0)))) = true), ((!((decide ((((FvecSub x0.A x0.C).X) : Int) = 0)) == (decide ((((FvecSub x0.A x0.C).Y) : Int) = 0)))) = true) → ((!((decide ((((FvecSub x0.A x0.C).X) : Int) = 0)) == (decide ((((FvecSub x0.A x0.C).Y) : Int) = 0)))) = true), (!((decide ((((FvecSub x0.A x0.C).X) : Int) = 0)) == (decide ((((FvecSub x0.A x0.C).Y) : Int) = 0)))) = true → ((!((decide ((((FvecSub x0.A x0.C).X) : Int) = 0)) == (decide ((((FvecSub x0.A x0.C).Y) : Int) = 0)))) = true)] ⟨[(4, tB (bif !((decide ((((FvecSub x0.A x0.C).X) : Int) = 0)) == (decide ((((FvecSub x0.A x0.C).Y) : Int) = 0))) then (decide (((FvecSub x0.B x0.C).X) = ((FvecApply (TMotion.mk (TPoint.mk 0 0) x1 false) (FvecSub x0.A x0.C)).X)) && (decide (((FvecSub x0.B x0.C).Y) = ((FvecApply (TMotion.mk (TPoint.mk 0 0) x1 false) (FvecSub x0.A x0.C)).Y)) && true)) else false))], []⟩ (.cons (okvecSub x0.B x0.C) (.cons (okvecApply (TMotion.mk (TPoint.mk 0 0) x1 false) (FvecSub x0.A x0.C)) .nil)) (by kernel_rfl) (by kernel_rfl) (.cons id (.cons id (.cons id (.cons id (.cons (fun _ => rfl) (.cons id (.cons id (.cons id (.cons (fun _ => rfl) (.cons id (.cons id (.cons id .nil)))))))))))) <| ath_n <| aw_ret ?_
 exact ⟨_, Cv.refl _, .inl rfl, .av (.one (.b (bif !((decide ((((FvecSub x0.A x0.C).X) : Int) = 0)) == (decide ((((FvecSub x0.A x0.C).Y) : Int) = 0))) then (decide (((FvecSub x0.B x0.C).X) = ((FvecApply (TMotion.mk (TPoint.mk 0 0) x1 false) (FvecSub x0.A x0.C)).X)) && (decide (((FvecSub x0.B x0.C).Y) = ((FvecApply (TMotion.mk (TPoint.mk 0 0) x1 false) (FvecSub x0.A x0.C)).Y)) && true)) else false))), by kernel_rfl, tve_eq (by rfl)⟩
theorem okedgequarter (x0 : TEdge) (x1 : Int) : CallOk Try.prog (cedgequarter x0 x1).1 (cedgequarter x0 x1).2.1 (cedgequarter x0 x1).2.2 := callOk_pure (fun _ _ => by kernel_rfl) fun _ => pedgequarter x0 x1
def Fedgelone (x0 : TEdge) : Bool := (decide (x0.C.X = 0) && (decide (x0.C.Y = 0) && true))
def cedgelone (x0 : TEdge) : FuncId × List Av × Ef := (98, [.agg (TEdge.c x0)], .val [] (.av (.one (.b (Fedgelone x0)))))
theorem pedgelone (x0 : TEdge) : Pure Try.prog 98 (cedgelone x0).2.1 (.av (.one (.b (Fedgelone x0)))) := by
 refine pure_of_awF Try.func98 rfl (by kernel_rfl) (by kernel_rfl) fun W0 M0 => ?_
 refine aw_seq ?_
 refine aw_region eqok [] [] [] [1] [1] [] ⟨[(1, tP 1 0)], [(1, .cells (TEdge.c x0) 35)]⟩ .nil (by kernel_rfl) .nil <| ath_n <| aw_seq ?_
 refine aw_region eqok [] [] [] [2] [] [] ⟨[(2, tB ((decide (x0.C.X = 0) && (decide (x0.C.Y = 0) && true))))], []⟩ .nil (by kernel_rfl) .nil <| ath_n <| aw_ret ?_
 exact ⟨_, Cv.refl _, .inl rfl, .av (.one (.b ((decide (x0.C.X = 0) && (decide (x0.C.Y = 0) && true))))), by kernel_rfl, tve_eq (by rfl)⟩
theorem okedgelone (x0 : TEdge) : CallOk Try.prog (cedgelone x0).1 (cedgelone x0).2.1 (cedgelone x0).2.2 := callOk_pure (fun _ _ => by kernel_rfl) fun _ => pedgelone x0
def Fedgeleftwards (x0 : TEdge) : Bool := Fedgequarter x0 1
def cedgeleftwards (x0 : TEdge) : FuncId × List Av × Ef := (101, [.agg (TEdge.c x0)], .val [] (.av (.one (.b (Fedgeleftwards x0)))))
theorem pedgeleftwards (x0 : TEdge) : Pure Try.prog 101 (cedgeleftwards x0).2.1 (.av (.one (.b (Fedgeleftwards x0)))) := by
 refine pure_of_awF Try.func101 rfl (by kernel_rfl) (by kernel_rfl) fun W0 M0 => ?_
 refine aw_seq ?_
 refine aw_region eqok [] [] [] [1] [1] [] ⟨[(1, tP 1 0)], [(1, .cells (TEdge.c x0) 35)]⟩ .nil (by kernel_rfl) .nil <| ath_n <| aw_seq ?_
 refine aw_region eqok [] [] [(4, cedgequarter x0 1)] [2] [] [Same (cedgequarter x0 1).2.1] ⟨[(2, tB (Fedgequarter x0 1))], []⟩ (.cons (okedgequarter x0 1) .nil) (by kernel_rfl) (.cons rfl .nil) <| ath_n <| aw_ret ?_
 exact ⟨_, Cv.refl _, .inl rfl, .av (.one (.b (Fedgequarter x0 1))), by kernel_rfl, tve_eq (by rfl)⟩
theorem okedgeleftwards (x0 : TEdge) : CallOk Try.prog (cedgeleftwards x0).1 (cedgeleftwards x0).2.1 (cedgeleftwards x0).2.2 := callOk_pure (fun _ _ => by kernel_rfl) fun _ => pedgeleftwards x0
def Fedgerightwards (x0 : TEdge) : Bool := Fedgequarter x0 3
def cedgerightwards (x0 : TEdge) : FuncId × List Av × Ef := (104, [.agg (TEdge.c x0)], .val [] (.av (.one (.b (Fedgerightwards x0)))))
theorem pedgerightwards (x0 : TEdge) : Pure Try.prog 104 (cedgerightwards x0).2.1 (.av (.one (.b (Fedgerightwards x0)))) := by
 refine pure_of_awF Try.func104 rfl (by kernel_rfl) (by kernel_rfl) fun W0 M0 => ?_
 refine aw_seq ?_
 refine aw_region eqok [] [] [] [1] [1] [] ⟨[(1, tP 1 0)], [(1, .cells (TEdge.c x0) 35)]⟩ .nil (by kernel_rfl) .nil <| ath_n <| aw_seq ?_
 refine aw_region eqok [] [] [(4, cedgequarter x0 3)] [2] [] [Same (cedgequarter x0 3).2.1] ⟨[(2, tB (Fedgequarter x0 3))], []⟩ (.cons (okedgequarter x0 3) .nil) (by kernel_rfl) (.cons rfl .nil) <| ath_n <| aw_ret ?_
 exact ⟨_, Cv.refl _, .inl rfl, .av (.one (.b (Fedgequarter x0 3))), by kernel_rfl, tve_eq (by rfl)⟩
theorem okedgerightwards (x0 : TEdge) : CallOk Try.prog (cedgerightwards x0).1 (cedgerightwards x0).2.1 (cedgerightwards x0).2.2 := callOk_pure (fun _ _ => by kernel_rfl) fun _ => pedgerightwards x0
def Fedgeabove (x0 : TEdge) (x1 : TPoint) : Bool := decide (((FvecSide x0.A x0.B x1) : Int) = (Fedgeupward x0))
def cedgeabove (x0 : TEdge) (x1 : TPoint) : FuncId × List Av × Ef := (100, [.agg (TEdge.c x0), .agg (TPoint.c x1)], .val [] (.av (.one (.b (Fedgeabove x0 x1)))))
theorem pedgeabove (x0 : TEdge) (x1 : TPoint) : Pure Try.prog 100 (cedgeabove x0 x1).2.1 (.av (.one (.b (Fedgeabove x0 x1)))) := by
 refine pure_of_awF Try.func100 rfl (by kernel_rfl) (by kernel_rfl) fun W0 M0 => ?_
 refine aw_seq ?_
 refine aw_region eqok [] [] [] [2, 3] [2, 3] [] ⟨[(2, tP 2 0), (3, tP 3 0)], [(2, .cells (TEdge.c x0) 35), (3, .cells (TPoint.c x1) 29)]⟩ .nil (by kernel_rfl) .nil <| ath_n <| aw_seq ?_
 refine aw_draw mixed eqok [] [] [(10, cvecSide x0.A x0.B x1), (12, cedgeupward x0)] [4] [] [Same (cvecSide x0.A x0.B x1).2.1, Same (cedgeupward x0).2.1] ⟨[(4, tB (decide (((FvecSide x0.A x0.B x1) : Int) = (Fedgeupward x0))))], []⟩ (.cons (okvecSide x0.A x0.B x1) (.cons (okedgeupward x0) .nil)) (by kernel_rfl) (by kernel_rfl) (.cons rfl (.cons rfl .nil)) <| ath_n <| aw_ret ?_
 exact ⟨_, Cv.refl _, .inl rfl, .av (.one (.b (decide (((FvecSide x0.A x0.B x1) : Int) = (Fedgeupward x0))))), by kernel_rfl, tve_eq (by rfl)⟩
theorem okedgeabove (x0 : TEdge) (x1 : TPoint) : CallOk Try.prog (cedgeabove x0 x1).1 (cedgeabove x0 x1).2.1 (cedgeabove x0 x1).2.2 := callOk_pure (fun _ _ => by kernel_rfl) fun _ => pedgeabove x0 x1
def Fedgebeside (x0 : TEdge) (x1 : TPoint) : Bool := bif bif decide ((x0.C.X : Int) < x0.A.X) then true else decide ((x0.C.X : Int) < x0.B.X) then (bif decide ((x1.X : Int) < x0.C.X) then true else decide (((Fedgepower x0 x1) : Int) < 0)) else (bif decide ((x1.X : Int) < x0.C.X) then decide ((0 : Int) < (Fedgepower x0 x1)) else false)
def cedgebeside (x0 : TEdge) (x1 : TPoint) : FuncId × List Av × Ef := (103, [.agg (TEdge.c x0), .agg (TPoint.c x1)], .val [] (.av (.one (.b (Fedgebeside x0 x1)))))
theorem pedgebeside (x0 : TEdge) (x1 : TPoint) : Pure Try.prog 103 (cedgebeside x0 x1).2.1 (.av (.one (.b (Fedgebeside x0 x1)))) := by
 refine pure_of_awF Try.func103 rfl (by kernel_rfl) (by kernel_rfl) fun W0 M0 => ?_
 refine aw_seq ?_
 refine aw_region eqok [] [] [] [2, 3] [2, 3] [] ⟨[(2, tP 2 0), (3, tP 3 0)], [(2, .cells (TEdge.c x0) 35), (3, .cells (TPoint.c x1) 29)]⟩ .nil (by kernel_rfl) .nil <| ath_n ?_
 refine aw_seq <| aw_seq ?_
 refine aw_region eqok [] [] [] [2, 3, 20] [2, 3] [((decide ((x0.C.X : Int) < x0.A.X)) = false) → ((decide ((x0.C.X : Int) < x0.A.X)) = false), ((decide ((x0.C.X : Int) < x0.A.X)) = false) → ((decide ((x0.C.X : Int) < x0.A.X)) = false), ((decide ((x0.C.X : Int) < x0.A.X)) = false) → ((decide ((x0.C.X : Int) < x0.A.X)) = false), ((decide ((x0.C.X : Int) < x0.A.X)) = false) → ((decide ((x0.C.X : Int) < x0.A.X)) = false), ((decide ((x0.C.X : Int) < x0.A.X)) = false) → ((decide ((x0.C.X : Int) < x0.A.X)) = false), ((decide ((x0.C.X : Int) < x0.A.X)) = false) → ((decide ((x0.C.X : Int) < x0.A.X)) = false), (decide ((x0.C.X : Int) < x0.A.X)) = false → ((decide ((x0.C.X : Int) < x0.A.X)) = false)] ⟨[(2, tP 2 0), (3, tP 3 0), (20, tB (bif decide ((x0.C.X : Int) < x0.A.X) then true else decide ((x0.C.X : Int) < x0.B.X)))], [(2, .cells (TEdge.c x0) 35), (3, .cells (TPoint.c x1) 29)]⟩ .nil (by kernel_rfl) (.cons id (.cons id (.cons id (.cons id (.cons id (.cons id (.cons id .nil))))))) <| ath_n ?_
 refine aw_cond (bif decide ((x0.C.X : Int) < x0.A.X) then true else decide ((x0.C.X : Int) < x0.B.X)) (by kernel_rfl) (fun h1 => ?_) (fun h1 => ?_)
 ·refine aw_seq ?_
  refine aw_region eqok [] [] [(30, cedgepower x0 x1)] [4] [] [((decide ((x1.X : Int) < x0.C.X)) = false) → ((decide ((x1.X : Int) < x0.C.X)) = false), ((decide ((x1.X : Int) < x0.C.X)) = false) → ((decide ((x1.X : Int) < x0.C.X)) = false), ((decide ((x1.X : Int) < x0.C.X)) = false) → (Same (cedgepower x0 x1).2.1), ((decide ((x1.X : Int) < x0.C.X)) = false) → ((decide ((x1.X : Int) < x0.C.X)) = false), (decide ((x1.X : Int) < x0.C.X)) = false → ((decide ((x1.X : Int) < x0.C.X)) = false)] ⟨[(4, tB (bif decide ((x1.X : Int) < x0.C.X) then true else decide (((Fedgepower x0 x1) : Int) < 0)))], []⟩ (.cons (okedgepower x0 x1) .nil) (by kernel_rfl) (.cons id (.cons id (.cons (fun _ => rfl) (.cons id (.cons id .nil))))) <| ath_n ?_
  refine aw_ret <| ath_r ?_
  exact ⟨_, Cv.refl _, .inl rfl, .av (.one (.b (bif decide ((x1.X : Int) < x0.C.X) then true else decide (((Fedgepower x0 x1) : Int) < 0)))), by kernel_rfl, tve_eq (by first | (simp only [Fedgebeside, h1, cond_true, cond_false]; done) | (simp only [Fedgebeside, h1, cond_true, cond_false]; rfl))⟩
 ·refine aw_skip <| ath_n <| aw_seq ?_
  refine aw_region eqok [] [] [(42, cedgepower x0 x1)] [4] [] [((decide ((x1.X : Int) < x0.C.X)) = true) → ((decide ((x1.X : Int) < x0.C.X)) = true), ((decide ((x1.X : Int) < x0.C.X)) = true) → ((decide ((x1.X : Int) < x0.C.X)) = true), ((decide ((x1.X : Int) < x0.C.X)) = true) → (Same (cedgepower x0 x1).2.1), ((decide ((x1.X : Int) < x0.C.X)) = true) → ((decide ((x1.X : Int) < x0.C.X)) = true), (decide ((x1.X : Int) < x0.C.X)) = true → ((decide ((x1.X : Int) < x0.C.X)) = true)] ⟨[(4, tB (bif decide ((x1.X : Int) < x0.C.X) then decide ((0 : Int) < (Fedgepower x0 x1)) else false))], []⟩ (.cons (okedgepower x0 x1) .nil) (by kernel_rfl) (.cons id (.cons id (.cons (fun _ => rfl) (.cons id (.cons id .nil))))) <| ath_n <| aw_ret ?_
  exact ⟨_, Cv.refl _, .inl rfl, .av (.one (.b (bif decide ((x1.X : Int) < x0.C.X) then decide ((0 : Int) < (Fedgepower x0 x1)) else false))), by kernel_rfl, tve_eq (by first | (simp only [Fedgebeside, h1, cond_true, cond_false]; done) | (simp only [Fedgebeside, h1, cond_true, cond_false]; rfl))⟩
theorem okedgebeside (x0 : TEdge) (x1 : TPoint) : CallOk Try.prog (cedgebeside x0 x1).1 (cedgebeside x0 x1).2.1 (cedgebeside x0 x1).2.2 := callOk_pure (fun _ _ => by kernel_rfl) fun _ => pedgebeside x0 x1
def cfamilies1 : FuncId × List Av × Ef := (85, [.one (.i 1)], .val [] (.tup [.agg [.clo 98 0 (fun _ => default), .clo 99 0 (fun _ => default), .clo 100 0 (fun _ => default), .i 1], .one (.b true)]))
theorem pfamilies1  : Pure Try.prog 85 (cfamilies1 ).2.1 (.tup [.agg [.clo 98 0 (fun _ => default), .clo 99 0 (fun _ => default), .clo 100 0 (fun _ => default), .i 1], .one (.b true)]) := by
 refine pure_of_awF Try.func85 rfl (by kernel_rfl) (by kernel_rfl) fun W0 M0 => ?_
 refine aw_seq ?_
 refine aw_region eqok [] [] [] [0, 2] [2] [] ⟨[(0, tI 1), (2, tP 2 0)], [(2, .cells [.val .nilFunc, .val .nilFunc, .val .nilFunc, .i 0] 94)]⟩ .nil (by kernel_rfl) .nil <| ath_n ?_
 refine aw_seq <| aw_seq ?_
 refine aw_region eqok [] [] [] [0, 2, 4] [2] [] ⟨[(0, tI 1), (2, tP 2 0), (4, tI 1)], [(2, .cells [.val .nilFunc, .val .nilFunc, .val .nilFunc, .i 0] 94)]⟩ .nil (by kernel_rfl) .nil <| ath_n ?_
 refine aw_block <| aw_seq ?_
 refine aw_region eqok [] [] [] [0, 2, 4, 5] [2] [] ⟨[(0, tI 1), (2, tP 2 0), (4, tI 1), (5, tB true)], [(2, .cells [.val .nilFunc, .val .nilFunc, .val .nilFunc, .i 0] 94)]⟩ .nil (by kernel_rfl) .nil <| ath_n ?_
 refine aw_cond_t (by kernel_rfl) <| aw_seq ?_
 refine aw_region eqok [] [] [] [2, 3] [2] [] ⟨[(2, tP 2 0), (3, tB true)], [(2, .cells [.clo 98 0 (fun _ => default), .clo 99 0 (fun _ => default), .clo 100 0 (fun _ => default), .i 1] 94)]⟩ .nil (by kernel_rfl) .nil <| ath_n ?_
 refine aw_ret <| abl_r <| ath_r ?_
 exact ⟨_, Cv.refl _, .inl rfl, .tup [.agg [.clo 98 0 (fun _ => default), .clo 99 0 (fun _ => default), .clo 100 0 (fun _ => default), .i 1], .one (.b true)], by kernel_rfl, tve_eq rfl⟩
theorem okfamilies1  : CallOk Try.prog (cfamilies1 ).1 (cfamilies1 ).2.1 (cfamilies1 ).2.2 := callOk_pure (fun _ _ => by kernel_rfl) fun _ => pfamilies1
def cfamilies2 : FuncId × List Av × Ef := (85, [.one (.i 2)], .val [] (.tup [.agg [.clo 101 0 (fun _ => default), .clo 102 0 (fun _ => default), .clo 103 0 (fun _ => default), .i 3], .one (.b true)]))
theorem pfamilies2  : Pure Try.prog 85 (cfamilies2 ).2.1 (.tup [.agg [.clo 101 0 (fun _ => default), .clo 102 0 (fun _ => default), .clo 103 0 (fun _ => default), .i 3], .one (.b true)]) := by
 refine pure_of_awF Try.func85 rfl (by kernel_rfl) (by kernel_rfl) fun W0 M0 => ?_
 refine aw_seq ?_
 refine aw_region eqok [] [] [] [0, 2] [2] [] ⟨[(0, tI 2), (2, tP 2 0)], [(2, .cells [.val .nilFunc, .val .nilFunc, .val .nilFunc, .i 0] 94)]⟩ .nil (by kernel_rfl) .nil <| ath_n ?_
 refine aw_seq <| aw_seq ?_
 refine aw_region eqok [] [] [] [0, 2, 4] [2] [] ⟨[(0, tI 2), (2, tP 2 0), (4, tI 2)], [(2, .cells [.val .nilFunc, .val .nilFunc, .val .nilFunc, .i 0] 94)]⟩ .nil (by kernel_rfl) .nil <| ath_n ?_
 refine aw_block <| aw_seq ?_
 refine aw_region eqok [] [] [] [0, 2, 4, 5] [2] [] ⟨[(0, tI 2), (2, tP 2 0), (4, tI 2), (5, tB false)], [(2, .cells [.val .nilFunc, .val .nilFunc, .val .nilFunc, .i 0] 94)]⟩ .nil (by kernel_rfl) .nil <| ath_n ?_
 refine aw_cond_f (by kernel_rfl) <| aw_seq ?_
 refine aw_region eqok [] [] [] [0, 2, 4, 8] [2] [] ⟨[(0, tI 2), (2, tP 2 0), (4, tI 2), (8, tB true)], [(2, .cells [.val .nilFunc, .val .nilFunc, .val .nilFunc, .i 0] 94)]⟩ .nil (by kernel_rfl) .nil <| ath_n ?_
 refine aw_cond_t (by kernel_rfl) <| aw_seq ?_
 refine aw_region eqok [] [] [] [2, 3] [2] [] ⟨[(2, tP 2 0), (3, tB true)], [(2, .cells [.clo 101 0 (fun _ => default), .clo 102 0 (fun _ => default), .clo 103 0 (fun _ => default), .i 3] 94)]⟩ .nil (by kernel_rfl) .nil <| ath_n ?_
 refine aw_ret <| abl_r <| ath_r ?_
 exact ⟨_, Cv.refl _, .inl rfl, .tup [.agg [.clo 101 0 (fun _ => default), .clo 102 0 (fun _ => default), .clo 103 0 (fun _ => default), .i 3], .one (.b true)], by kernel_rfl, tve_eq rfl⟩
theorem okfamilies2  : CallOk Try.prog (cfamilies2 ).1 (cfamilies2 ).2.1 (cfamilies2 ).2.2 := callOk_pure (fun _ _ => by kernel_rfl) fun _ => pfamilies2
def cfamilies3 : FuncId × List Av × Ef := (85, [.one (.i 3)], .val [] (.tup [.agg [.clo 104 0 (fun _ => default), .clo 102 0 (fun _ => default), .clo 103 0 (fun _ => default), .i 2], .one (.b true)]))
theorem pfamilies3  : Pure Try.prog 85 (cfamilies3 ).2.1 (.tup [.agg [.clo 104 0 (fun _ => default), .clo 102 0 (fun _ => default), .clo 103 0 (fun _ => default), .i 2], .one (.b true)]) := by
 refine pure_of_awF Try.func85 rfl (by kernel_rfl) (by kernel_rfl) fun W0 M0 => ?_
 refine aw_seq ?_
 refine aw_region eqok [] [] [] [0, 2] [2] [] ⟨[(0, tI 3), (2, tP 2 0)], [(2, .cells [.val .nilFunc, .val .nilFunc, .val .nilFunc, .i 0] 94)]⟩ .nil (by kernel_rfl) .nil <| ath_n ?_
 refine aw_seq <| aw_seq ?_
 refine aw_region eqok [] [] [] [0, 2, 4] [2] [] ⟨[(0, tI 3), (2, tP 2 0), (4, tI 3)], [(2, .cells [.val .nilFunc, .val .nilFunc, .val .nilFunc, .i 0] 94)]⟩ .nil (by kernel_rfl) .nil <| ath_n ?_
 refine aw_block <| aw_seq ?_
 refine aw_region eqok [] [] [] [0, 2, 4, 5] [2] [] ⟨[(0, tI 3), (2, tP 2 0), (4, tI 3), (5, tB false)], [(2, .cells [.val .nilFunc, .val .nilFunc, .val .nilFunc, .i 0] 94)]⟩ .nil (by kernel_rfl) .nil <| ath_n ?_
 refine aw_cond_f (by kernel_rfl) <| aw_seq ?_
 refine aw_region eqok [] [] [] [0, 2, 4, 8] [2] [] ⟨[(0, tI 3), (2, tP 2 0), (4, tI 3), (8, tB false)], [(2, .cells [.val .nilFunc, .val .nilFunc, .val .nilFunc, .i 0] 94)]⟩ .nil (by kernel_rfl) .nil <| ath_n ?_
 refine aw_cond_f (by kernel_rfl) <| aw_seq ?_
 refine aw_region eqok [] [] [] [0, 2, 11] [2] [] ⟨[(0, tI 3), (2, tP 2 0), (11, tB true)], [(2, .cells [.val .nilFunc, .val .nilFunc, .val .nilFunc, .i 0] 94)]⟩ .nil (by kernel_rfl) .nil <| ath_n ?_
 refine aw_cond_t (by kernel_rfl) <| aw_seq ?_
 refine aw_region eqok [] [] [] [2, 3] [2] [] ⟨[(2, tP 2 0), (3, tB true)], [(2, .cells [.clo 104 0 (fun _ => default), .clo 102 0 (fun _ => default), .clo 103 0 (fun _ => default), .i 2] 94)]⟩ .nil (by kernel_rfl) .nil <| ath_n ?_
 refine aw_ret <| abl_r <| ath_r ?_
 exact ⟨_, Cv.refl _, .inl rfl, .tup [.agg [.clo 104 0 (fun _ => default), .clo 102 0 (fun _ => default), .clo 103 0 (fun _ => default), .i 2], .one (.b true)], by kernel_rfl, tve_eq rfl⟩
theorem okfamilies3  : CallOk Try.prog (cfamilies3 ).1 (cfamilies3 ).2.1 (cfamilies3 ).2.2 := callOk_pure (fun _ _ => by kernel_rfl) fun _ => pfamilies3
def cfamiliesN (k : Int) : FuncId × List Av × Ef := (85, [.one (.i k)], .val [] (.tup [.agg [.val .nilFunc, .val .nilFunc, .val .nilFunc, .i k], .one (.b false)]))
theorem pfamiliesN (k : Int) (k1 : ¬ k = 1) (k2 : ¬ k = 2) (k3 : ¬ k = 3) : Pure Try.prog 85 (cfamiliesN k).2.1 (.tup [.agg [.val .nilFunc, .val .nilFunc, .val .nilFunc, .i k], .one (.b false)]) := by
 refine pure_of_awF Try.func85 rfl (by kernel_rfl) (by kernel_rfl) fun W0 M0 => ?_
 refine aw_seq ?_
 refine aw_region eqok [] [] [] [0, 2] [2] [] ⟨[(0, tI k), (2, tP 2 0)], [(2, .cells [.val .nilFunc, .val .nilFunc, .val .nilFunc, .i 0] 94)]⟩ .nil (by kernel_rfl) .nil <| ath_n ?_
 refine aw_seq <| aw_seq ?_
 refine aw_region eqok [] [] [] [0, 2, 4] [2] [] ⟨[(0, tI k), (2, tP 2 0), (4, tI k)], [(2, .cells [.val .nilFunc, .val .nilFunc, .val .nilFunc, .i 0] 94)]⟩ .nil (by kernel_rfl) .nil <| ath_n ?_
 refine aw_block <| aw_seq ?_
 refine aw_region eqok [] [] [] [0, 2, 4, 5] [2] [] ⟨[(0, tI k), (2, tP 2 0), (4, tI k), (5, tB (decide ((k : Int) = 1)))], [(2, .cells [.val .nilFunc, .val .nilFunc, .val .nilFunc, .i 0] 94)]⟩ .nil (by kernel_rfl) .nil <| ath_n ?_
 refine aw_cond (decide ((k : Int) = 1)) (by kernel_rfl) (fun h => absurd ((decide_eq_false k1).symm.trans h) (by decide)) (fun _ => ?_)
 refine aw_seq ?_
 refine aw_region eqok [] [] [] [0, 2, 4, 8] [2] [] ⟨[(0, tI k), (2, tP 2 0), (4, tI k), (8, tB (decide ((k : Int) = 2)))], [(2, .cells [.val .nilFunc, .val .nilFunc, .val .nilFunc, .i 0] 94)]⟩ .nil (by kernel_rfl) .nil <| ath_n ?_
 refine aw_cond (decide ((k : Int) = 2)) (by kernel_rfl) (fun h => absurd ((decide_eq_false k2).symm.trans h) (by decide)) (fun _ => ?_)
 refine aw_seq ?_
 refine aw_region eqok [] [] [] [0, 2, 11] [2] [] ⟨[(0, tI k), (2, tP 2 0), (11, tB (decide ((k : Int) = 3)))], [(2, .cells [.val .nilFunc, .val .nilFunc, .val .nilFunc, .i 0] 94)]⟩ .nil (by kernel_rfl) .nil <| ath_n ?_
 refine aw_cond (decide ((k : Int) = 3)) (by kernel_rfl) (fun h => absurd ((decide_eq_false k3).symm.trans h) (by decide)) (fun _ => ?_)
 refine aw_skip <| abl_n ?_
 refine ath_n <| aw_seq ?_
 refine aw_region eqok [] [] [] [2, 3] [2] [] ⟨[(2, tP 2 0), (3, tB false)], [(2, .cells [.val .nilFunc, .val .nilFunc, .val .nilFunc, .i k] 94)]⟩ .nil (by kernel_rfl) .nil <| ath_n <| aw_ret ?_
 exact ⟨_, Cv.refl _, .inl rfl, .tup [.agg [.val .nilFunc, .val .nilFunc, .val .nilFunc, .i k], .one (.b false)], by kernel_rfl, tve_eq rfl⟩
theorem okfamiliesN (k : Int) (k1 : ¬ k = 1) (k2 : ¬ k = 2) (k3 : ¬ k = 3) : CallOk Try.prog (cfamiliesN k).1 (cfamiliesN k).2.1 (cfamiliesN k).2.2 := callOk_pure (fun _ _ => by kernel_rfl) fun _ => pfamiliesN k k1 k2 k3
def wof1_0 (a0 : TPoint) (a1 : TPoint) : Bool := bif FvecRight a0 then FvecRight a1 else false
def wof1_1 (a0 : TPoint) (a1 : TPoint) (a2 : TPoint) : Bool := bif wof1_0 a0 a1 then FvecRight a2 else false
def wof1_2 (a0 : TPoint) (a1 : TPoint) (a2 : TPoint) : Bool := bif wof1_1 a0 a1 a2 then Fedgelone (TEdge.mk 1 a0 a1 a2) else false
def cof1 (a0 : TPoint) (a1 : TPoint) (a2 : TPoint) : FuncId × List Av × Ef := (62, [.agg [.i 1, .i a0.X, .i a0.Y, .i a1.X, .i a1.Y, .i a2.X, .i a2.Y]], .val [] (.tup [.agg [.clo 98 0 (fun _ => default), .clo 99 0 (fun _ => default), .clo 100 0 (fun _ => default), .i 1], .one (.b (wof1_2 a0 a1 a2))]))
theorem pof1 (a0 : TPoint) (a1 : TPoint) (a2 : TPoint) : Pure Try.prog 62 (cof1 a0 a1 a2).2.1 (.tup [.agg [.clo 98 0 (fun _ => default), .clo 99 0 (fun _ => default), .clo 100 0 (fun _ => default), .i 1], .one (.b (wof1_2 a0 a1 a2))]) := by
 refine pure_of_awF Try.func62 rfl (by kernel_rfl) (by kernel_rfl) fun W0 M0 => ?_
 refine aw_seq ?_
 refine aw_region eqok [] [] [] [1, 2] [1, 2] [] ⟨[(1, tP 1 0), (2, tP 2 0)], [(1, .cells [.i 1, .i a0.X, .i a0.Y, .i a1.X, .i a1.Y, .i a2.X, .i a2.Y] 35), (2, .cells [.val .nilFunc, .val .nilFunc, .val .nilFunc, .i 0] 94)]⟩ .nil (by kernel_rfl) .nil <| ath_n <| aw_seq ?_
 refine aw_region eqok [] [] [(9, cfamilies1)] [1, 2, 4, 5] [1, 2, 4] [Same (cfamilies1).2.1] ⟨[(1, tP 1 0), (2, tP 2 0), (4, tP 4 0), (5, tB true)], [(1, .cells [.i 1, .i a0.X, .i a0.Y, .i a1.X, .i a1.Y, .i a2.X, .i a2.Y] 35), (2, .cells [.val .nilFunc, .val .nilFunc, .val .nilFunc, .i 0] 94), (4, .cells [.clo 98 0 (fun _ => default), .clo 99 0 (fun _ => default), .clo 100 0 (fun _ => default), .i 1] 94)]⟩ (.cons (okfamilies1) .nil) (by kernel_rfl) (.cons rfl .nil) <| ath_n <| aw_seq ?_
 refine aw_draw mixed eqok [] [] [(17, cvecRight a0), (22, cvecRight a1), (27, cvecRight a2), (33, cedgelone (TEdge.mk 1 a0 a1 a2))] [2, 3] [2] [((true) = true) → ((true) = true), ((true) = true) → ((true) = true), ((true) = true) → (Same (cvecRight a0).2.1), (true) = true → ((true) = true), ((FvecRight a0) = true) → ((FvecRight a0) = true), ((FvecRight a0) = true) → ((FvecRight a0) = true), ((FvecRight a0) = true) → (Same (cvecRight a1).2.1), (FvecRight a0) = true → ((FvecRight a0) = true), ((wof1_0 a0 a1) = true) → ((wof1_0 a0 a1) = true), ((wof1_0 a0 a1) = true) → ((wof1_0 a0 a1) = true), ((wof1_0 a0 a1) = true) → (Same (cvecRight a2).2.1), (wof1_0 a0 a1) = true → ((wof1_0 a0 a1) = true), ((wof1_1 a0 a1 a2) = true) → ((wof1_1 a0 a1 a2) = true), ((wof1_1 a0 a1 a2) = true) → ((wof1_1 a0 a1 a2) = true), ((wof1_1 a0 a1 a2) = true) → ((wof1_1 a0 a1 a2) = true), ((wof1_1 a0 a1 a2) = true) → (Same (cedgelone (TEdge.mk 1 a0 a1 a2)).2.1), (wof1_1 a0 a1 a2) = true → ((wof1_1 a0 a1 a2) = true)] ⟨[(2, tP 2 0), (3, tB (wof1_2 a0 a1 a2))], [(2, .cells [.clo 98 0 (fun _ => default), .clo 99 0 (fun _ => default), .clo 100 0 (fun _ => default), .i 1] 94)]⟩ (.cons (okvecRight a0) (.cons (okvecRight a1) (.cons (okvecRight a2) (.cons (okedgelone (TEdge.mk 1 a0 a1 a2)) .nil)))) (by kernel_rfl) (by kernel_rfl) (.cons id (.cons id (.cons (fun _ => rfl) (.cons id (.cons id (.cons id (.cons (fun _ => rfl) (.cons id (.cons id (.cons id (.cons (fun _ => rfl) (.cons id (.cons id (.cons id (.cons id (.cons (fun _ => rfl) (.cons id .nil))))))))))))))))) <| ath_n <| aw_ret ?_
 exact ⟨_, Cv.refl _, .inl rfl, .tup [.agg [.clo 98 0 (fun _ => default), .clo 99 0 (fun _ => default), .clo 100 0 (fun _ => default), .i 1], .one (.b (wof1_2 a0 a1 a2))], by kernel_rfl, tve_eq rfl⟩
theorem okof1 (a0 : TPoint) (a1 : TPoint) (a2 : TPoint) : CallOk Try.prog (cof1 a0 a1 a2).1 (cof1 a0 a1 a2).2.1 (cof1 a0 a1 a2).2.2 := callOk_pure (fun _ _ => by kernel_rfl) fun _ => pof1 a0 a1 a2
def wof2_0 (a0 : TPoint) (a1 : TPoint) : Bool := bif FvecRight a0 then FvecRight a1 else false
def wof2_1 (a0 : TPoint) (a1 : TPoint) (a2 : TPoint) : Bool := bif wof2_0 a0 a1 then FvecRight a2 else false
def wof2_2 (a0 : TPoint) (a1 : TPoint) (a2 : TPoint) : Bool := bif wof2_1 a0 a1 a2 then Fedgeleftwards (TEdge.mk 2 a0 a1 a2) else false
def cof2 (a0 : TPoint) (a1 : TPoint) (a2 : TPoint) : FuncId × List Av × Ef := (62, [.agg [.i 2, .i a0.X, .i a0.Y, .i a1.X, .i a1.Y, .i a2.X, .i a2.Y]], .val [] (.tup [.agg [.clo 101 0 (fun _ => default), .clo 102 0 (fun _ => default), .clo 103 0 (fun _ => default), .i 3], .one (.b (wof2_2 a0 a1 a2))]))
theorem pof2 (a0 : TPoint) (a1 : TPoint) (a2 : TPoint) : Pure Try.prog 62 (cof2 a0 a1 a2).2.1 (.tup [.agg [.clo 101 0 (fun _ => default), .clo 102 0 (fun _ => default), .clo 103 0 (fun _ => default), .i 3], .one (.b (wof2_2 a0 a1 a2))]) := by
 refine pure_of_awF Try.func62 rfl (by kernel_rfl) (by kernel_rfl) fun W0 M0 => ?_
 refine aw_seq ?_
 refine aw_region eqok [] [] [] [1, 2] [1, 2] [] ⟨[(1, tP 1 0), (2, tP 2 0)], [(1, .cells [.i 2, .i a0.X, .i a0.Y, .i a1.X, .i a1.Y, .i a2.X, .i a2.Y] 35), (2, .cells [.val .nilFunc, .val .nilFunc, .val .nilFunc, .i 0] 94)]⟩ .nil (by kernel_rfl) .nil <| ath_n <| aw_seq ?_
 refine aw_region eqok [] [] [(9, cfamilies2)] [1, 2, 4, 5] [1, 2, 4] [Same (cfamilies2).2.1] ⟨[(1, tP 1 0), (2, tP 2 0), (4, tP 4 0), (5, tB true)], [(1, .cells [.i 2, .i a0.X, .i a0.Y, .i a1.X, .i a1.Y, .i a2.X, .i a2.Y] 35), (2, .cells [.val .nilFunc, .val .nilFunc, .val .nilFunc, .i 0] 94), (4, .cells [.clo 101 0 (fun _ => default), .clo 102 0 (fun _ => default), .clo 103 0 (fun _ => default), .i 3] 94)]⟩ (.cons (okfamilies2) .nil) (by kernel_rfl) (.cons rfl .nil) <| ath_n <| aw_seq ?_
 refine aw_draw mixed eqok [] [] [(17, cvecRight a0), (22, cvecRight a1), (27, cvecRight a2), (33, cedgeleftwards (TEdge.mk 2 a0 a1 a2))] [2, 3] [2] [((true) = true) → ((true) = true), ((true) = true) → ((true) = true), ((true) = true) → (Same (cvecRight a0).2.1), (true) = true → ((true) = true), ((FvecRight a0) = true) → ((FvecRight a0) = true), ((FvecRight a0) = true) → ((FvecRight a0) = true), ((FvecRight a0) = true) → (Same (cvecRight a1).2.1), (FvecRight a0) = true → ((FvecRight a0) = true), ((wof2_0 a0 a1) = true) → ((wof2_0 a0 a1) = true), ((wof2_0 a0 a1) = true) → ((wof2_0 a0 a1) = true), ((wof2_0 a0 a1) = true) → (Same (cvecRight a2).2.1), (wof2_0 a0 a1) = true → ((wof2_0 a0 a1) = true), ((wof2_1 a0 a1 a2) = true) → ((wof2_1 a0 a1 a2) = true), ((wof2_1 a0 a1 a2) = true) → ((wof2_1 a0 a1 a2) = true), ((wof2_1 a0 a1 a2) = true) → ((wof2_1 a0 a1 a2) = true), ((wof2_1 a0 a1 a2) = true) → (Same (cedgeleftwards (TEdge.mk 2 a0 a1 a2)).2.1), (wof2_1 a0 a1 a2) = true → ((wof2_1 a0 a1 a2) = true)] ⟨[(2, tP 2 0), (3, tB (wof2_2 a0 a1 a2))], [(2, .cells [.clo 101 0 (fun _ => default), .clo 102 0 (fun _ => default), .clo 103 0 (fun _ => default), .i 3] 94)]⟩ (.cons (okvecRight a0) (.cons (okvecRight a1) (.cons (okvecRight a2) (.cons (okedgeleftwards (TEdge.mk 2 a0 a1 a2)) .nil)))) (by kernel_rfl) (by kernel_rfl) (.cons id (.cons id (.cons (fun _ => rfl) (.cons id (.cons id (.cons id (.cons (fun _ => rfl) (.cons id (.cons id (.cons id (.cons (fun _ => rfl) (.cons id (.cons id (.cons id (.cons id (.cons (fun _ => rfl) (.cons id .nil))))))))))))))))) <| ath_n <| aw_ret ?_
 exact ⟨_, Cv.refl _, .inl rfl, .tup [.agg [.clo 101 0 (fun _ => default), .clo 102 0 (fun _ => default), .clo 103 0 (fun _ => default), .i 3], .one (.b (wof2_2 a0 a1 a2))], by kernel_rfl, tve_eq rfl⟩
theorem okof2 (a0 : TPoint) (a1 : TPoint) (a2 : TPoint) : CallOk Try.prog (cof2 a0 a1 a2).1 (cof2 a0 a1 a2).2.1 (cof2 a0 a1 a2).2.2 := callOk_pure (fun _ _ => by kernel_rfl) fun _ => pof2 a0 a1 a2
def wof3_0 (a0 : TPoint) (a1 : TPoint) : Bool := bif FvecRight a0 then FvecRight a1 else false
def wof3_1 (a0 : TPoint) (a1 : TPoint) (a2 : TPoint) : Bool := bif wof3_0 a0 a1 then FvecRight a2 else false
def wof3_2 (a0 : TPoint) (a1 : TPoint) (a2 : TPoint) : Bool := bif wof3_1 a0 a1 a2 then Fedgerightwards (TEdge.mk 3 a0 a1 a2) else false
def cof3 (a0 : TPoint) (a1 : TPoint) (a2 : TPoint) : FuncId × List Av × Ef := (62, [.agg [.i 3, .i a0.X, .i a0.Y, .i a1.X, .i a1.Y, .i a2.X, .i a2.Y]], .val [] (.tup [.agg [.clo 104 0 (fun _ => default), .clo 102 0 (fun _ => default), .clo 103 0 (fun _ => default), .i 2], .one (.b (wof3_2 a0 a1 a2))]))
theorem pof3 (a0 : TPoint) (a1 : TPoint) (a2 : TPoint) : Pure Try.prog 62 (cof3 a0 a1 a2).2.1 (.tup [.agg [.clo 104 0 (fun _ => default), .clo 102 0 (fun _ => default), .clo 103 0 (fun _ => default), .i 2], .one (.b (wof3_2 a0 a1 a2))]) := by
 refine pure_of_awF Try.func62 rfl (by kernel_rfl) (by kernel_rfl) fun W0 M0 => ?_
 refine aw_seq ?_
 refine aw_region eqok [] [] [] [1, 2] [1, 2] [] ⟨[(1, tP 1 0), (2, tP 2 0)], [(1, .cells [.i 3, .i a0.X, .i a0.Y, .i a1.X, .i a1.Y, .i a2.X, .i a2.Y] 35), (2, .cells [.val .nilFunc, .val .nilFunc, .val .nilFunc, .i 0] 94)]⟩ .nil (by kernel_rfl) .nil <| ath_n <| aw_seq ?_
 refine aw_region eqok [] [] [(9, cfamilies3)] [1, 2, 4, 5] [1, 2, 4] [Same (cfamilies3).2.1] ⟨[(1, tP 1 0), (2, tP 2 0), (4, tP 4 0), (5, tB true)], [(1, .cells [.i 3, .i a0.X, .i a0.Y, .i a1.X, .i a1.Y, .i a2.X, .i a2.Y] 35), (2, .cells [.val .nilFunc, .val .nilFunc, .val .nilFunc, .i 0] 94), (4, .cells [.clo 104 0 (fun _ => default), .clo 102 0 (fun _ => default), .clo 103 0 (fun _ => default), .i 2] 94)]⟩ (.cons (okfamilies3) .nil) (by kernel_rfl) (.cons rfl .nil) <| ath_n <| aw_seq ?_
 refine aw_draw mixed eqok [] [] [(17, cvecRight a0), (22, cvecRight a1), (27, cvecRight a2), (33, cedgerightwards (TEdge.mk 3 a0 a1 a2))] [2, 3] [2] [((true) = true) → ((true) = true), ((true) = true) → ((true) = true), ((true) = true) → (Same (cvecRight a0).2.1), (true) = true → ((true) = true), ((FvecRight a0) = true) → ((FvecRight a0) = true), ((FvecRight a0) = true) → ((FvecRight a0) = true), ((FvecRight a0) = true) → (Same (cvecRight a1).2.1), (FvecRight a0) = true → ((FvecRight a0) = true), ((wof3_0 a0 a1) = true) → ((wof3_0 a0 a1) = true), ((wof3_0 a0 a1) = true) → ((wof3_0 a0 a1) = true), ((wof3_0 a0 a1) = true) → (Same (cvecRight a2).2.1), (wof3_0 a0 a1) = true → ((wof3_0 a0 a1) = true), ((wof3_1 a0 a1 a2) = true) → ((wof3_1 a0 a1 a2) = true), ((wof3_1 a0 a1 a2) = true) → ((wof3_1 a0 a1 a2) = true), ((wof3_1 a0 a1 a2) = true) → ((wof3_1 a0 a1 a2) = true), ((wof3_1 a0 a1 a2) = true) → (Same (cedgerightwards (TEdge.mk 3 a0 a1 a2)).2.1), (wof3_1 a0 a1 a2) = true → ((wof3_1 a0 a1 a2) = true)] ⟨[(2, tP 2 0), (3, tB (wof3_2 a0 a1 a2))], [(2, .cells [.clo 104 0 (fun _ => default), .clo 102 0 (fun _ => default), .clo 103 0 (fun _ => default), .i 2] 94)]⟩ (.cons (okvecRight a0) (.cons (okvecRight a1) (.cons (okvecRight a2) (.cons (okedgerightwards (TEdge.mk 3 a0 a1 a2)) .nil)))) (by kernel_rfl) (by kernel_rfl) (.cons id (.cons id (.cons (fun _ => rfl) (.cons id (.cons id (.cons id (.cons (fun _ => rfl) (.cons id (.cons id (.cons id (.cons (fun _ => rfl) (.cons id (.cons id (.cons id (.cons id (.cons (fun _ => rfl) (.cons id .nil))))))))))))))))) <| ath_n <| aw_ret ?_
 exact ⟨_, Cv.refl _, .inl rfl, .tup [.agg [.clo 104 0 (fun _ => default), .clo 102 0 (fun _ => default), .clo 103 0 (fun _ => default), .i 2], .one (.b (wof3_2 a0 a1 a2))], by kernel_rfl, tve_eq rfl⟩
theorem okof3 (a0 : TPoint) (a1 : TPoint) (a2 : TPoint) : CallOk Try.prog (cof3 a0 a1 a2).1 (cof3 a0 a1 a2).2.1 (cof3 a0 a1 a2).2.2 := callOk_pure (fun _ _ => by kernel_rfl) fun _ => pof3 a0 a1 a2
def cofN (e : TEdge) : FuncId × List Av × Ef := (62, [.agg (TEdge.c e)], .val [] (.tup [.agg [.val .nilFunc, .val .nilFunc, .val .nilFunc, .i e.Kind], .one (.b false)]))
theorem pofN (e : TEdge) (k1 : ¬ e.Kind = 1) (k2 : ¬ e.Kind = 2) (k3 : ¬ e.Kind = 3) : Pure Try.prog 62 (cofN e).2.1 (.tup [.agg [.val .nilFunc, .val .nilFunc, .val .nilFunc, .i e.Kind], .one (.b false)]) := by
 refine pure_of_awF Try.func62 rfl (by kernel_rfl) (by kernel_rfl) fun W0 M0 => ?_
 refine aw_seq ?_
 refine aw_region eqok [] [] [] [1, 2] [1, 2] [] ⟨[(1, tP 1 0), (2, tP 2 0)], [(1, .cells (TEdge.c e) 35), (2, .cells [.val .nilFunc, .val .nilFunc, .val .nilFunc, .i 0] 94)]⟩ .nil (by kernel_rfl) .nil <| ath_n <| aw_seq ?_
 refine aw_region eqok [] [] [(9, cfamiliesN e.Kind)] [1, 2, 4, 5] [1, 2, 4] [Same (cfamiliesN e.Kind).2.1] ⟨[(1, tP 1 0), (2, tP 2 0), (4, tP 4 0), (5, tB false)], [(1, .cells (TEdge.c e) 35), (2, .cells [.val .nilFunc, .val .nilFunc, .val .nilFunc, .i 0] 94), (4, .cells [.val .nilFunc, .val .nilFunc, .val .nilFunc, .i e.Kind] 94)]⟩ (.cons (okfamiliesN e.Kind k1 k2 k3) .nil) (by kernel_rfl) (.cons rfl .nil) <| ath_n <| aw_seq ?_
 refine aw_draw mixed eqok [] [] [(17, cvecRight e.A), (22, cvecRight e.B), (27, cvecRight e.C)] [2, 3] [2] [((false) = true) → ((false) = true), ((false) = true) → ((false) = true), ((false) = true) → (Same (cvecRight e.A).2.1), (false) = true → ((false) = true), ((false) = true) → ((false) = true), ((false) = true) → ((false) = true), ((false) = true) → (Same (cvecRight e.B).2.1), (false) = true → ((false) = true), ((false) = true) → ((false) = true), ((false) = true) → ((false) = true), ((false) = true) → (Same (cvecRight e.C).2.1), (false) = true → ((false) = true), ((false) = true) → ((false) = true), ¬ ((false) = true), (false) = true → ((false) = true)] ⟨[(2, tP 2 0), (3, tB false)], [(2, .cells [.val .nilFunc, .val .nilFunc, .val .nilFunc, .i e.Kind] 94)]⟩ (.cons (okvecRight e.A) (.cons (okvecRight e.B) (.cons (okvecRight e.C) .nil))) (by kernel_rfl) (by kernel_rfl) (.cons id (.cons id (.cons (fun _ => rfl) (.cons id (.cons id (.cons id (.cons (fun _ => rfl) (.cons id (.cons id (.cons id (.cons (fun _ => rfl) (.cons id (.cons id (.cons (by simp) (.cons id .nil))))))))))))))) <| ath_n <| aw_ret ?_
 exact ⟨_, Cv.refl _, .inl rfl, .tup [.agg [.val .nilFunc, .val .nilFunc, .val .nilFunc, .i e.Kind], .one (.b false)], by kernel_rfl, tve_eq rfl⟩
theorem okofN (e : TEdge) (k1 : ¬ e.Kind = 1) (k2 : ¬ e.Kind = 2) (k3 : ¬ e.Kind = 3) : CallOk Try.prog (cofN e).1 (cofN e).2.1 (cofN e).2.2 := callOk_pure (fun _ _ => by kernel_rfl) fun _ => pofN e k1 k2 k3
def wCheck1_0 (a0 : TPoint) (a1 : TPoint) (a2 : TPoint) : Bool := !(bif bif FvecRight a0 then FvecRight a1 else false then FvecRight a2 else false)
def FCheck1 (a0 : TPoint) (a1 : TPoint) (a2 : TPoint) : Int := bif wof1_2 a0 a1 a2 then (0) else (bif wCheck1_0 a0 a1 a2 then (10) else (11))
def cCheck1 (a0 : TPoint) (a1 : TPoint) (a2 : TPoint) : FuncId × List Av × Ef := (54, [.agg [.i 1, .i a0.X, .i a0.Y, .i a1.X, .i a1.Y, .i a2.X, .i a2.Y]], .val [] (.av (.one (.i (FCheck1 a0 a1 a2)))))
theorem pCheck1 (a0 : TPoint) (a1 : TPoint) (a2 : TPoint) : Pure Try.prog 54 (cCheck1 a0 a1 a2).2.1 (.av (.one (.i (FCheck1 a0 a1 a2)))) := by
 refine pure_of_awF Try.func54 rfl (by kernel_rfl) (by kernel_rfl) fun W0 M0 => ?_
 refine aw_seq ?_
 refine aw_region eqok [] [] [] [1] [1] [] ⟨[(1, tP 1 0)], [(1, .cells [.i 1, .i a0.X, .i a0.Y, .i a1.X, .i a1.Y, .i a2.X, .i a2.Y] 35)]⟩ .nil (by kernel_rfl) .nil <| ath_n ?_
 refine aw_seq <| aw_seq ?_
 refine aw_region eqok [] [] [(7, cof1 a0 a1 a2)] [1, 4] [1] [Same (cof1 a0 a1 a2).2.1] ⟨[(1, tP 1 0), (4, tB (wof1_2 a0 a1 a2))], [(1, .cells [.i 1, .i a0.X, .i a0.Y, .i a1.X, .i a1.Y, .i a2.X, .i a2.Y] 35)]⟩ (.cons (okof1 a0 a1 a2) .nil) (by kernel_rfl) (.cons rfl .nil) <| ath_n ?_
 refine aw_block <| aw_seq ?_
 refine aw_region eqok [] [] [] [1, 10] [1] [] ⟨[(1, tP 1 0), (10, tB (wof1_2 a0 a1 a2))], [(1, .cells [.i 1, .i a0.X, .i a0.Y, .i a1.X, .i a1.Y, .i a2.X, .i a2.Y] 35)]⟩ .nil (by kernel_rfl) .nil <| ath_n ?_
 refine aw_cond (wof1_2 a0 a1 a2) (by kernel_rfl) (fun h1 => ?_) (fun h1 => ?_)
 ·refine aw_seq ?_
  refine aw_region eqok [] [] [] [2] [] [] ⟨[(2, tI 0)], []⟩ .nil (by kernel_rfl) .nil <| ath_n ?_
  refine aw_ret <| abl_r <| ath_r ?_
  exact ⟨_, Cv.refl _, .inl rfl, .av (.one (.i 0)), by kernel_rfl, tve_eq (by first | (simp only [FCheck1, h1, cond_true, cond_false]; done) | (simp only [FCheck1, h1, cond_true, cond_false]; rfl))⟩
 ·refine aw_seq ?_
  refine aw_region eqok [] [] [(24, cvecRight a0), (28, cvecRight a1), (33, cvecRight a2)] [12] [] [((true) = true) → ((true) = true), ((true) = true) → ((true) = true), (true) = true → ((true) = true), ((true) = true) → ((true) = true), ((true) = true) → ((true) = true), ((true) = true) → (Same (cvecRight a0).2.1), ((true) = true) → ((true) = true), (((true) = true) ∧ (FvecRight a0) = true) → (((true) = true) ∧ (FvecRight a0) = true), (((true) = true) ∧ (FvecRight a0) = true) → (((true) = true) ∧ (FvecRight a0) = true), (((true) = true) ∧ (FvecRight a0) = true) → (Same (cvecRight a1).2.1), ((true) = true) → ((true) = true), ((true) = true) → ((FvecRight a0) = true → (((true) = true) ∧ (FvecRight a0) = true)), ((true) = true) → ((true) = true), (((true) = true) ∧ (bif FvecRight a0 then FvecRight a1 else false) = true) → (((true) = true) ∧ (bif FvecRight a0 then FvecRight a1 else false) = true), (((true) = true) ∧ (bif FvecRight a0 then FvecRight a1 else false) = true) → (((true) = true) ∧ (bif FvecRight a0 then FvecRight a1 else false) = true), (((true) = true) ∧ (bif FvecRight a0 then FvecRight a1 else false) = true) → (Same (cvecRight a2).2.1), ((true) = true) → ((true) = true), ((true) = true) → ((bif FvecRight a0 then FvecRight a1 else false) = true → (((true) = true) ∧ (bif FvecRight a0 then FvecRight a1 else false) = true)), ((true) = true) → ((true) = true), (true) = true → ((true) = true)] ⟨[(12, tB (wCheck1_0 a0 a1 a2))], []⟩ (.cons (okvecRight a0) (.cons (okvecRight a1) (.cons (okvecRight a2) .nil))) (by kernel_rfl) (.cons id (.cons id (.cons id (.cons id (.cons id (.cons (fun _ => rfl) (.cons id (.cons id (.cons id (.cons (fun _ => rfl) (.cons id (.cons (by intros; first | assumption | exact ⟨by assumption, by assumption⟩ | simp_all) (.cons id (.cons id (.cons id (.cons (fun _ => rfl) (.cons id (.cons (by intros; first | assumption | exact ⟨by assumption, by assumption⟩ | simp_all) (.cons id (.cons id .nil)))))))))))))))))))) <| ath_n ?_
  refine aw_cond (wCheck1_0 a0 a1 a2) (by kernel_rfl) (fun h2 => ?_) (fun h2 => ?_)
  ·refine aw_seq ?_
   refine aw_region eqok [] [] [] [2] [] [] ⟨[(2, tI 10)], []⟩ .nil (by kernel_rfl) .nil <| ath_n ?_
   refine aw_ret <| abl_r <| ath_r ?_
   exact ⟨_, Cv.refl _, .inl rfl, .av (.one (.i 10)), by kernel_rfl, tve_eq (by first | (simp only [FCheck1, h1, h2, cond_true, cond_false]; done) | (simp only [FCheck1, h1, h2, cond_true, cond_false]; rfl))⟩
  ·refine aw_skip <| abl_n ?_
   refine ath_n <| aw_seq ?_
   refine aw_region eqok [] [] [] [2] [] [] ⟨[(2, tI 11)], []⟩ .nil (by kernel_rfl) .nil <| ath_n <| aw_ret ?_
   exact ⟨_, Cv.refl _, .inl rfl, .av (.one (.i 11)), by kernel_rfl, tve_eq (by first | (simp only [FCheck1, h1, h2, cond_true, cond_false]; done) | (simp only [FCheck1, h1, h2, cond_true, cond_false]; rfl))⟩
def wCheck2_0 (a0 : TPoint) (a1 : TPoint) (a2 : TPoint) : Bool := !(bif bif FvecRight a0 then FvecRight a1 else false then FvecRight a2 else false)
def FCheck2 (a0 : TPoint) (a1 : TPoint) (a2 : TPoint) : Int := bif wof2_2 a0 a1 a2 then (0) else (bif wCheck2_0 a0 a1 a2 then (10) else (11))
def cCheck2 (a0 : TPoint) (a1 : TPoint) (a2 : TPoint) : FuncId × List Av × Ef := (54, [.agg [.i 2, .i a0.X, .i a0.Y, .i a1.X, .i a1.Y, .i a2.X, .i a2.Y]], .val [] (.av (.one (.i (FCheck2 a0 a1 a2)))))
theorem pCheck2 (a0 : TPoint) (a1 : TPoint) (a2 : TPoint) : Pure Try.prog 54 (cCheck2 a0 a1 a2).2.1 (.av (.one (.i (FCheck2 a0 a1 a2)))) := by
 refine pure_of_awF Try.func54 rfl (by kernel_rfl) (by kernel_rfl) fun W0 M0 => ?_
 refine aw_seq ?_
 refine aw_region eqok [] [] [] [1] [1] [] ⟨[(1, tP 1 0)], [(1, .cells [.i 2, .i a0.X, .i a0.Y, .i a1.X, .i a1.Y, .i a2.X, .i a2.Y] 35)]⟩ .nil (by kernel_rfl) .nil <| ath_n ?_
 refine aw_seq <| aw_seq ?_
 refine aw_region eqok [] [] [(7, cof2 a0 a1 a2)] [1, 4] [1] [Same (cof2 a0 a1 a2).2.1] ⟨[(1, tP 1 0), (4, tB (wof2_2 a0 a1 a2))], [(1, .cells [.i 2, .i a0.X, .i a0.Y, .i a1.X, .i a1.Y, .i a2.X, .i a2.Y] 35)]⟩ (.cons (okof2 a0 a1 a2) .nil) (by kernel_rfl) (.cons rfl .nil) <| ath_n ?_
 refine aw_block <| aw_seq ?_
 refine aw_region eqok [] [] [] [1, 10] [1] [] ⟨[(1, tP 1 0), (10, tB (wof2_2 a0 a1 a2))], [(1, .cells [.i 2, .i a0.X, .i a0.Y, .i a1.X, .i a1.Y, .i a2.X, .i a2.Y] 35)]⟩ .nil (by kernel_rfl) .nil <| ath_n ?_
 refine aw_cond (wof2_2 a0 a1 a2) (by kernel_rfl) (fun h1 => ?_) (fun h1 => ?_)
 ·refine aw_seq ?_
  refine aw_region eqok [] [] [] [2] [] [] ⟨[(2, tI 0)], []⟩ .nil (by kernel_rfl) .nil <| ath_n ?_
  refine aw_ret <| abl_r <| ath_r ?_
  exact ⟨_, Cv.refl _, .inl rfl, .av (.one (.i 0)), by kernel_rfl, tve_eq (by first | (simp only [FCheck2, h1, cond_true, cond_false]; done) | (simp only [FCheck2, h1, cond_true, cond_false]; rfl))⟩
 ·refine aw_seq ?_
  refine aw_region eqok [] [] [(24, cvecRight a0), (28, cvecRight a1), (33, cvecRight a2)] [12] [] [((true) = true) → ((true) = true), ((true) = true) → ((true) = true), (true) = true → ((true) = true), ((true) = true) → ((true) = true), ((true) = true) → ((true) = true), ((true) = true) → (Same (cvecRight a0).2.1), ((true) = true) → ((true) = true), (((true) = true) ∧ (FvecRight a0) = true) → (((true) = true) ∧ (FvecRight a0) = true), (((true) = true) ∧ (FvecRight a0) = true) → (((true) = true) ∧ (FvecRight a0) = true), (((true) = true) ∧ (FvecRight a0) = true) → (Same (cvecRight a1).2.1), ((true) = true) → ((true) = true), ((true) = true) → ((FvecRight a0) = true → (((true) = true) ∧ (FvecRight a0) = true)), ((true) = true) → ((true) = true), (((true) = true) ∧ (bif FvecRight a0 then FvecRight a1 else false) = true) → (((true) = true) ∧ (bif FvecRight a0 then FvecRight a1 else false) = true), (((true) = true) ∧ (bif FvecRight a0 then FvecRight a1 else false) = true) → (((true) = true) ∧ (bif FvecRight a0 then FvecRight a1 else false) = true), (((true) = true) ∧ (bif FvecRight a0 then FvecRight a1 else false) = true) → (Same (cvecRight a2).2.1), ((true) = true) → ((true) = true), ((true) = true) → ((bif FvecRight a0 then FvecRight a1 else false) = true → (((true) = true) ∧ (bif FvecRight a0 then FvecRight a1 else false) = true)), ((true) = true) → ((true) = true), (true) = true → ((true) = true)] ⟨[(12, tB (wCheck2_0 a0 a1 a2))], []⟩ (.cons (okvecRight a0) (.cons (okvecRight a1) (.cons (okvecRight a2) .nil))) (by kernel_rfl) (.cons id (.cons id (.cons id (.cons id (.cons id (.cons (fun _ => rfl) (.cons id (.cons id (.cons id (.cons (fun _ => rfl) (.cons id (.cons (by intros; first | assumption | exact ⟨by assumption, by assumption⟩ | simp_all) (.cons id (.cons id (.cons id (.cons (fun _ => rfl) (.cons id (.cons (by intros; first | assumption | exact ⟨by assumption, by assumption⟩ | simp_all) (.cons id (.cons id .nil)))))))))))))))))))) <| ath_n ?_
  refine aw_cond (wCheck2_0 a0 a1 a2) (by kernel_rfl) (fun h2 => ?_) (fun h2 => ?_)
  ·refine aw_seq ?_
   refine aw_region eqok [] [] [] [2] [] [] ⟨[(2, tI 10)], []⟩ .nil (by kernel_rfl) .nil <| ath_n ?_
   refine aw_ret <| abl_r <| ath_r ?_
   exact ⟨_, Cv.refl _, .inl rfl, .av (.one (.i 10)), by kernel_rfl, tve_eq (by first | (simp only [FCheck2, h1, h2, cond_true, cond_false]; done) | (simp only [FCheck2, h1, h2, cond_true, cond_false]; rfl))⟩
  ·refine aw_skip <| abl_n ?_
   refine ath_n <| aw_seq ?_
   refine aw_region eqok [] [] [] [2] [] [] ⟨[(2, tI 11)], []⟩ .nil (by kernel_rfl) .nil <| ath_n <| aw_ret ?_
   exact ⟨_, Cv.refl _, .inl rfl, .av (.one (.i 11)), by kernel_rfl, tve_eq (by first | (simp only [FCheck2, h1, h2, cond_true, cond_false]; done) | (simp only [FCheck2, h1, h2, cond_true, cond_false]; rfl))⟩
def wCheck3_0 (a0 : TPoint) (a1 : TPoint) (a2 : TPoint) : Bool := !(bif bif FvecRight a0 then FvecRight a1 else false then FvecRight a2 else false)
def FCheck3 (a0 : TPoint) (a1 : TPoint) (a2 : TPoint) : Int := bif wof3_2 a0 a1 a2 then (0) else (bif wCheck3_0 a0 a1 a2 then (10) else (11))
def cCheck3 (a0 : TPoint) (a1 : TPoint) (a2 : TPoint) : FuncId × List Av × Ef := (54, [.agg [.i 3, .i a0.X, .i a0.Y, .i a1.X, .i a1.Y, .i a2.X, .i a2.Y]], .val [] (.av (.one (.i (FCheck3 a0 a1 a2)))))
theorem pCheck3 (a0 : TPoint) (a1 : TPoint) (a2 : TPoint) : Pure Try.prog 54 (cCheck3 a0 a1 a2).2.1 (.av (.one (.i (FCheck3 a0 a1 a2)))) := by
 refine pure_of_awF Try.func54 rfl (by kernel_rfl) (by kernel_rfl) fun W0 M0 => ?_
 refine aw_seq ?_
 refine aw_region eqok [] [] [] [1] [1] [] ⟨[(1, tP 1 0)], [(1, .cells [.i 3, .i a0.X, .i a0.Y, .i a1.X, .i a1.Y, .i a2.X, .i a2.Y] 35)]⟩ .nil (by kernel_rfl) .nil <| ath_n ?_
 refine aw_seq <| aw_seq ?_
 refine aw_region eqok [] [] [(7, cof3 a0 a1 a2)] [1, 4] [1] [Same (cof3 a0 a1 a2).2.1] ⟨[(1, tP 1 0), (4, tB (wof3_2 a0 a1 a2))], [(1, .cells [.i 3, .i a0.X, .i a0.Y, .i a1.X, .i a1.Y, .i a2.X, .i a2.Y] 35)]⟩ (.cons (okof3 a0 a1 a2) .nil) (by kernel_rfl) (.cons rfl .nil) <| ath_n ?_
 refine aw_block <| aw_seq ?_
 refine aw_region eqok [] [] [] [1, 10] [1] [] ⟨[(1, tP 1 0), (10, tB (wof3_2 a0 a1 a2))], [(1, .cells [.i 3, .i a0.X, .i a0.Y, .i a1.X, .i a1.Y, .i a2.X, .i a2.Y] 35)]⟩ .nil (by kernel_rfl) .nil <| ath_n ?_
 refine aw_cond (wof3_2 a0 a1 a2) (by kernel_rfl) (fun h1 => ?_) (fun h1 => ?_)
 ·refine aw_seq ?_
  refine aw_region eqok [] [] [] [2] [] [] ⟨[(2, tI 0)], []⟩ .nil (by kernel_rfl) .nil <| ath_n ?_
  refine aw_ret <| abl_r <| ath_r ?_
  exact ⟨_, Cv.refl _, .inl rfl, .av (.one (.i 0)), by kernel_rfl, tve_eq (by first | (simp only [FCheck3, h1, cond_true, cond_false]; done) | (simp only [FCheck3, h1, cond_true, cond_false]; rfl))⟩
 ·refine aw_seq ?_
  refine aw_region eqok [] [] [(24, cvecRight a0), (28, cvecRight a1), (33, cvecRight a2)] [12] [] [((true) = true) → ((true) = true), ((true) = true) → ((true) = true), (true) = true → ((true) = true), ((true) = true) → ((true) = true), ((true) = true) → ((true) = true), ((true) = true) → (Same (cvecRight a0).2.1), ((true) = true) → ((true) = true), (((true) = true) ∧ (FvecRight a0) = true) → (((true) = true) ∧ (FvecRight a0) = true), (((true) = true) ∧ (FvecRight a0) = true) → (((true) = true) ∧ (FvecRight a0) = true), (((true) = true) ∧ (FvecRight a0) = true) → (Same (cvecRight a1).2.1), ((true) = true) → ((true) = true), ((true) = true) → ((FvecRight a0) = true → (((true) = true) ∧ (FvecRight a0) = true)), ((true) = true) → ((true) = true), (((true) = true) ∧ (bif FvecRight a0 then FvecRight a1 else false) = true) → (((true) = true) ∧ (bif FvecRight a0 then FvecRight a1 else false) = true), (((true) = true) ∧ (bif FvecRight a0 then FvecRight a1 else false) = true) → (((true) = true) ∧ (bif FvecRight a0 then FvecRight a1 else false) = true), (((true) = true) ∧ (bif FvecRight a0 then FvecRight a1 else false) = true) → (Same (cvecRight a2).2.1), ((true) = true) → ((true) = true), ((true) = true) → ((bif FvecRight a0 then FvecRight a1 else false) = true → (((true) = true) ∧ (bif FvecRight a0 then FvecRight a1 else false) = true)), ((true) = true) → ((true) = true), (true) = true → ((true) = true)] ⟨[(12, tB (wCheck3_0 a0 a1 a2))], []⟩ (.cons (okvecRight a0) (.cons (okvecRight a1) (.cons (okvecRight a2) .nil))) (by kernel_rfl) (.cons id (.cons id (.cons id (.cons id (.cons id (.cons (fun _ => rfl) (.cons id (.cons id (.cons id (.cons (fun _ => rfl) (.cons id (.cons (by intros; first | assumption | exact ⟨by assumption, by assumption⟩ | simp_all) (.cons id (.cons id (.cons id (.cons (fun _ => rfl) (.cons id (.cons (by intros; first | assumption | exact ⟨by assumption, by assumption⟩ | simp_all) (.cons id (.cons id .nil)))))))))))))))))))) <| ath_n ?_
  refine aw_cond (wCheck3_0 a0 a1 a2) (by kernel_rfl) (fun h2 => ?_) (fun h2 => ?_)
  ·refine aw_seq ?_
   refine aw_region eqok [] [] [] [2] [] [] ⟨[(2, tI 10)], []⟩ .nil (by kernel_rfl) .nil <| ath_n ?_
   refine aw_ret <| abl_r <| ath_r ?_
   exact ⟨_, Cv.refl _, .inl rfl, .av (.one (.i 10)), by kernel_rfl, tve_eq (by first | (simp only [FCheck3, h1, h2, cond_true, cond_false]; done) | (simp only [FCheck3, h1, h2, cond_true, cond_false]; rfl))⟩
  ·refine aw_skip <| abl_n ?_
   refine ath_n <| aw_seq ?_
   refine aw_region eqok [] [] [] [2] [] [] ⟨[(2, tI 11)], []⟩ .nil (by kernel_rfl) .nil <| ath_n <| aw_ret ?_
   exact ⟨_, Cv.refl _, .inl rfl, .av (.one (.i 11)), by kernel_rfl, tve_eq (by first | (simp only [FCheck3, h1, h2, cond_true, cond_false]; done) | (simp only [FCheck3, h1, h2, cond_true, cond_false]; rfl))⟩
def FCheckN (e : TEdge) : Int := bif bif bif decide ((1 : Int) ≤ e.Kind) then decide ((e.Kind : Int) ≤ 3) else false then !(bif bif FvecRight e.A then FvecRight e.B else false then FvecRight e.C else false) else false then (10) else (11)
def cCheckN (e : TEdge) : FuncId × List Av × Ef := (54, [.agg (TEdge.c e)], .val [] (.av (.one (.i (FCheckN e)))))
theorem pCheckN (e : TEdge) (k1 : ¬ e.Kind = 1) (k2 : ¬ e.Kind = 2) (k3 : ¬ e.Kind = 3) : Pure Try.prog 54 (cCheckN e).2.1 (.av (.one (.i (FCheckN e)))) := by
 refine pure_of_awF Try.func54 rfl (by kernel_rfl) (by kernel_rfl) fun W0 M0 => ?_
 refine aw_seq ?_
 refine aw_region eqok [] [] [] [1] [1] [] ⟨[(1, tP 1 0)], [(1, .cells (TEdge.c e) 35)]⟩ .nil (by kernel_rfl) .nil <| ath_n ?_
 refine aw_seq <| aw_seq ?_
 refine aw_region eqok [] [] [(7, cofN e)] [1, 4] [1] [Same (cofN e).2.1] ⟨[(1, tP 1 0), (4, tB false)], [(1, .cells (TEdge.c e) 35)]⟩ (.cons (okofN e k1 k2 k3) .nil) (by kernel_rfl) (.cons rfl .nil) <| ath_n ?_
 refine aw_block <| aw_seq ?_
 refine aw_region eqok [] [] [] [1, 10] [1] [] ⟨[(1, tP 1 0), (10, tB false)], [(1, .cells (TEdge.c e) 35)]⟩ .nil (by kernel_rfl) .nil <| ath_n ?_
 refine aw_cond_f (by kernel_rfl) <| aw_seq ?_
 refine aw_region eqok [] [] [(24, cvecRight e.A), (28, cvecRight e.B), (33, cvecRight e.C)] [12] [] [((decide ((1 : Int) ≤ e.Kind)) = true) → ((decide ((1 : Int) ≤ e.Kind)) = true), ((decide ((1 : Int) ≤ e.Kind)) = true) → ((decide ((1 : Int) ≤ e.Kind)) = true), (decide ((1 : Int) ≤ e.Kind)) = true → ((decide ((1 : Int) ≤ e.Kind)) = true), ((bif decide ((1 : Int) ≤ e.Kind) then decide ((e.Kind : Int) ≤ 3) else false) = true) → ((bif decide ((1 : Int) ≤ e.Kind) then decide ((e.Kind : Int) ≤ 3) else false) = true), ((bif decide ((1 : Int) ≤ e.Kind) then decide ((e.Kind : Int) ≤ 3) else false) = true) → ((bif decide ((1 : Int) ≤ e.Kind) then decide ((e.Kind : Int) ≤ 3) else false) = true), ((bif decide ((1 : Int) ≤ e.Kind) then decide ((e.Kind : Int) ≤ 3) else false) = true) → (Same (cvecRight e.A).2.1), ((bif decide ((1 : Int) ≤ e.Kind) then decide ((e.Kind : Int) ≤ 3) else false) = true) → ((bif decide ((1 : Int) ≤ e.Kind) then decide ((e.Kind : Int) ≤ 3) else false) = true), (((bif decide ((1 : Int) ≤ e.Kind) then decide ((e.Kind : Int) ≤ 3) else false) = true) ∧ (FvecRight e.A) = true) → (((bif decide ((1 : Int) ≤ e.Kind) then decide ((e.Kind : Int) ≤ 3) else false) = true) ∧ (FvecRight e.A) = true), (((bif decide ((1 : Int) ≤ e.Kind) then decide ((e.Kind : Int) ≤ 3) else false) = true) ∧ (FvecRight e.A) = true) → (((bif decide ((1 : Int) ≤ e.Kind) then decide ((e.Kind : Int) ≤ 3) else false) = true) ∧ (FvecRight e.A) = true), (((bif decide ((1 : Int) ≤ e.Kind) then decide ((e.Kind : Int) ≤ 3) else false) = true) ∧ (FvecRight e.A) = true) → (Same (cvecRight e.B).2.1), ((bif decide ((1 : Int) ≤ e.Kind) then decide ((e.Kind : Int) ≤ 3) else false) = true) → ((bif decide ((1 : Int) ≤ e.Kind) then decide ((e.Kind : Int) ≤ 3) else false) = true), ((bif decide ((1 : Int) ≤ e.Kind) then decide ((e.Kind : Int) ≤ 3) else false) = true) → ((FvecRight e.A) = true → (((bif decide ((1 : Int) ≤ e.Kind) then decide ((e.Kind : Int) ≤ 3) else false) = true) ∧ (FvecRight e.A) = true)), ((bif decide ((1 : Int) ≤ e.Kind) then decide ((e.Kind : Int) ≤ 3) else false) = true) → ((bif decide ((1 : Int) ≤ e.Kind) then decide ((e.Kind : Int) ≤ 3) else false) = true), (((bif decide ((1 : Int) ≤ e.Kind) then decide ((e.Kind : Int) ≤ 3) else false) = true) ∧ (bif FvecRight e.A then FvecRight e.B else false) = true) → (((bif decide ((1 : Int) ≤ e.Kind) then decide ((e.Kind : Int) ≤ 3) else false) = true) ∧ (bif FvecRight e.A then FvecRight e.B else false) = true), (((bif decide ((1 : Int) ≤ e.Kind) then decide ((e.Kind : Int) ≤ 3) else false) = true) ∧ (bif FvecRight e.A then FvecRight e.B else false) = true) → (((bif decide ((1 : Int) ≤ e.Kind) then decide ((e.Kind : Int) ≤ 3) else false) = true) ∧ (bif FvecRight e.A then FvecRight e.B else false) = true), (((bif decide ((1 : Int) ≤ e.Kind) then decide ((e.Kind : Int) ≤ 3) else false) = true) ∧ (bif FvecRight e.A then FvecRight e.B else false) = true) → (Same (cvecRight e.C).2.1), ((bif decide ((1 : Int) ≤ e.Kind) then decide ((e.Kind : Int) ≤ 3) else false) = true) → ((bif decide ((1 : Int) ≤ e.Kind) then decide ((e.Kind : Int) ≤ 3) else false) = true), ((bif decide ((1 : Int) ≤ e.Kind) then decide ((e.Kind : Int) ≤ 3) else false) = true) → ((bif FvecRight e.A then FvecRight e.B else false) = true → (((bif decide ((1 : Int) ≤ e.Kind) then decide ((e.Kind : Int) ≤ 3) else false) = true) ∧ (bif FvecRight e.A then FvecRight e.B else false) = true)), ((bif decide ((1 : Int) ≤ e.Kind) then decide ((e.Kind : Int) ≤ 3) else false) = true) → ((bif decide ((1 : Int) ≤ e.Kind) then decide ((e.Kind : Int) ≤ 3) else false) = true), (bif decide ((1 : Int) ≤ e.Kind) then decide ((e.Kind : Int) ≤ 3) else false) = true → ((bif decide ((1 : Int) ≤ e.Kind) then decide ((e.Kind : Int) ≤ 3) else false) = true)] ⟨[(12, tB (bif bif decide ((1 : Int) ≤ e.Kind) then decide ((e.Kind : Int) ≤ 3) else false then !(bif bif FvecRight e.A then FvecRight e.B else false then FvecRight e.C else false) else false))], []⟩ (.cons (okvecRight e.A) (.cons (okvecRight e.B) (.cons (okvecRight e.C) .nil))) (by kernel_rfl) (.cons id (.cons id (.cons id (.cons id (.cons id (.cons (fun _ => rfl) (.cons id (.cons id (.cons id (.cons (fun _ => rfl) (.cons id (.cons (by intros; first | assumption | exact ⟨by assumption, by assumption⟩ | simp_all) (.cons id (.cons id (.cons id (.cons (fun _ => rfl) (.cons id (.cons (by intros; first | assumption | exact ⟨by assumption, by assumption⟩ | simp_all) (.cons id (.cons id .nil)))))))))))))))))))) <| ath_n ?_
 refine aw_cond (bif bif decide ((1 : Int) ≤ e.Kind) then decide ((e.Kind : Int) ≤ 3) else false then !(bif bif FvecRight e.A then FvecRight e.B else false then FvecRight e.C else false) else false) (by kernel_rfl) (fun h4 => ?_) (fun h4 => ?_)
 ·refine aw_seq ?_
  refine aw_region eqok [] [] [] [2] [] [] ⟨[(2, tI 10)], []⟩ .nil (by kernel_rfl) .nil <| ath_n ?_
  refine aw_ret <| abl_r <| ath_r ?_
  exact ⟨_, Cv.refl _, .inl rfl, .av (.one (.i 10)), by kernel_rfl, tve_eq (by first | (simp only [FCheckN, h4, cond_true, cond_false]; done) | (simp only [FCheckN, h4, cond_true, cond_false]; rfl))⟩
 ·refine aw_skip <| abl_n ?_
  refine ath_n <| aw_seq ?_
  refine aw_region eqok [] [] [] [2] [] [] ⟨[(2, tI 11)], []⟩ .nil (by kernel_rfl) .nil <| ath_n <| aw_ret ?_
  exact ⟨_, Cv.refl _, .inl rfl, .av (.one (.i 11)), by kernel_rfl, tve_eq (by first | (simp only [FCheckN, h4, cond_true, cond_false]; done) | (simp only [FCheckN, h4, cond_true, cond_false]; rfl))⟩
def FCheck (e : TEdge)  : Int := if e.Kind = 1 then FCheck1 e.A e.B e.C  else if e.Kind = 2 then FCheck2 e.A e.B e.C  else if e.Kind = 3 then FCheck3 e.A e.B e.C  else FCheckN e
def cCheck (e : TEdge)  : FuncId × List Av × Ef := (54, [.agg (TEdge.c e)], .val [] (.av (.one (.i (FCheck e )))))
theorem pCheck (e : TEdge)  : Pure Try.prog 54 (cCheck e ).2.1 (.av (.one (.i (FCheck e )))) := by
 by_cases k1 : e.Kind = 1
 ·have hF : FCheck e  = FCheck1 e.A e.B e.C  := by unfold FCheck; rw [if_pos k1]
  rw [hF]; obtain ⟨k, a0, a1, a2⟩ := e; simp only at k1; subst k1; exact pCheck1 a0 a1 a2 
 by_cases k2 : e.Kind = 2
 ·have hF : FCheck e  = FCheck2 e.A e.B e.C  := by unfold FCheck; rw [if_neg k1]; rw [if_pos k2]
  rw [hF]; obtain ⟨k, a0, a1, a2⟩ := e; simp only at k2; subst k2; exact pCheck2 a0 a1 a2 
 by_cases k3 : e.Kind = 3
 ·have hF : FCheck e  = FCheck3 e.A e.B e.C  := by unfold FCheck; rw [if_neg k1]; rw [if_neg k2]; rw [if_pos k3]
  rw [hF]; obtain ⟨k, a0, a1, a2⟩ := e; simp only at k3; subst k3; exact pCheck3 a0 a1 a2 
 have hF : FCheck e  = FCheckN e  := by unfold FCheck; rw [if_neg k1, if_neg k2, if_neg k3]
 rw [hF]; exact pCheckN e  k1 k2 k3
theorem okCheck (e : TEdge)  : CallOk Try.prog (cCheck e ).1 (cCheck e ).2.1 (cCheck e ).2.2 := callOk_pure (fun _ _ => by kernel_rfl) fun _ => pCheck e
def wRadius1_0 (a0 : TPoint) (a1 : TPoint) (a2 : TPoint) : Bool := bif !(wof1_2 a0 a1 a2) then true else true
def FRadius1 (a0 : TPoint) (a1 : TPoint) (a2 : TPoint) : Int := bif wRadius1_0 a0 a1 a2 then (0) else (max (max (max ((FvecSub a0 a2).X) (W64 (0 - ((FvecSub a0 a2).X)))) ((FvecSub a0 a2).Y)) (W64 (0 - ((FvecSub a0 a2).Y))))
def cRadius1 (a0 : TPoint) (a1 : TPoint) (a2 : TPoint) : FuncId × List Av × Ef := (72, [.agg [.i 1, .i a0.X, .i a0.Y, .i a1.X, .i a1.Y, .i a2.X, .i a2.Y]], .val [] (.av (.one (.i (FRadius1 a0 a1 a2)))))
theorem pRadius1 (a0 : TPoint) (a1 : TPoint) (a2 : TPoint) : Pure Try.prog 72 (cRadius1 a0 a1 a2).2.1 (.av (.one (.i (FRadius1 a0 a1 a2)))) := by
 refine pure_of_awF Try.func72 rfl (by kernel_rfl) (by kernel_rfl) fun W0 M0 => ?_
 refine aw_seq ?_
 refine aw_region eqok [] [] [] [1] [1] [] ⟨[(1, tP 1 0)], [(1, .cells [.i 1, .i a0.X, .i a0.Y, .i a1.X, .i a1.Y, .i a2.X, .i a2.Y] 35)]⟩ .nil (by kernel_rfl) .nil <| ath_n ?_
 refine aw_seq <| aw_seq ?_
 refine aw_region eqok [] [] [(8, cof1 a0 a1 a2)] [1, 4] [1] [Same (cof1 a0 a1 a2).2.1] ⟨[(1, tP 1 0), (4, tB (wof1_2 a0 a1 a2))], [(1, .cells [.i 1, .i a0.X, .i a0.Y, .i a1.X, .i a1.Y, .i a2.X, .i a2.Y] 35)]⟩ (.cons (okof1 a0 a1 a2) .nil) (by kernel_rfl) (.cons rfl .nil) <| ath_n <| aw_seq ?_
 refine aw_region eqok [] [] [] [1, 17] [1] [((!(wof1_2 a0 a1 a2)) = false) → ((!(wof1_2 a0 a1 a2)) = false), ((!(wof1_2 a0 a1 a2)) = false) → ((!(wof1_2 a0 a1 a2)) = false), (!(wof1_2 a0 a1 a2)) = false → ((!(wof1_2 a0 a1 a2)) = false)] ⟨[(1, tP 1 0), (17, tB (wRadius1_0 a0 a1 a2))], [(1, .cells [.i 1, .i a0.X, .i a0.Y, .i a1.X, .i a1.Y, .i a2.X, .i a2.Y] 35)]⟩ .nil (by kernel_rfl) (.cons id (.cons id (.cons id .nil))) <| ath_n ?_
 refine aw_cond (wRadius1_0 a0 a1 a2) (by kernel_rfl) (fun h1 => ?_) (fun h1 => ?_)
 ·refine aw_seq ?_
  refine aw_region eqok [] [] [] [2] [] [] ⟨[(2, tI 0)], []⟩ .nil (by kernel_rfl) .nil <| ath_n ?_
  refine aw_ret <| ath_r ?_
  exact ⟨_, Cv.refl _, .inl rfl, .av (.one (.i 0)), by kernel_rfl, tve_eq (by first | (simp only [FRadius1, h1, cond_true, cond_false]; done) | (simp only [FRadius1, h1, cond_true, cond_false]; rfl))⟩
 ·refine aw_skip <| ath_n <| aw_seq ?_
  refine aw_region eqok [] [] [(22, cvecSub a0 a2)] [5] [5] [Same (cvecSub a0 a2).2.1] ⟨[(5, tP 5 0)], [(5, .cells (TPoint.c (FvecSub a0 a2)) 29)]⟩ (.cons (okvecSub a0 a2) .nil) (by kernel_rfl) (.cons rfl .nil) <| ath_n <| aw_seq ?_
  refine aw_region eqok [] [] [] [2] [] [] ⟨[(2, tI (max (max (max ((FvecSub a0 a2).X) (W64 (0 - ((FvecSub a0 a2).X)))) ((FvecSub a0 a2).Y)) (W64 (0 - ((FvecSub a0 a2).Y)))))], []⟩ .nil (by kernel_rfl) .nil <| ath_n <| aw_ret ?_
  exact ⟨_, Cv.refl _, .inl rfl, .av (.one (.i (max (max (max ((FvecSub a0 a2).X) (W64 (0 - ((FvecSub a0 a2).X)))) ((FvecSub a0 a2).Y)) (W64 (0 - ((FvecSub a0 a2).Y)))))), by kernel_rfl, tve_eq (by first | (simp only [FRadius1, h1, cond_true, cond_false]; done) | (simp only [FRadius1, h1, cond_true, cond_false]; rfl))⟩
def wRadius2_0 (a0 : TPoint) (a1 : TPoint) (a2 : TPoint) : Bool := bif !(wof2_2 a0 a1 a2) then true else false
def FRadius2 (a0 : TPoint) (a1 : TPoint) (a2 : TPoint) : Int := bif wRadius2_0 a0 a1 a2 then (0) else (max (max (max ((FvecSub a0 a2).X) (W64 (0 - ((FvecSub a0 a2).X)))) ((FvecSub a0 a2).Y)) (W64 (0 - ((FvecSub a0 a2).Y))))
def cRadius2 (a0 : TPoint) (a1 : TPoint) (a2 : TPoint) : FuncId × List Av × Ef := (72, [.agg [.i 2, .i a0.X, .i a0.Y, .i a1.X, .i a1.Y, .i a2.X, .i a2.Y]], .val [] (.av (.one (.i (FRadius2 a0 a1 a2)))))
theorem pRadius2 (a0 : TPoint) (a1 : TPoint) (a2 : TPoint) : Pure Try.prog 72 (cRadius2 a0 a1 a2).2.1 (.av (.one (.i (FRadius2 a0 a1 a2)))) := by
 refine pure_of_awF Try.func72 rfl (by kernel_rfl) (by kernel_rfl) fun W0 M0 => ?_
 refine aw_seq ?_
 refine aw_region eqok [] [] [] [1] [1] [] ⟨[(1, tP 1 0)], [(1, .cells [.i 2, .i a0.X, .i a0.Y, .i a1.X, .i a1.Y, .i a2.X, .i a2.Y] 35)]⟩ .nil (by kernel_rfl) .nil <| ath_n ?_
 refine aw_seq <| aw_seq ?_
 refine aw_region eqok [] [] [(8, cof2 a0 a1 a2)] [1, 4] [1] [Same (cof2 a0 a1 a2).2.1] ⟨[(1, tP 1 0), (4, tB (wof2_2 a0 a1 a2))], [(1, .cells [.i 2, .i a0.X, .i a0.Y, .i a1.X, .i a1.Y, .i a2.X, .i a2.Y] 35)]⟩ (.cons (okof2 a0 a1 a2) .nil) (by kernel_rfl) (.cons rfl .nil) <| ath_n <| aw_seq ?_
 refine aw_region eqok [] [] [] [1, 17] [1] [((!(wof2_2 a0 a1 a2)) = false) → ((!(wof2_2 a0 a1 a2)) = false), ((!(wof2_2 a0 a1 a2)) = false) → ((!(wof2_2 a0 a1 a2)) = false), (!(wof2_2 a0 a1 a2)) = false → ((!(wof2_2 a0 a1 a2)) = false)] ⟨[(1, tP 1 0), (17, tB (wRadius2_0 a0 a1 a2))], [(1, .cells [.i 2, .i a0.X, .i a0.Y, .i a1.X, .i a1.Y, .i a2.X, .i a2.Y] 35)]⟩ .nil (by kernel_rfl) (.cons id (.cons id (.cons id .nil))) <| ath_n ?_
 refine aw_cond (wRadius2_0 a0 a1 a2) (by kernel_rfl) (fun h1 => ?_) (fun h1 => ?_)
 ·refine aw_seq ?_
  refine aw_region eqok [] [] [] [2] [] [] ⟨[(2, tI 0)], []⟩ .nil (by kernel_rfl) .nil <| ath_n ?_
  refine aw_ret <| ath_r ?_
  exact ⟨_, Cv.refl _, .inl rfl, .av (.one (.i 0)), by kernel_rfl, tve_eq (by first | (simp only [FRadius2, h1, cond_true, cond_false]; done) | (simp only [FRadius2, h1, cond_true, cond_false]; rfl))⟩
 ·refine aw_skip <| ath_n <| aw_seq ?_
  refine aw_region eqok [] [] [(22, cvecSub a0 a2)] [5] [5] [Same (cvecSub a0 a2).2.1] ⟨[(5, tP 5 0)], [(5, .cells (TPoint.c (FvecSub a0 a2)) 29)]⟩ (.cons (okvecSub a0 a2) .nil) (by kernel_rfl) (.cons rfl .nil) <| ath_n <| aw_seq ?_
  refine aw_region eqok [] [] [] [2] [] [] ⟨[(2, tI (max (max (max ((FvecSub a0 a2).X) (W64 (0 - ((FvecSub a0 a2).X)))) ((FvecSub a0 a2).Y)) (W64 (0 - ((FvecSub a0 a2).Y)))))], []⟩ .nil (by kernel_rfl) .nil <| ath_n <| aw_ret ?_
  exact ⟨_, Cv.refl _, .inl rfl, .av (.one (.i (max (max (max ((FvecSub a0 a2).X) (W64 (0 - ((FvecSub a0 a2).X)))) ((FvecSub a0 a2).Y)) (W64 (0 - ((FvecSub a0 a2).Y)))))), by kernel_rfl, tve_eq (by first | (simp only [FRadius2, h1, cond_true, cond_false]; done) | (simp only [FRadius2, h1, cond_true, cond_false]; rfl))⟩
def wRadius3_0 (a0 : TPoint) (a1 : TPoint) (a2 : TPoint) : Bool := bif !(wof3_2 a0 a1 a2) then true else false
def FRadius3 (a0 : TPoint) (a1 : TPoint) (a2 : TPoint) : Int := bif wRadius3_0 a0 a1 a2 then (0) else (max (max (max ((FvecSub a0 a2).X) (W64 (0 - ((FvecSub a0 a2).X)))) ((FvecSub a0 a2).Y)) (W64 (0 - ((FvecSub a0 a2).Y))))
def cRadius3 (a0 : TPoint) (a1 : TPoint) (a2 : TPoint) : FuncId × List Av × Ef := (72, [.agg [.i 3, .i a0.X, .i a0.Y, .i a1.X, .i a1.Y, .i a2.X, .i a2.Y]], .val [] (.av (.one (.i (FRadius3 a0 a1 a2)))))
theorem pRadius3 (a0 : TPoint) (a1 : TPoint) (a2 : TPoint) : Pure Try.prog 72 (cRadius3 a0 a1 a2).2.1 (.av (.one (.i (FRadius3 a0 a1 a2)))) := by
 refine pure_of_awF Try.func72 rfl (by kernel_rfl) (by kernel_rfl) fun W0 M0 => ?_
 refine aw_seq ?_
 refine aw_region eqok [] [] [] [1] [1] [] ⟨[(1, tP 1 0)], [(1, .cells [.i 3, .i a0.X, .i a0.Y, .i a1.X, .i a1.Y, .i a2.X, .i a2.Y] 35)]⟩ .nil (by kernel_rfl) .nil <| ath_n ?_
 refine aw_seq <| aw_seq ?_
 refine aw_region eqok [] [] [(8, cof3 a0 a1 a2)] [1, 4] [1] [Same (cof3 a0 a1 a2).2.1] ⟨[(1, tP 1 0), (4, tB (wof3_2 a0 a1 a2))], [(1, .cells [.i 3, .i a0.X, .i a0.Y, .i a1.X, .i a1.Y, .i a2.X, .i a2.Y] 35)]⟩ (.cons (okof3 a0 a1 a2) .nil) (by kernel_rfl) (.cons rfl .nil) <| ath_n <| aw_seq ?_
 refine aw_region eqok [] [] [] [1, 17] [1] [((!(wof3_2 a0 a1 a2)) = false) → ((!(wof3_2 a0 a1 a2)) = false), ((!(wof3_2 a0 a1 a2)) = false) → ((!(wof3_2 a0 a1 a2)) = false), (!(wof3_2 a0 a1 a2)) = false → ((!(wof3_2 a0 a1 a2)) = false)] ⟨[(1, tP 1 0), (17, tB (wRadius3_0 a0 a1 a2))], [(1, .cells [.i 3, .i a0.X, .i a0.Y, .i a1.X, .i a1.Y, .i a2.X, .i a2.Y] 35)]⟩ .nil (by kernel_rfl) (.cons id (.cons id (.cons id .nil))) <| ath_n ?_
 refine aw_cond (wRadius3_0 a0 a1 a2) (by kernel_rfl) (fun h1 => ?_) (fun h1 => ?_)
 ·refine aw_seq ?_
  refine aw_region eqok [] [] [] [2] [] [] ⟨[(2, tI 0)], []⟩ .nil (by kernel_rfl) .nil <| ath_n ?_
  refine aw_ret <| ath_r ?_
  exact ⟨_, Cv.refl _, .inl rfl, .av (.one (.i 0)), by kernel_rfl, tve_eq (by first | (simp only [FRadius3, h1, cond_true, cond_false]; done) | (simp only [FRadius3, h1, cond_true, cond_false]; rfl))⟩
 ·refine aw_skip <| ath_n <| aw_seq ?_
  refine aw_region eqok [] [] [(22, cvecSub a0 a2)] [5] [5] [Same (cvecSub a0 a2).2.1] ⟨[(5, tP 5 0)], [(5, .cells (TPoint.c (FvecSub a0 a2)) 29)]⟩ (.cons (okvecSub a0 a2) .nil) (by kernel_rfl) (.cons rfl .nil) <| ath_n <| aw_seq ?_
  refine aw_region eqok [] [] [] [2] [] [] ⟨[(2, tI (max (max (max ((FvecSub a0 a2).X) (W64 (0 - ((FvecSub a0 a2).X)))) ((FvecSub a0 a2).Y)) (W64 (0 - ((FvecSub a0 a2).Y)))))], []⟩ .nil (by kernel_rfl) .nil <| ath_n <| aw_ret ?_
  exact ⟨_, Cv.refl _, .inl rfl, .av (.one (.i (max (max (max ((FvecSub a0 a2).X) (W64 (0 - ((FvecSub a0 a2).X)))) ((FvecSub a0 a2).Y)) (W64 (0 - ((FvecSub a0 a2).Y)))))), by kernel_rfl, tve_eq (by first | (simp only [FRadius3, h1, cond_true, cond_false]; done) | (simp only [FRadius3, h1, cond_true, cond_false]; rfl))⟩
def FRadiusN (e : TEdge) : Int := 0
def cRadiusN (e : TEdge) : FuncId × List Av × Ef := (72, [.agg (TEdge.c e)], .val [] (.av (.one (.i (FRadiusN e)))))
theorem pRadiusN (e : TEdge) (k1 : ¬ e.Kind = 1) (k2 : ¬ e.Kind = 2) (k3 : ¬ e.Kind = 3) : Pure Try.prog 72 (cRadiusN e).2.1 (.av (.one (.i (FRadiusN e)))) := by
 refine pure_of_awF Try.func72 rfl (by kernel_rfl) (by kernel_rfl) fun W0 M0 => ?_
 refine aw_seq ?_
 refine aw_region eqok [] [] [] [1] [1] [] ⟨[(1, tP 1 0)], [(1, .cells (TEdge.c e) 35)]⟩ .nil (by kernel_rfl) .nil <| ath_n ?_
 refine aw_seq <| aw_seq ?_
 refine aw_region eqok [] [] [(8, cofN e)] [1, 4] [1] [Same (cofN e).2.1] ⟨[(1, tP 1 0), (4, tB false)], [(1, .cells (TEdge.c e) 35)]⟩ (.cons (okofN e k1 k2 k3) .nil) (by kernel_rfl) (.cons rfl .nil) <| ath_n <| aw_seq ?_
 refine aw_region eqok [] [] [] [1, 17] [1] [((true) = false) → ((true) = false), ((true) = false) → ((true) = false), (true) = false → ((true) = false)] ⟨[(1, tP 1 0), (17, tB true)], [(1, .cells (TEdge.c e) 35)]⟩ .nil (by kernel_rfl) (.cons id (.cons id (.cons id .nil))) <| ath_n ?_
 refine aw_cond_t (by kernel_rfl) <| aw_seq ?_
 refine aw_region eqok [] [] [] [2] [] [] ⟨[(2, tI 0)], []⟩ .nil (by kernel_rfl) .nil <| ath_n ?_
 refine aw_ret <| ath_r ?_
 exact ⟨_, Cv.refl _, .inl rfl, .av (.one (.i 0)), by kernel_rfl, tve_eq (by rfl)⟩
def FRadius (e : TEdge)  : Int := if e.Kind = 1 then FRadius1 e.A e.B e.C  else if e.Kind = 2 then FRadius2 e.A e.B e.C  else if e.Kind = 3 then FRadius3 e.A e.B e.C  else FRadiusN e
def cRadius (e : TEdge)  : FuncId × List Av × Ef := (72, [.agg (TEdge.c e)], .val [] (.av (.one (.i (FRadius e )))))
theorem pRadius (e : TEdge)  : Pure Try.prog 72 (cRadius e ).2.1 (.av (.one (.i (FRadius e )))) := by
 by_cases k1 : e.Kind = 1
 ·have hF : FRadius e  = FRadius1 e.A e.B e.C  := by unfold FRadius; rw [if_pos k1]
  rw [hF]; obtain ⟨k, a0, a1, a2⟩ := e; simp only at k1; subst k1; exact pRadius1 a0 a1 a2 
 by_cases k2 : e.Kind = 2
 ·have hF : FRadius e  = FRadius2 e.A e.B e.C  := by unfold FRadius; rw [if_neg k1]; rw [if_pos k2]
  rw [hF]; obtain ⟨k, a0, a1, a2⟩ := e; simp only at k2; subst k2; exact pRadius2 a0 a1 a2 
 by_cases k3 : e.Kind = 3
 ·have hF : FRadius e  = FRadius3 e.A e.B e.C  := by unfold FRadius; rw [if_neg k1]; rw [if_neg k2]; rw [if_pos k3]
  rw [hF]; obtain ⟨k, a0, a1, a2⟩ := e; simp only at k3; subst k3; exact pRadius3 a0 a1 a2 
 have hF : FRadius e  = FRadiusN e  := by unfold FRadius; rw [if_neg k1, if_neg k2, if_neg k3]
 rw [hF]; exact pRadiusN e  k1 k2 k3
theorem okRadius (e : TEdge)  : CallOk Try.prog (cRadius e ).1 (cRadius e ).2.1 (cRadius e ).2.2 := callOk_pure (fun _ _ => by kernel_rfl) fun _ => pRadius e
def FReverse1 (a0 : TPoint) (a1 : TPoint) (a2 : TPoint) : TEdge := TEdge.mk 1 a1 a0 a2
def cReverse1 (a0 : TPoint) (a1 : TPoint) (a2 : TPoint) : FuncId × List Av × Ef := (29, [.agg [.i 1, .i a0.X, .i a0.Y, .i a1.X, .i a1.Y, .i a2.X, .i a2.Y]], .val [] (.av (.agg (TEdge.c (FReverse1 a0 a1 a2)))))
theorem pReverse1 (a0 : TPoint) (a1 : TPoint) (a2 : TPoint) : Pure Try.prog 29 (cReverse1 a0 a1 a2).2.1 (.av (.agg (TEdge.c (FReverse1 a0 a1 a2)))) := by
 refine pure_of_awF Try.func29 rfl (by kernel_rfl) (by kernel_rfl) fun W0 M0 => ?_
 refine aw_seq ?_
 refine aw_region eqok [] [] [] [1, 2] [1, 2] [] ⟨[(1, tP 1 0), (2, tP 2 0)], [(1, .cells [.i 1, .i a0.X, .i a0.Y, .i a1.X, .i a1.Y, .i a2.X, .i a2.Y] 35), (2, .cells [.i 0, .i 0, .i 0, .i 0, .i 0, .i 0, .i 0] 35)]⟩ .nil (by kernel_rfl) .nil <| ath_n <| aw_seq ?_
 refine aw_region eqok [] [] [(7, cof1 a0 a1 a2)] [1, 2, 3] [1, 2, 3] [Same (cof1 a0 a1 a2).2.1] ⟨[(1, tP 1 0), (2, tP 2 0), (3, tP 3 0)], [(1, .cells [.i 1, .i a0.X, .i a0.Y, .i a1.X, .i a1.Y, .i a2.X, .i a2.Y] 35), (2, .cells [.i 0, .i 0, .i 0, .i 0, .i 0, .i 0, .i 0] 35), (3, .cells [.clo 98 0 (fun _ => default), .clo 99 0 (fun _ => default), .clo 100 0 (fun _ => default), .i 1] 94)]⟩ (.cons (okof1 a0 a1 a2) .nil) (by kernel_rfl) (.cons rfl .nil) <| ath_n <| aw_seq ?_
 refine aw_region eqok [] [] [] [2] [2] [] ⟨[(2, tP 2 0)], [(2, .cells [.i 1, .i a1.X, .i a1.Y, .i a0.X, .i a0.Y, .i a2.X, .i a2.Y] 35)]⟩ .nil (by kernel_rfl) .nil <| ath_n <| aw_ret ?_
 exact ⟨_, Cv.refl _, .inl rfl, .av (.agg [.i 1, .i a1.X, .i a1.Y, .i a0.X, .i a0.Y, .i a2.X, .i a2.Y]), by kernel_rfl, tve_eq (by rfl)⟩
def FReverse2 (a0 : TPoint) (a1 : TPoint) (a2 : TPoint) : TEdge := TEdge.mk 3 a1 a0 a2
def cReverse2 (a0 : TPoint) (a1 : TPoint) (a2 : TPoint) : FuncId × List Av × Ef := (29, [.agg [.i 2, .i a0.X, .i a0.Y, .i a1.X, .i a1.Y, .i a2.X, .i a2.Y]], .val [] (.av (.agg (TEdge.c (FReverse2 a0 a1 a2)))))
theorem pReverse2 (a0 : TPoint) (a1 : TPoint) (a2 : TPoint) : Pure Try.prog 29 (cReverse2 a0 a1 a2).2.1 (.av (.agg (TEdge.c (FReverse2 a0 a1 a2)))) := by
 refine pure_of_awF Try.func29 rfl (by kernel_rfl) (by kernel_rfl) fun W0 M0 => ?_
 refine aw_seq ?_
 refine aw_region eqok [] [] [] [1, 2] [1, 2] [] ⟨[(1, tP 1 0), (2, tP 2 0)], [(1, .cells [.i 2, .i a0.X, .i a0.Y, .i a1.X, .i a1.Y, .i a2.X, .i a2.Y] 35), (2, .cells [.i 0, .i 0, .i 0, .i 0, .i 0, .i 0, .i 0] 35)]⟩ .nil (by kernel_rfl) .nil <| ath_n <| aw_seq ?_
 refine aw_region eqok [] [] [(7, cof2 a0 a1 a2)] [1, 2, 3] [1, 2, 3] [Same (cof2 a0 a1 a2).2.1] ⟨[(1, tP 1 0), (2, tP 2 0), (3, tP 3 0)], [(1, .cells [.i 2, .i a0.X, .i a0.Y, .i a1.X, .i a1.Y, .i a2.X, .i a2.Y] 35), (2, .cells [.i 0, .i 0, .i 0, .i 0, .i 0, .i 0, .i 0] 35), (3, .cells [.clo 101 0 (fun _ => default), .clo 102 0 (fun _ => default), .clo 103 0 (fun _ => default), .i 3] 94)]⟩ (.cons (okof2 a0 a1 a2) .nil) (by kernel_rfl) (.cons rfl .nil) <| ath_n <| aw_seq ?_
 refine aw_region eqok [] [] [] [2] [2] [] ⟨[(2, tP 2 0)], [(2, .cells [.i 3, .i a1.X, .i a1.Y, .i a0.X, .i a0.Y, .i a2.X, .i a2.Y] 35)]⟩ .nil (by kernel_rfl) .nil <| ath_n <| aw_ret ?_
 exact ⟨_, Cv.refl _, .inl rfl, .av (.agg [.i 3, .i a1.X, .i a1.Y, .i a0.X, .i a0.Y, .i a2.X, .i a2.Y]), by kernel_rfl, tve_eq (by rfl)⟩
def FReverse3 (a0 : TPoint) (a1 : TPoint) (a2 : TPoint) : TEdge := TEdge.mk 2 a1 a0 a2
def cReverse3 (a0 : TPoint) (a1 : TPoint) (a2 : TPoint) : FuncId × List Av × Ef := (29, [.agg [.i 3, .i a0.X, .i a0.Y, .i a1.X, .i a1.Y, .i a2.X, .i a2.Y]], .val [] (.av (.agg (TEdge.c (FReverse3 a0 a1 a2)))))
theorem pReverse3 (a0 : TPoint) (a1 : TPoint) (a2 : TPoint) : Pure Try.prog 29 (cReverse3 a0 a1 a2).2.1 (.av (.agg (TEdge.c (FReverse3 a0 a1 a2)))) := by
 refine pure_of_awF Try.func29 rfl (by kernel_rfl) (by kernel_rfl) fun W0 M0 => ?_
 refine aw_seq ?_
 refine aw_region eqok [] [] [] [1, 2] [1, 2] [] ⟨[(1, tP 1 0), (2, tP 2 0)], [(1, .cells [.i 3, .i a0.X, .i a0.Y, .i a1.X, .i a1.Y, .i a2.X, .i a2.Y] 35), (2, .cells [.i 0, .i 0, .i 0, .i 0, .i 0, .i 0, .i 0] 35)]⟩ .nil (by kernel_rfl) .nil <| ath_n <| aw_seq ?_
 refine aw_region eqok [] [] [(7, cof3 a0 a1 a2)] [1, 2, 3] [1, 2, 3] [Same (cof3 a0 a1 a2).2.1] ⟨[(1, tP 1 0), (2, tP 2 0), (3, tP 3 0)], [(1, .cells [.i 3, .i a0.X, .i a0.Y, .i a1.X, .i a1.Y, .i a2.X, .i a2.Y] 35), (2, .cells [.i 0, .i 0, .i 0, .i 0, .i 0, .i 0, .i 0] 35), (3, .cells [.clo 104 0 (fun _ => default), .clo 102 0 (fun _ => default), .clo 103 0 (fun _ => default), .i 2] 94)]⟩ (.cons (okof3 a0 a1 a2) .nil) (by kernel_rfl) (.cons rfl .nil) <| ath_n <| aw_seq ?_
 refine aw_region eqok [] [] [] [2] [2] [] ⟨[(2, tP 2 0)], [(2, .cells [.i 2, .i a1.X, .i a1.Y, .i a0.X, .i a0.Y, .i a2.X, .i a2.Y] 35)]⟩ .nil (by kernel_rfl) .nil <| ath_n <| aw_ret ?_
 exact ⟨_, Cv.refl _, .inl rfl, .av (.agg [.i 2, .i a1.X, .i a1.Y, .i a0.X, .i a0.Y, .i a2.X, .i a2.Y]), by kernel_rfl, tve_eq (by rfl)⟩
def FReverseN (e : TEdge) : TEdge := TEdge.mk e.Kind e.B e.A e.C
def cReverseN (e : TEdge) : FuncId × List Av × Ef := (29, [.agg (TEdge.c e)], .val [] (.av (.agg (TEdge.c (FReverseN e)))))
theorem pReverseN (e : TEdge) (k1 : ¬ e.Kind = 1) (k2 : ¬ e.Kind = 2) (k3 : ¬ e.Kind = 3) : Pure Try.prog 29 (cReverseN e).2.1 (.av (.agg (TEdge.c (FReverseN e)))) := by
 refine pure_of_awF Try.func29 rfl (by kernel_rfl) (by kernel_rfl) fun W0 M0 => ?_
 refine aw_seq ?_
 refine aw_region eqok [] [] [] [1, 2] [1, 2] [] ⟨[(1, tP 1 0), (2, tP 2 0)], [(1, .cells (TEdge.c e) 35), (2, .cells [.i 0, .i 0, .i 0, .i 0, .i 0, .i 0, .i 0] 35)]⟩ .nil (by kernel_rfl) .nil <| ath_n <| aw_seq ?_
 refine aw_region eqok [] [] [(7, cofN e)] [1, 2, 3] [1, 2, 3] [Same (cofN e).2.1] ⟨[(1, tP 1 0), (2, tP 2 0), (3, tP 3 0)], [(1, .cells (TEdge.c e) 35), (2, .cells [.i 0, .i 0, .i 0, .i 0, .i 0, .i 0, .i 0] 35), (3, .cells [.val .nilFunc, .val .nilFunc, .val .nilFunc, .i e.Kind] 94)]⟩ (.cons (okofN e k1 k2 k3) .nil) (by kernel_rfl) (.cons rfl .nil) <| ath_n <| aw_seq ?_
 refine aw_region eqok [] [] [] [2] [2] [] ⟨[(2, tP 2 0)], [(2, .cells [.i e.Kind, .i e.B.X, .i e.B.Y, .i e.A.X, .i e.A.Y, .i e.C.X, .i e.C.Y] 35)]⟩ .nil (by kernel_rfl) .nil <| ath_n <| aw_ret ?_
 exact ⟨_, Cv.refl _, .inl rfl, .av (.agg [.i e.Kind, .i e.B.X, .i e.B.Y, .i e.A.X, .i e.A.Y, .i e.C.X, .i e.C.Y]), by kernel_rfl, tve_eq (by rfl)⟩
def FReverse (e : TEdge)  : TEdge := if e.Kind = 1 then FReverse1 e.A e.B e.C  else if e.Kind = 2 then FReverse2 e.A e.B e.C  else if e.Kind = 3 then FReverse3 e.A e.B e.C  else FReverseN e
def cReverse (e : TEdge)  : FuncId × List Av × Ef := (29, [.agg (TEdge.c e)], .val [] (.av (.agg (TEdge.c (FReverse e )))))
theorem pReverse (e : TEdge)  : Pure Try.prog 29 (cReverse e ).2.1 (.av (.agg (TEdge.c (FReverse e )))) := by
 by_cases k1 : e.Kind = 1
 ·have hF : FReverse e  = FReverse1 e.A e.B e.C  := by unfold FReverse; rw [if_pos k1]
  rw [hF]; obtain ⟨k, a0, a1, a2⟩ := e; simp only at k1; subst k1; exact pReverse1 a0 a1 a2 
 by_cases k2 : e.Kind = 2
 ·have hF : FReverse e  = FReverse2 e.A e.B e.C  := by unfold FReverse; rw [if_neg k1]; rw [if_pos k2]
  rw [hF]; obtain ⟨k, a0, a1, a2⟩ := e; simp only at k2; subst k2; exact pReverse2 a0 a1 a2 
 by_cases k3 : e.Kind = 3
 ·have hF : FReverse e  = FReverse3 e.A e.B e.C  := by unfold FReverse; rw [if_neg k1]; rw [if_neg k2]; rw [if_pos k3]
  rw [hF]; obtain ⟨k, a0, a1, a2⟩ := e; simp only at k3; subst k3; exact pReverse3 a0 a1 a2 
 have hF : FReverse e  = FReverseN e  := by unfold FReverse; rw [if_neg k1, if_neg k2, if_neg k3]
 rw [hF]; exact pReverseN e  k1 k2 k3
theorem okReverse (e : TEdge)  : CallOk Try.prog (cReverse e ).1 (cReverse e ).2.1 (cReverse e ).2.2 := callOk_pure (fun _ _ => by kernel_rfl) fun _ => pReverse e
def FRay1 (a0 : TPoint) (a1 : TPoint) (a2 : TPoint) (p : TPoint) : Int := bif bif bif bif !(wof1_2 a0 a1 a2) then true else decide ((p.Y : Int) < ((FedgeBox (TEdge.mk 1 a0 a1 a2)).Y0)) then true else decide ((((FedgeBox (TEdge.mk 1 a0 a1 a2)).Y1) : Int) ≤ p.Y) then true else decide ((((FedgeBox (TEdge.mk 1 a0 a1 a2)).X1) : Int) ≤ p.X) then (0) else (bif bif decide ((p.X : Int) < ((FedgeBox (TEdge.mk 1 a0 a1 a2)).X0)) then true else Fedgeabove (TEdge.mk 1 a0 a1 a2) p then (Fedgeupward (TEdge.mk 1 a0 a1 a2)) else (0))
def cRay1 (a0 : TPoint) (a1 : TPoint) (a2 : TPoint) (p : TPoint) : FuncId × List Av × Ef := (48, [.agg [.i 1, .i a0.X, .i a0.Y, .i a1.X, .i a1.Y, .i a2.X, .i a2.Y], .agg (TPoint.c p)], .val [] (.av (.one (.i (FRay1 a0 a1 a2 p)))))
theorem pRay1 (a0 : TPoint) (a1 : TPoint) (a2 : TPoint) (p : TPoint) : Pure Try.prog 48 (cRay1 a0 a1 a2 p).2.1 (.av (.one (.i (FRay1 a0 a1 a2 p)))) := by
 refine pure_of_awF Try.func48 rfl (by kernel_rfl) (by kernel_rfl) fun W0 M0 => ?_
 refine aw_seq ?_
 refine aw_region eqok [] [] [] [2, 3] [2, 3] [] ⟨[(2, tP 2 0), (3, tP 3 0)], [(2, .cells [.i 1, .i a0.X, .i a0.Y, .i a1.X, .i a1.Y, .i a2.X, .i a2.Y] 35), (3, .cells (TPoint.c p) 29)]⟩ .nil (by kernel_rfl) .nil <| ath_n <| aw_seq ?_
 refine aw_region eqok [] [] [(10, cof1 a0 a1 a2)] [2, 3, 5, 6] [2, 3, 5] [Same (cof1 a0 a1 a2).2.1] ⟨[(2, tP 2 0), (3, tP 3 0), (5, tP 5 0), (6, tB (wof1_2 a0 a1 a2))], [(2, .cells [.i 1, .i a0.X, .i a0.Y, .i a1.X, .i a1.Y, .i a2.X, .i a2.Y] 35), (3, .cells (TPoint.c p) 29), (5, .cells [.clo 98 0 (fun _ => default), .clo 99 0 (fun _ => default), .clo 100 0 (fun _ => default), .i 1] 94)]⟩ (.cons (okof1 a0 a1 a2) .nil) (by kernel_rfl) (.cons rfl .nil) <| ath_n <| aw_seq ?_
 refine aw_region eqok [] [] [(14, cedgeBox (TEdge.mk 1 a0 a1 a2))] [2, 3, 5, 6, 7] [2, 3, 5, 7] [Same (cedgeBox (TEdge.mk 1 a0 a1 a2)).2.1] ⟨[(2, tP 2 0), (3, tP 3 0), (5, tP 5 0), (6, tB (wof1_2 a0 a1 a2)), (7, tP 7 0)], [(2, .cells [.i 1, .i a0.X, .i a0.Y, .i a1.X, .i a1.Y, .i a2.X, .i a2.Y] 35), (3, .cells (TPoint.c p) 29), (5, .cells [.clo 98 0 (fun _ => default), .clo 99 0 (fun _ => default), .clo 100 0 (fun _ => default), .i 1] 94), (7, .cells (TRect.c (FedgeBox (TEdge.mk 1 a0 a1 a2))) 54)]⟩ (.cons (okedgeBox (TEdge.mk 1 a0 a1 a2)) .nil) (by kernel_rfl) (.cons rfl .nil) <| ath_n ?_
 refine aw_seq <| aw_seq ?_
 refine aw_region eqok [] [] [] [2, 3, 5, 7, 37] [2, 3, 5, 7] [((!(wof1_2 a0 a1 a2)) = false) → ((!(wof1_2 a0 a1 a2)) = false), ((!(wof1_2 a0 a1 a2)) = false) → ((!(wof1_2 a0 a1 a2)) = false), ((!(wof1_2 a0 a1 a2)) = false) → ((!(wof1_2 a0 a1 a2)) = false), ((!(wof1_2 a0 a1 a2)) = false) → ((!(wof1_2 a0 a1 a2)) = false), (!(wof1_2 a0 a1 a2)) = false → ((!(wof1_2 a0 a1 a2)) = false), ((bif !(wof1_2 a0 a1 a2) then true else decide ((p.Y : Int) < ((FedgeBox (TEdge.mk 1 a0 a1 a2)).Y0))) = false) → ((bif !(wof1_2 a0 a1 a2) then true else decide ((p.Y : Int) < ((FedgeBox (TEdge.mk 1 a0 a1 a2)).Y0))) = false), ((bif !(wof1_2 a0 a1 a2) then true else decide ((p.Y : Int) < ((FedgeBox (TEdge.mk 1 a0 a1 a2)).Y0))) = false) → ((bif !(wof1_2 a0 a1 a2) then true else decide ((p.Y : Int) < ((FedgeBox (TEdge.mk 1 a0 a1 a2)).Y0))) = false), ((bif !(wof1_2 a0 a1 a2) then true else decide ((p.Y : Int) < ((FedgeBox (TEdge.mk 1 a0 a1 a2)).Y0))) = false) → ((bif !(wof1_2 a0 a1 a2) then true else decide ((p.Y : Int) < ((FedgeBox (TEdge.mk 1 a0 a1 a2)).Y0))) = false), ((bif !(wof1_2 a0 a1 a2) then true else decide ((p.Y : Int) < ((FedgeBox (TEdge.mk 1 a0 a1 a2)).Y0))) = false) → ((bif !(wof1_2 a0 a1 a2) then true else decide ((p.Y : Int) < ((FedgeBox (TEdge.mk 1 a0 a1 a2)).Y0))) = false), (bif !(wof1_2 a0 a1 a2) then true else decide ((p.Y : Int) < ((FedgeBox (TEdge.mk 1 a0 a1 a2)).Y0))) = false → ((bif !(wof1_2 a0 a1 a2) then true else decide ((p.Y : Int) < ((FedgeBox (TEdge.mk 1 a0 a1 a2)).Y0))) = false), ((bif bif !(wof1_2 a0 a1 a2) then true else decide ((p.Y : Int) < ((FedgeBox (TEdge.mk 1 a0 a1 a2)).Y0)) then true else decide ((((FedgeBox (TEdge.mk 1 a0 a1 a2)).Y1) : Int) ≤ p.Y)) = false) → ((bif bif !(wof1_2 a0 a1 a2) then true else decide ((p.Y : Int) < ((FedgeBox (TEdge.mk 1 a0 a1 a2)).Y0)) then true else decide ((((FedgeBox (TEdge.mk 1 a0 a1 a2)).Y1) : Int) ≤ p.Y)) = false), ((bif bif !(wof1_2 a0 a1 a2) then true else decide ((p.Y : Int) < ((FedgeBox (TEdge.mk 1 a0 a1 a2)).Y0)) then true else decide ((((FedgeBox (TEdge.mk 1 a0 a1 a2)).Y1) : Int) ≤ p.Y)) = false) → ((bif bif !(wof1_2 a0 a1 a2) then true else decide ((p.Y : Int) < ((FedgeBox (TEdge.mk 1 a0 a1 a2)).Y0)) then true else decide ((((FedgeBox (TEdge.mk 1 a0 a1 a2)).Y1) : Int) ≤ p.Y)) = false), ((bif bif !(wof1_2 a0 a1 a2) then true else decide ((p.Y : Int) < ((FedgeBox (TEdge.mk 1 a0 a1 a2)).Y0)) then true else decide ((((FedgeBox (TEdge.mk 1 a0 a1 a2)).Y1) : Int) ≤ p.Y)) = false) → ((bif bif !(wof1_2 a0 a1 a2) then true else decide ((p.Y : Int) < ((FedgeBox (TEdge.mk 1 a0 a1 a2)).Y0)) then true else decide ((((FedgeBox (TEdge.mk 1 a0 a1 a2)).Y1) : Int) ≤ p.Y)) = false), ((bif bif !(wof1_2 a0 a1 a2) then true else decide ((p.Y : Int) < ((FedgeBox (TEdge.mk 1 a0 a1 a2)).Y0)) then true else decide ((((FedgeBox (TEdge.mk 1 a0 a1 a2)).Y1) : Int) ≤ p.Y)) = false) → ((bif bif !(wof1_2 a0 a1 a2) then true else decide ((p.Y : Int) < ((FedgeBox (TEdge.mk 1 a0 a1 a2)).Y0)) then true else decide ((((FedgeBox (TEdge.mk 1 a0 a1 a2)).Y1) : Int) ≤ p.Y)) = false), (bif bif !(wof1_2 a0 a1 a2) then true else decide ((p.Y : Int) < ((FedgeBox (TEdge.mk 1 a0 a1 a2)).Y0)) then true else decide ((((FedgeBox (TEdge.mk 1 a0 a1 a2)).Y1) : Int) ≤ p.Y)) = false → ((bif bif !(wof1_2 a0 a1 a2) then true else decide ((p.Y : Int) < ((FedgeBox (TEdge.mk 1 a0 a1 a2)).Y0)) then true else decide ((((FedgeBox (TEdge.mk 1 a0 a1 a2)).Y1) : Int) ≤ p.Y)) = false)] ⟨[(2, tP 2 0), (3, tP 3 0), (5, tP 5 0), (7, tP 7 0), (37, tB (bif bif bif !(wof1_2 a0 a1 a2) then true else decide ((p.Y : Int) < ((FedgeBox (TEdge.mk 1 a0 a1 a2)).Y0)) then true else decide ((((FedgeBox (TEdge.mk 1 a0 a1 a2)).Y1) : Int) ≤ p.Y) then true else decide ((((FedgeBox (TEdge.mk 1 a0 a1 a2)).X1) : Int) ≤ p.X)))], [(2, .cells [.i 1, .i a0.X, .i a0.Y, .i a1.X, .i a1.Y, .i a2.X, .i a2.Y] 35), (3, .cells (TPoint.c p) 29), (5, .cells [.clo 98 0 (fun _ => default), .clo 99 0 (fun _ => default), .clo 100 0 (fun _ => default), .i 1] 94), (7, .cells (TRect.c (FedgeBox (TEdge.mk 1 a0 a1 a2))) 54)]⟩ .nil (by kernel_rfl) (.cons id (.cons id (.cons id (.cons id (.cons id (.cons id (.cons id (.cons id (.cons id (.cons id (.cons id (.cons id (.cons id (.cons id (.cons id .nil))))))))))))))) <| ath_n ?_
 refine aw_cond (bif bif bif !(wof1_2 a0 a1 a2) then true else decide ((p.Y : Int) < ((FedgeBox (TEdge.mk 1 a0 a1 a2)).Y0)) then true else decide ((((FedgeBox (TEdge.mk 1 a0 a1 a2)).Y1) : Int) ≤ p.Y) then true else decide ((((FedgeBox (TEdge.mk 1 a0 a1 a2)).X1) : Int) ≤ p.X)) (by kernel_rfl) (fun h1 => ?_) (fun h1 => ?_)
 ·refine aw_seq ?_
  refine aw_region eqok [] [] [] [4] [] [] ⟨[(4, tI 0)], []⟩ .nil (by kernel_rfl) .nil <| ath_n ?_
  refine aw_ret <| ath_r ?_
  exact ⟨_, Cv.refl _, .inl rfl, .av (.one (.i 0)), by kernel_rfl, tve_eq (by first | (simp only [FRay1, h1, cond_true, cond_false]; done) | (simp only [FRay1, h1, cond_true, cond_false]; rfl))⟩
 ·refine aw_skip <| ath_n ?_
  refine aw_seq <| aw_seq ?_
  refine aw_region eqok [] [] [(48, cedgeabove (TEdge.mk 1 a0 a1 a2) p)] [2, 49] [2] [((decide ((p.X : Int) < ((FedgeBox (TEdge.mk 1 a0 a1 a2)).X0))) = false) → ((decide ((p.X : Int) < ((FedgeBox (TEdge.mk 1 a0 a1 a2)).X0))) = false), ((decide ((p.X : Int) < ((FedgeBox (TEdge.mk 1 a0 a1 a2)).X0))) = false) → ((decide ((p.X : Int) < ((FedgeBox (TEdge.mk 1 a0 a1 a2)).X0))) = false), ((decide ((p.X : Int) < ((FedgeBox (TEdge.mk 1 a0 a1 a2)).X0))) = false) → ((decide ((p.X : Int) < ((FedgeBox (TEdge.mk 1 a0 a1 a2)).X0))) = false), ((decide ((p.X : Int) < ((FedgeBox (TEdge.mk 1 a0 a1 a2)).X0))) = false) → ((decide ((p.X : Int) < ((FedgeBox (TEdge.mk 1 a0 a1 a2)).X0))) = false), ((decide ((p.X : Int) < ((FedgeBox (TEdge.mk 1 a0 a1 a2)).X0))) = false) → (Same (cedgeabove (TEdge.mk 1 a0 a1 a2) p).2.1), (decide ((p.X : Int) < ((FedgeBox (TEdge.mk 1 a0 a1 a2)).X0))) = false → ((decide ((p.X : Int) < ((FedgeBox (TEdge.mk 1 a0 a1 a2)).X0))) = false)] ⟨[(2, tP 2 0), (49, tB (bif decide ((p.X : Int) < ((FedgeBox (TEdge.mk 1 a0 a1 a2)).X0)) then true else Fedgeabove (TEdge.mk 1 a0 a1 a2) p))], [(2, .cells [.i 1, .i a0.X, .i a0.Y, .i a1.X, .i a1.Y, .i a2.X, .i a2.Y] 35)]⟩ (.cons (okedgeabove (TEdge.mk 1 a0 a1 a2) p) .nil) (by kernel_rfl) (.cons id (.cons id (.cons id (.cons id (.cons (fun _ => rfl) (.cons id .nil)))))) <| ath_n ?_
  refine aw_cond (bif decide ((p.X : Int) < ((FedgeBox (TEdge.mk 1 a0 a1 a2)).X0)) then true else Fedgeabove (TEdge.mk 1 a0 a1 a2) p) (by kernel_rfl) (fun h2 => ?_) (fun h2 => ?_)
  ·refine aw_seq ?_
   refine aw_region eqok [] [] [(51, cedgeupward (TEdge.mk 1 a0 a1 a2))] [4] [] [Same (cedgeupward (TEdge.mk 1 a0 a1 a2)).2.1] ⟨[(4, tI (Fedgeupward (TEdge.mk 1 a0 a1 a2)))], []⟩ (.cons (okedgeupward (TEdge.mk 1 a0 a1 a2)) .nil) (by kernel_rfl) (.cons rfl .nil) <| ath_n ?_
   refine aw_ret <| ath_r ?_
   exact ⟨_, Cv.refl _, .inl rfl, .av (.one (.i (Fedgeupward (TEdge.mk 1 a0 a1 a2)))), by kernel_rfl, tve_eq (by first | (simp only [FRay1, h1, h2, cond_true, cond_false]; done) | (simp only [FRay1, h1, h2, cond_true, cond_false]; rfl))⟩
  ·refine aw_skip <| ath_n <| aw_seq ?_
   refine aw_region eqok [] [] [] [4] [] [] ⟨[(4, tI 0)], []⟩ .nil (by kernel_rfl) .nil <| ath_n <| aw_ret ?_
   exact ⟨_, Cv.refl _, .inl rfl, .av (.one (.i 0)), by kernel_rfl, tve_eq (by first | (simp only [FRay1, h1, h2, cond_true, cond_false]; done) | (simp only [FRay1, h1, h2, cond_true, cond_false]; rfl))⟩
def FRay2 (a0 : TPoint) (a1 : TPoint) (a2 : TPoint) (p : TPoint) : Int := bif bif bif bif !(wof2_2 a0 a1 a2) then true else decide ((p.Y : Int) < ((FedgeBox (TEdge.mk 2 a0 a1 a2)).Y0)) then true else decide ((((FedgeBox (TEdge.mk 2 a0 a1 a2)).Y1) : Int) ≤ p.Y) then true else decide ((((FedgeBox (TEdge.mk 2 a0 a1 a2)).X1) : Int) ≤ p.X) then (0) else (bif bif decide ((p.X : Int) < ((FedgeBox (TEdge.mk 2 a0 a1 a2)).X0)) then true else Fedgebeside (TEdge.mk 2 a0 a1 a2) p then (Fedgeupward (TEdge.mk 2 a0 a1 a2)) else (0))
def cRay2 (a0 : TPoint) (a1 : TPoint) (a2 : TPoint) (p : TPoint) : FuncId × List Av × Ef := (48, [.agg [.i 2, .i a0.X, .i a0.Y, .i a1.X, .i a1.Y, .i a2.X, .i a2.Y], .agg (TPoint.c p)], .val [] (.av (.one (.i (FRay2 a0 a1 a2 p)))))
theorem pRay2 (a0 : TPoint) (a1 : TPoint) (a2 : TPoint) (p : TPoint) : Pure Try.prog 48 (cRay2 a0 a1 a2 p).2.1 (.av (.one (.i (FRay2 a0 a1 a2 p)))) := by
 refine pure_of_awF Try.func48 rfl (by kernel_rfl) (by kernel_rfl) fun W0 M0 => ?_
 refine aw_seq ?_
 refine aw_region eqok [] [] [] [2, 3] [2, 3] [] ⟨[(2, tP 2 0), (3, tP 3 0)], [(2, .cells [.i 2, .i a0.X, .i a0.Y, .i a1.X, .i a1.Y, .i a2.X, .i a2.Y] 35), (3, .cells (TPoint.c p) 29)]⟩ .nil (by kernel_rfl) .nil <| ath_n <| aw_seq ?_
 refine aw_region eqok [] [] [(10, cof2 a0 a1 a2)] [2, 3, 5, 6] [2, 3, 5] [Same (cof2 a0 a1 a2).2.1] ⟨[(2, tP 2 0), (3, tP 3 0), (5, tP 5 0), (6, tB (wof2_2 a0 a1 a2))], [(2, .cells [.i 2, .i a0.X, .i a0.Y, .i a1.X, .i a1.Y, .i a2.X, .i a2.Y] 35), (3, .cells (TPoint.c p) 29), (5, .cells [.clo 101 0 (fun _ => default), .clo 102 0 (fun _ => default), .clo 103 0 (fun _ => default), .i 3] 94)]⟩ (.cons (okof2 a0 a1 a2) .nil) (by kernel_rfl) (.cons rfl .nil) <| ath_n <| aw_seq ?_
 refine aw_region eqok [] [] [(14, cedgeBox (TEdge.mk 2 a0 a1 a2))] [2, 3, 5, 6, 7] [2, 3, 5, 7] [Same (cedgeBox (TEdge.mk 2 a0 a1 a2)).2.1] ⟨[(2, tP 2 0), (3, tP 3 0), (5, tP 5 0), (6, tB (wof2_2 a0 a1 a2)), (7, tP 7 0)], [(2, .cells [.i 2, .i a0.X, .i a0.Y, .i a1.X, .i a1.Y, .i a2.X, .i a2.Y] 35), (3, .cells (TPoint.c p) 29), (5, .cells [.clo 101 0 (fun _ => default), .clo 102 0 (fun _ => default), .clo 103 0 (fun _ => default), .i 3] 94), (7, .cells (TRect.c (FedgeBox (TEdge.mk 2 a0 a1 a2))) 54)]⟩ (.cons (okedgeBox (TEdge.mk 2 a0 a1 a2)) .nil) (by kernel_rfl) (.cons rfl .nil) <| ath_n ?_
 refine aw_seq <| aw_seq ?_
 refine aw_region eqok [] [] [] [2, 3, 5, 7, 37] [2, 3, 5, 7] [((!(wof2_2 a0 a1 a2)) = false) → ((!(wof2_2 a0 a1 a2)) = false), ((!(wof2_2 a0 a1 a2)) = false) → ((!(wof2_2 a0 a1 a2)) = false), ((!(wof2_2 a0 a1 a2)) = false) → ((!(wof2_2 a0 a1 a2)) = false), ((!(wof2_2 a0 a1 a2)) = false) → ((!(wof2_2 a0 a1 a2)) = false), (!(wof2_2 a0 a1 a2)) = false → ((!(wof2_2 a0 a1 a2)) = false), ((bif !(wof2_2 a0 a1 a2) then true else decide ((p.Y : Int) < ((FedgeBox (TEdge.mk 2 a0 a1 a2)).Y0))) = false) → ((bif !(wof2_2 a0 a1 a2) then true else decide ((p.Y : Int) < ((FedgeBox (TEdge.mk 2 a0 a1 a2)).Y0))) = false), ((bif !(wof2_2 a0 a1 a2) then true else decide ((p.Y : Int) < ((FedgeBox (TEdge.mk 2 a0 a1 a2)).Y0))) = false) → ((bif !(wof2_2 a0 a1 a2) then true else decide ((p.Y : Int) < ((FedgeBox (TEdge.mk 2 a0 a1 a2)).Y0))) = false), ((bif !(wof2_2 a0 a1 a2) then true else decide ((p.Y : Int) < ((FedgeBox (TEdge.mk 2 a0 a1 a2)).Y0))) = false) → ((bif !(wof2_2 a0 a1 a2) then true else decide ((p.Y : Int) < ((FedgeBox (TEdge.mk 2 a0 a1 a2)).Y0))) = false), ((bif !(wof2_2 a0 a1 a2) then true else decide ((p.Y : Int) < ((FedgeBox (TEdge.mk 2 a0 a1 a2)).Y0))) = false) → ((bif !(wof2_2 a0 a1 a2) then true else decide ((p.Y : Int) < ((FedgeBox (TEdge.mk 2 a0 a1 a2)).Y0))) = false), (bif !(wof2_2 a0 a1 a2) then true else decide ((p.Y : Int) < ((FedgeBox (TEdge.mk 2 a0 a1 a2)).Y0))) = false → ((bif !(wof2_2 a0 a1 a2) then true else decide ((p.Y : Int) < ((FedgeBox (TEdge.mk 2 a0 a1 a2)).Y0))) = false), ((bif bif !(wof2_2 a0 a1 a2) then true else decide ((p.Y : Int) < ((FedgeBox (TEdge.mk 2 a0 a1 a2)).Y0)) then true else decide ((((FedgeBox (TEdge.mk 2 a0 a1 a2)).Y1) : Int) ≤ p.Y)) = false) → ((bif bif !(wof2_2 a0 a1 a2) then true else decide ((p.Y : Int) < ((FedgeBox (TEdge.mk 2 a0 a1 a2)).Y0)) then true else decide ((((FedgeBox (TEdge.mk 2 a0 a1 a2)).Y1) : Int) ≤ p.Y)) = false), ((bif bif !(wof2_2 a0 a1 a2) then true else decide ((p.Y : Int) < ((FedgeBox (TEdge.mk 2 a0 a1 a2)).Y0)) then true else decide ((((FedgeBox (TEdge.mk 2 a0 a1 a2)).Y1) : Int) ≤ p.Y)) = false) → ((bif bif !(wof2_2 a0 a1 a2) then true else decide ((p.Y : Int) < ((FedgeBox (TEdge.mk 2 a0 a1 a2)).Y0)) then true else decide ((((FedgeBox (TEdge.mk 2 a0 a1 a2)).Y1) : Int) ≤ p.Y)) = false), ((bif bif !(wof2_2 a0 a1 a2) then true else decide ((p.Y : Int) < ((FedgeBox (TEdge.mk 2 a0 a1 a2)).Y0)) then true else decide ((((FedgeBox (TEdge.mk 2 a0 a1 a2)).Y1) : Int) ≤ p.Y)) = false) → ((bif bif !(wof2_2 a0 a1 a2) then true else decide ((p.Y : Int) < ((FedgeBox (TEdge.mk 2 a0 a1 a2)).Y0)) then true else decide ((((FedgeBox (TEdge.mk 2 a0 a1 a2)).Y1) : Int) ≤ p.Y)) = false), ((bif bif !(wof2_2 a0 a1 a2) then true else decide ((p.Y : Int) < ((FedgeBox (TEdge.mk 2 a0 a1 a2)).Y0)) then true else decide ((((FedgeBox (TEdge.mk 2 a0 a1 a2)).Y1) : Int) ≤ p.Y)) = false) → ((bif bif !(wof2_2 a0 a1 a2) then true else decide ((p.Y : Int) < ((FedgeBox (TEdge.mk 2 a0 a1 a2)).Y0)) then true else decide ((((FedgeBox (TEdge.mk 2 a0 a1 a2)).Y1) : Int) ≤ p.Y)) = false), (bif bif !(wof2_2 a0 a1 a2) then true else decide ((p.Y : Int) < ((FedgeBox (TEdge.mk 2 a0 a1 a2)).Y0)) then true else decide ((((FedgeBox (TEdge.mk 2 a0 a1 a2)).Y1) : Int) ≤ p.Y)) = false → ((bif bif !(wof2_2 a0 a1 a2) then true else decide ((p.Y : Int) < ((FedgeBox (TEdge.mk 2 a0 a1 a2)).Y0)) then true else decide ((((FedgeBox (TEdge.mk 2 a0 a1 a2)).Y1) : Int) ≤ p.Y)) = false)] ⟨[(2, tP 2 0), (3, tP 3 0), (5, tP 5 0), (7, tP 7 0), (37, tB (bif bif bif !(wof2_2 a0 a1 a2) then true else decide ((p.Y : Int) < ((FedgeBox (TEdge.mk 2 a0 a1 a2)).Y0)) then true else decide ((((FedgeBox (TEdge.mk 2 a0 a1 a2)).Y1) : Int) ≤ p.Y) then true else decide ((((FedgeBox (TEdge.mk 2 a0 a1 a2)).X1) : Int) ≤ p.X)))], [(2, .cells [.i 2, .i a0.X, .i a0.Y, .i a1.X, .i a1.Y, .i a2.X, .i a2.Y] 35), (3, .cells (TPoint.c p) 29), (5, .cells [.clo 101 0 (fun _ => default), .clo 102 0 (fun _ => default), .clo 103 0 (fun _ => default), .i 3] 94), (7, .cells (TRect.c (FedgeBox (TEdge.mk 2 a0 a1 a2))) 54)]⟩ .nil (by kernel_rfl) (.cons id (.cons id (.cons id (.cons id (.cons id (.cons id (.cons id (.cons id (.cons id (.cons id (.cons id (.cons id (.cons id (.cons id (.cons id .nil))))))))))))))) <| ath_n ?_
 refine aw_cond (bif bif bif !(wof2_2 a0 a1 a2) then true else decide ((p.Y : Int) < ((FedgeBox (TEdge.mk 2 a0 a1 a2)).Y0)) then true else decide ((((FedgeBox (TEdge.mk 2 a0 a1 a2)).Y1) : Int) ≤ p.Y) then true else decide ((((FedgeBox (TEdge.mk 2 a0 a1 a2)).X1) : Int) ≤ p.X)) (by kernel_rfl) (fun h1 => ?_) (fun h1 => ?_)
 ·refine aw_seq ?_
  refine aw_region eqok [] [] [] [4] [] [] ⟨[(4, tI 0)], []⟩ .nil (by kernel_rfl) .nil <| ath_n ?_
  refine aw_ret <| ath_r ?_
  exact ⟨_, Cv.refl _, .inl rfl, .av (.one (.i 0)), by kernel_rfl, tve_eq (by first | (simp only [FRay2, h1, cond_true, cond_false]; done) | (simp only [FRay2, h1, cond_true, cond_false]; rfl))⟩
 ·refine aw_skip <| ath_n ?_
  refine aw_seq <| aw_seq ?_
  refine aw_region eqok [] [] [(48, cedgebeside (TEdge.mk 2 a0 a1 a2) p)] [2, 49] [2] [((decide ((p.X : Int) < ((FedgeBox (TEdge.mk 2 a0 a1 a2)).X0))) = false) → ((decide ((p.X : Int) < ((FedgeBox (TEdge.mk 2 a0 a1 a2)).X0))) = false), ((decide ((p.X : Int) < ((FedgeBox (TEdge.mk 2 a0 a1 a2)).X0))) = false) → ((decide ((p.X : Int) < ((FedgeBox (TEdge.mk 2 a0 a1 a2)).X0))) = false), ((decide ((p.X : Int) < ((FedgeBox (TEdge.mk 2 a0 a1 a2)).X0))) = false) → ((decide ((p.X : Int) < ((FedgeBox (TEdge.mk 2 a0 a1 a2)).X0))) = false), ((decide ((p.X : Int) < ((FedgeBox (TEdge.mk 2 a0 a1 a2)).X0))) = false) → ((decide ((p.X : Int) < ((FedgeBox (TEdge.mk 2 a0 a1 a2)).X0))) = false), ((decide ((p.X : Int) < ((FedgeBox (TEdge.mk 2 a0 a1 a2)).X0))) = false) → (Same (cedgebeside (TEdge.mk 2 a0 a1 a2) p).2.1), (decide ((p.X : Int) < ((FedgeBox (TEdge.mk 2 a0 a1 a2)).X0))) = false → ((decide ((p.X : Int) < ((FedgeBox (TEdge.mk 2 a0 a1 a2)).X0))) = false)] ⟨[(2, tP 2 0), (49, tB (bif decide ((p.X : Int) < ((FedgeBox (TEdge.mk 2 a0 a1 a2)).X0)) then true else Fedgebeside (TEdge.mk 2 a0 a1 a2) p))], [(2, .cells [.i 2, .i a0.X, .i a0.Y, .i a1.X, .i a1.Y, .i a2.X, .i a2.Y] 35)]⟩ (.cons (okedgebeside (TEdge.mk 2 a0 a1 a2) p) .nil) (by kernel_rfl) (.cons id (.cons id (.cons id (.cons id (.cons (fun _ => rfl) (.cons id .nil)))))) <| ath_n ?_
  refine aw_cond (bif decide ((p.X : Int) < ((FedgeBox (TEdge.mk 2 a0 a1 a2)).X0)) then true else Fedgebeside (TEdge.mk 2 a0 a1 a2) p) (by kernel_rfl) (fun h2 => ?_) (fun h2 => ?_)
  ·refine aw_seq ?_
   refine aw_region eqok [] [] [(51, cedgeupward (TEdge.mk 2 a0 a1 a2))] [4] [] [Same (cedgeupward (TEdge.mk 2 a0 a1 a2)).2.1] ⟨[(4, tI (Fedgeupward (TEdge.mk 2 a0 a1 a2)))], []⟩ (.cons (okedgeupward (TEdge.mk 2 a0 a1 a2)) .nil) (by kernel_rfl) (.cons rfl .nil) <| ath_n ?_
   refine aw_ret <| ath_r ?_
   exact ⟨_, Cv.refl _, .inl rfl, .av (.one (.i (Fedgeupward (TEdge.mk 2 a0 a1 a2)))), by kernel_rfl, tve_eq (by first | (simp only [FRay2, h1, h2, cond_true, cond_false]; done) | (simp only [FRay2, h1, h2, cond_true, cond_false]; rfl))⟩
  ·refine aw_skip <| ath_n <| aw_seq ?_
   refine aw_region eqok [] [] [] [4] [] [] ⟨[(4, tI 0)], []⟩ .nil (by kernel_rfl) .nil <| ath_n <| aw_ret ?_
   exact ⟨_, Cv.refl _, .inl rfl, .av (.one (.i 0)), by kernel_rfl, tve_eq (by first | (simp only [FRay2, h1, h2, cond_true, cond_false]; done) | (simp only [FRay2, h1, h2, cond_true, cond_false]; rfl))⟩
def FRay3 (a0 : TPoint) (a1 : TPoint) (a2 : TPoint) (p : TPoint) : Int := bif bif bif bif !(wof3_2 a0 a1 a2) then true else decide ((p.Y : Int) < ((FedgeBox (TEdge.mk 3 a0 a1 a2)).Y0)) then true else decide ((((FedgeBox (TEdge.mk 3 a0 a1 a2)).Y1) : Int) ≤ p.Y) then true else decide ((((FedgeBox (TEdge.mk 3 a0 a1 a2)).X1) : Int) ≤ p.X) then (0) else (bif bif decide ((p.X : Int) < ((FedgeBox (TEdge.mk 3 a0 a1 a2)).X0)) then true else Fedgebeside (TEdge.mk 3 a0 a1 a2) p then (Fedgeupward (TEdge.mk 3 a0 a1 a2)) else (0))
def cRay3 (a0 : TPoint) (a1 : TPoint) (a2 : TPoint) (p : TPoint) : FuncId × List Av × Ef := (48, [.agg [.i 3, .i a0.X, .i a0.Y, .i a1.X, .i a1.Y, .i a2.X, .i a2.Y], .agg (TPoint.c p)], .val [] (.av (.one (.i (FRay3 a0 a1 a2 p)))))
theorem pRay3 (a0 : TPoint) (a1 : TPoint) (a2 : TPoint) (p : TPoint) : Pure Try.prog 48 (cRay3 a0 a1 a2 p).2.1 (.av (.one (.i (FRay3 a0 a1 a2 p)))) := by
 refine pure_of_awF Try.func48 rfl (by kernel_rfl) (by kernel_rfl) fun W0 M0 => ?_
 refine aw_seq ?_
 refine aw_region eqok [] [] [] [2, 3] [2, 3] [] ⟨[(2, tP 2 0), (3, tP 3 0)], [(2, .cells [.i 3, .i a0.X, .i a0.Y, .i a1.X, .i a1.Y, .i a2.X, .i a2.Y] 35), (3, .cells (TPoint.c p) 29)]⟩ .nil (by kernel_rfl) .nil <| ath_n <| aw_seq ?_
 refine aw_region eqok [] [] [(10, cof3 a0 a1 a2)] [2, 3, 5, 6] [2, 3, 5] [Same (cof3 a0 a1 a2).2.1] ⟨[(2, tP 2 0), (3, tP 3 0), (5, tP 5 0), (6, tB (wof3_2 a0 a1 a2))], [(2, .cells [.i 3, .i a0.X, .i a0.Y, .i a1.X, .i a1.Y, .i a2.X, .i a2.Y] 35), (3, .cells (TPoint.c p) 29), (5, .cells [.clo 104 0 (fun _ => default), .clo 102 0 (fun _ => default), .clo 103 0 (fun _ => default), .i 2] 94)]⟩ (.cons (okof3 a0 a1 a2) .nil) (by kernel_rfl) (.cons rfl .nil) <| ath_n <| aw_seq ?_
 refine aw_region eqok [] [] [(14, cedgeBox (TEdge.mk 3 a0 a1 a2))] [2, 3, 5, 6, 7] [2, 3, 5, 7] [Same (cedgeBox (TEdge.mk 3 a0 a1 a2)).2.1] ⟨[(2, tP 2 0), (3, tP 3 0), (5, tP 5 0), (6, tB (wof3_2 a0 a1 a2)), (7, tP 7 0)], [(2, .cells [.i 3, .i a0.X, .i a0.Y, .i a1.X, .i a1.Y, .i a2.X, .i a2.Y] 35), (3, .cells (TPoint.c p) 29), (5, .cells [.clo 104 0 (fun _ => default), .clo 102 0 (fun _ => default), .clo 103 0 (fun _ => default), .i 2] 94), (7, .cells (TRect.c (FedgeBox (TEdge.mk 3 a0 a1 a2))) 54)]⟩ (.cons (okedgeBox (TEdge.mk 3 a0 a1 a2)) .nil) (by kernel_rfl) (.cons rfl .nil) <| ath_n ?_
 refine aw_seq <| aw_seq ?_
 refine aw_region eqok [] [] [] [2, 3, 5, 7, 37] [2, 3, 5, 7] [((!(wof3_2 a0 a1 a2)) = false) → ((!(wof3_2 a0 a1 a2)) = false), ((!(wof3_2 a0 a1 a2)) = false) → ((!(wof3_2 a0 a1 a2)) = false), ((!(wof3_2 a0 a1 a2)) = false) → ((!(wof3_2 a0 a1 a2)) = false), ((!(wof3_2 a0 a1 a2)) = false) → ((!(wof3_2 a0 a1 a2)) = false), (!(wof3_2 a0 a1 a2)) = false → ((!(wof3_2 a0 a1 a2)) = false), ((bif !(wof3_2 a0 a1 a2) then true else decide ((p.Y : Int) < ((FedgeBox (TEdge.mk 3 a0 a1 a2)).Y0))) = false) → ((bif !(wof3_2 a0 a1 a2) then true else decide ((p.Y : Int) < ((FedgeBox (TEdge.mk 3 a0 a1 a2)).Y0))) = false), ((bif !(wof3_2 a0 a1 a2) then true else decide ((p.Y : Int) < ((FedgeBox (TEdge.mk 3 a0 a1 a2)).Y0))) = false) → ((bif !(wof3_2 a0 a1 a2) then true else decide ((p.Y : Int) < ((FedgeBox (TEdge.mk 3 a0 a1 a2)).Y0))) = false), ((bif !(wof3_2 a0 a1 a2) then true else decide ((p.Y : Int) < ((FedgeBox (TEdge.mk 3 a0 a1 a2)).Y0))) = false) → ((bif !(wof3_2 a0 a1 a2) then true else decide ((p.Y : Int) < ((FedgeBox (TEdge.mk 3 a0 a1 a2)).Y0))) = false), ((bif !(wof3_2 a0 a1 a2) then true else decide ((p.Y : Int) < ((FedgeBox (TEdge.mk 3 a0 a1 a2)).Y0))) = false) → ((bif !(wof3_2 a0 a1 a2) then true else decide ((p.Y : Int) < ((FedgeBox (TEdge.mk 3 a0 a1 a2)).Y0))) = false), (bif !(wof3_2 a0 a1 a2) then true else decide ((p.Y : Int) < ((FedgeBox (TEdge.mk 3 a0 a1 a2)).Y0))) = false → ((bif !(wof3_2 a0 a1 a2) then true else decide ((p.Y : Int) < ((FedgeBox (TEdge.mk 3 a0 a1 a2)).Y0))) = false), ((bif bif !(wof3_2 a0 a1 a2) then true else decide ((p.Y : Int) < ((FedgeBox (TEdge.mk 3 a0 a1 a2)).Y0)) then true else decide ((((FedgeBox (TEdge.mk 3 a0 a1 a2)).Y1) : Int) ≤ p.Y)) = false) → ((bif bif !(wof3_2 a0 a1 a2) then true else decide ((p.Y : Int) < ((FedgeBox (TEdge.mk 3 a0 a1 a2)).Y0)) then true else decide ((((FedgeBox (TEdge.mk 3 a0 a1 a2)).Y1) : Int) ≤ p.Y)) = false), ((bif bif !(wof3_2 a0 a1 a2) then true else decide ((p.Y : Int) < ((FedgeBox (TEdge.mk 3 a0 a1 a2)).Y0)) then true else decide ((((FedgeBox (TEdge.mk 3 a0 a1 a2)).Y1) : Int) ≤ p.Y)) = false) → ((bif bif !(wof3_2 a0 a1 a2) then true else decide ((p.Y : Int) < ((FedgeBox (TEdge.mk 3 a0 a1 a2)).Y0)) then true else decide ((((FedgeBox (TEdge.mk 3 a0 a1 a2)).Y1) : Int) ≤ p.Y)) = false), ((bif bif !(wof3_2 a0 a1 a2) then true else decide ((p.Y : Int) < ((FedgeBox (TEdge.mk 3 a0 a1 a2)).Y0)) then true else decide ((((FedgeBox (TEdge.mk 3 a0 a1 a2)).Y1) : Int) ≤ p.Y)) = false) → ((bif bif !(wof3_2 a0 a1 a2) then true else decide ((p.Y : Int) < ((FedgeBox (TEdge.mk 3 a0 a1 a2)).Y0)) then true else decide ((((FedgeBox (TEdge.mk 3 a0 a1 a2)).Y1) : Int) ≤ p.Y)) = false), ((bif bif !(wof3_2 a0 a1 a2) then true else decide ((p.Y : Int) < ((FedgeBox (TEdge.mk 3 a0 a1 a2)).Y0)) then true else decide ((((FedgeBox (TEdge.mk 3 a0 a1 a2)).Y1) : Int) ≤ p.Y)) = false) → ((bif bif !(wof3_2 a0 a1 a2) then true else decide ((p.Y : Int) < ((FedgeBox (TEdge.mk 3 a0 a1 a2)).Y0)) then true else decide ((((FedgeBox (TEdge.mk 3 a0 a1 a2)).Y1) : Int) ≤ p.Y)) = false), (bif bif !(wof3_2 a0 a1 a2) then true else decide ((p.Y : Int) < ((FedgeBox (TEdge.mk 3 a0 a1 a2)).Y0)) then true else decide ((((FedgeBox (TEdge.mk 3 a0 a1 a2)).Y1) : Int) ≤ p.Y)) = false → ((bif bif !(wof3_2 a0 a1 a2) then true else decide ((p.Y : Int) < ((FedgeBox (TEdge.mk 3 a0 a1 a2)).Y0)) then true else decide ((((FedgeBox (TEdge.mk 3 a0 a1 a2)).Y1) : Int) ≤ p.Y)) = false)] ⟨[(2, tP 2 0), (3, tP 3 0), (5, tP 5 0), (7, tP 7 0), (37, tB (bif bif bif !(wof3_2 a0 a1 a2) then true else decide ((p.Y : Int) < ((FedgeBox (TEdge.mk 3 a0 a1 a2)).Y0)) then true else decide ((((FedgeBox (TEdge.mk 3 a0 a1 a2)).Y1) : Int) ≤ p.Y) then true else decide ((((FedgeBox (TEdge.mk 3 a0 a1 a2)).X1) : Int) ≤ p.X)))], [(2, .cells [.i 3, .i a0.X, .i a0.Y, .i a1.X, .i a1.Y, .i a2.X, .i a2.Y] 35), (3, .cells (TPoint.c p) 29), (5, .cells [.clo 104 0 (fun _ => default), .clo 102 0 (fun _ => default), .clo 103 0 (fun _ => default), .i 2] 94), (7, .cells (TRect.c (FedgeBox (TEdge.mk 3 a0 a1 a2))) 54)]⟩ .nil (by kernel_rfl) (.cons id (.cons id (.cons id (.cons id (.cons id (.cons id (.cons id (.cons id (.cons id (.cons id (.cons id (.cons id (.cons id (.cons id (.cons id .nil))))))))))))))) <| ath_n ?_
 refine aw_cond (bif bif bif !(wof3_2 a0 a1 a2) then true else decide ((p.Y : Int) < ((FedgeBox (TEdge.mk 3 a0 a1 a2)).Y0)) then true else decide ((((FedgeBox (TEdge.mk 3 a0 a1 a2)).Y1) : Int) ≤ p.Y) then true else decide ((((FedgeBox (TEdge.mk 3 a0 a1 a2)).X1) : Int) ≤ p.X)) (by kernel_rfl) (fun h1 => ?_) (fun h1 => ?_)
 ·refine aw_seq ?_
  refine aw_region eqok [] [] [] [4] [] [] ⟨[(4, tI 0)], []⟩ .nil (by kernel_rfl) .nil <| ath_n ?_
  refine aw_ret <| ath_r ?_
  exact ⟨_, Cv.refl _, .inl rfl, .av (.one (.i 0)), by kernel_rfl, tve_eq (by first | (simp only [FRay3, h1, cond_true, cond_false]; done) | (simp only [FRay3, h1, cond_true, cond_false]; rfl))⟩
 ·refine aw_skip <| ath_n ?_
  refine aw_seq <| aw_seq ?_
  refine aw_region eqok [] [] [(48, cedgebeside (TEdge.mk 3 a0 a1 a2) p)] [2, 49] [2] [((decide ((p.X : Int) < ((FedgeBox (TEdge.mk 3 a0 a1 a2)).X0))) = false) → ((decide ((p.X : Int) < ((FedgeBox (TEdge.mk 3 a0 a1 a2)).X0))) = false), ((decide ((p.X : Int) < ((FedgeBox (TEdge.mk 3 a0 a1 a2)).X0))) = false) → ((decide ((p.X : Int) < ((FedgeBox (TEdge.mk 3 a0 a1 a2)).X0))) = false), ((decide ((p.X : Int) < ((FedgeBox (TEdge.mk 3 a0 a1 a2)).X0))) = false) → ((decide ((p.X : Int) < ((FedgeBox (TEdge.mk 3 a0 a1 a2)).X0))) = false), ((decide ((p.X : Int) < ((FedgeBox (TEdge.mk 3 a0 a1 a2)).X0))) = false) → ((decide ((p.X : Int) < ((FedgeBox (TEdge.mk 3 a0 a1 a2)).X0))) = false), ((decide ((p.X : Int) < ((FedgeBox (TEdge.mk 3 a0 a1 a2)).X0))) = false) → (Same (cedgebeside (TEdge.mk 3 a0 a1 a2) p).2.1), (decide ((p.X : Int) < ((FedgeBox (TEdge.mk 3 a0 a1 a2)).X0))) = false → ((decide ((p.X : Int) < ((FedgeBox (TEdge.mk 3 a0 a1 a2)).X0))) = false)] ⟨[(2, tP 2 0), (49, tB (bif decide ((p.X : Int) < ((FedgeBox (TEdge.mk 3 a0 a1 a2)).X0)) then true else Fedgebeside (TEdge.mk 3 a0 a1 a2) p))], [(2, .cells [.i 3, .i a0.X, .i a0.Y, .i a1.X, .i a1.Y, .i a2.X, .i a2.Y] 35)]⟩ (.cons (okedgebeside (TEdge.mk 3 a0 a1 a2) p) .nil) (by kernel_rfl) (.cons id (.cons id (.cons id (.cons id (.cons (fun _ => rfl) (.cons id .nil)))))) <| ath_n ?_
  refine aw_cond (bif decide ((p.X : Int) < ((FedgeBox (TEdge.mk 3 a0 a1 a2)).X0)) then true else Fedgebeside (TEdge.mk 3 a0 a1 a2) p) (by kernel_rfl) (fun h2 => ?_) (fun h2 => ?_)
  ·refine aw_seq ?_
   refine aw_region eqok [] [] [(51, cedgeupward (TEdge.mk 3 a0 a1 a2))] [4] [] [Same (cedgeupward (TEdge.mk 3 a0 a1 a2)).2.1] ⟨[(4, tI (Fedgeupward (TEdge.mk 3 a0 a1 a2)))], []⟩ (.cons (okedgeupward (TEdge.mk 3 a0 a1 a2)) .nil) (by kernel_rfl) (.cons rfl .nil) <| ath_n ?_
   refine aw_ret <| ath_r ?_
   exact ⟨_, Cv.refl _, .inl rfl, .av (.one (.i (Fedgeupward (TEdge.mk 3 a0 a1 a2)))), by kernel_rfl, tve_eq (by first | (simp only [FRay3, h1, h2, cond_true, cond_false]; done) | (simp only [FRay3, h1, h2, cond_true, cond_false]; rfl))⟩
  ·refine aw_skip <| ath_n <| aw_seq ?_
   refine aw_region eqok [] [] [] [4] [] [] ⟨[(4, tI 0)], []⟩ .nil (by kernel_rfl) .nil <| ath_n <| aw_ret ?_
   exact ⟨_, Cv.refl _, .inl rfl, .av (.one (.i 0)), by kernel_rfl, tve_eq (by first | (simp only [FRay3, h1, h2, cond_true, cond_false]; done) | (simp only [FRay3, h1, h2, cond_true, cond_false]; rfl))⟩
def FRayN (e : TEdge) (p : TPoint) : Int := 0
def cRayN (e : TEdge) (p : TPoint) : FuncId × List Av × Ef := (48, [.agg (TEdge.c e), .agg (TPoint.c p)], .val [] (.av (.one (.i (FRayN e p)))))
theorem pRayN (e : TEdge) (p : TPoint) (k1 : ¬ e.Kind = 1) (k2 : ¬ e.Kind = 2) (k3 : ¬ e.Kind = 3) : Pure Try.prog 48 (cRayN e p).2.1 (.av (.one (.i (FRayN e p)))) := by
 refine pure_of_awF Try.func48 rfl (by kernel_rfl) (by kernel_rfl) fun W0 M0 => ?_
 refine aw_seq ?_
 refine aw_region eqok [] [] [] [2, 3] [2, 3] [] ⟨[(2, tP 2 0), (3, tP 3 0)], [(2, .cells (TEdge.c e) 35), (3, .cells (TPoint.c p) 29)]⟩ .nil (by kernel_rfl) .nil <| ath_n <| aw_seq ?_
 refine aw_region eqok [] [] [(10, cofN e)] [2, 3, 5, 6] [2, 3, 5] [Same (cofN e).2.1] ⟨[(2, tP 2 0), (3, tP 3 0), (5, tP 5 0), (6, tB false)], [(2, .cells (TEdge.c e) 35), (3, .cells (TPoint.c p) 29), (5, .cells [.val .nilFunc, .val .nilFunc, .val .nilFunc, .i e.Kind] 94)]⟩ (.cons (okofN e k1 k2 k3) .nil) (by kernel_rfl) (.cons rfl .nil) <| ath_n <| aw_seq ?_
 refine aw_region eqok [] [] [(14, cedgeBox e)] [2, 3, 5, 6, 7] [2, 3, 5, 7] [Same (cedgeBox e).2.1] ⟨[(2, tP 2 0), (3, tP 3 0), (5, tP 5 0), (6, tB false), (7, tP 7 0)], [(2, .cells (TEdge.c e) 35), (3, .cells (TPoint.c p) 29), (5, .cells [.val .nilFunc, .val .nilFunc, .val .nilFunc, .i e.Kind] 94), (7, .cells (TRect.c (FedgeBox e)) 54)]⟩ (.cons (okedgeBox e) .nil) (by kernel_rfl) (.cons rfl .nil) <| ath_n ?_
 refine aw_seq <| aw_seq ?_
 refine aw_region eqok [] [] [] [2, 3, 5, 7, 37] [2, 3, 5, 7] [((true) = false) → ((true) = false), ((true) = false) → ((true) = false), ((true) = false) → ((true) = false), ((true) = false) → ((true) = false), (true) = false → ((true) = false), ((true) = false) → ((true) = false), ((true) = false) → ((true) = false), ((true) = false) → ((true) = false), ((true) = false) → ((true) = false), (true) = false → ((true) = false), ((true) = false) → ((true) = false), ((true) = false) → ((true) = false), ((true) = false) → ((true) = false), ((true) = false) → ((true) = false), (true) = false → ((true) = false)] ⟨[(2, tP 2 0), (3, tP 3 0), (5, tP 5 0), (7, tP 7 0), (37, tB true)], [(2, .cells (TEdge.c e) 35), (3, .cells (TPoint.c p) 29), (5, .cells [.val .nilFunc, .val .nilFunc, .val .nilFunc, .i e.Kind] 94), (7, .cells (TRect.c (FedgeBox e)) 54)]⟩ .nil (by kernel_rfl) (.cons id (.cons id (.cons id (.cons id (.cons id (.cons id (.cons id (.cons id (.cons id (.cons id (.cons id (.cons id (.cons id (.cons id (.cons id .nil))))))))))))))) <| ath_n ?_
 refine aw_cond_t (by kernel_rfl) <| aw_seq ?_
 refine aw_region eqok [] [] [] [4] [] [] ⟨[(4, tI 0)], []⟩ .nil (by kernel_rfl) .nil <| ath_n ?_
 refine aw_ret <| ath_r ?_
 exact ⟨_, Cv.refl _, .inl rfl, .av (.one (.i 0)), by kernel_rfl, tve_eq (by rfl)⟩
def FRay (e : TEdge) (p : TPoint) : Int := if e.Kind = 1 then FRay1 e.A e.B e.C p else if e.Kind = 2 then FRay2 e.A e.B e.C p else if e.Kind = 3 then FRay3 e.A e.B e.C p else FRayN e p
def cRay (e : TEdge) (p : TPoint) : FuncId × List Av × Ef := (48, [.agg (TEdge.c e), .agg (TPoint.c p)], .val [] (.av (.one (.i (FRay e p)))))
theorem pRay (e : TEdge) (p : TPoint) : Pure Try.prog 48 (cRay e p).2.1 (.av (.one (.i (FRay e p)))) := by
 by_cases k1 : e.Kind = 1
 ·have hF : FRay e p = FRay1 e.A e.B e.C p := by unfold FRay; rw [if_pos k1]
  rw [hF]; obtain ⟨k, a0, a1, a2⟩ := e; simp only at k1; subst k1; exact pRay1 a0 a1 a2 p
 by_cases k2 : e.Kind = 2
 ·have hF : FRay e p = FRay2 e.A e.B e.C p := by unfold FRay; rw [if_neg k1]; rw [if_pos k2]
  rw [hF]; obtain ⟨k, a0, a1, a2⟩ := e; simp only at k2; subst k2; exact pRay2 a0 a1 a2 p
 by_cases k3 : e.Kind = 3
 ·have hF : FRay e p = FRay3 e.A e.B e.C p := by unfold FRay; rw [if_neg k1]; rw [if_neg k2]; rw [if_pos k3]
  rw [hF]; obtain ⟨k, a0, a1, a2⟩ := e; simp only at k3; subst k3; exact pRay3 a0 a1 a2 p
 have hF : FRay e p = FRayN e p := by unfold FRay; rw [if_neg k1, if_neg k2, if_neg k3]
 rw [hF]; exact pRayN e p k1 k2 k3
theorem okRay (e : TEdge) (p : TPoint) : CallOk Try.prog (cRay e p).1 (cRay e p).2.1 (cRay e p).2.2 := callOk_pure (fun _ _ => by kernel_rfl) fun _ => pRay e p
end Go.Proofs.Ytpnlegfdkkcnlaa
namespace Go.Proofs.Ytpnlegfdkkcnlaa
set_option maxRecDepth 100000
open Go.ChangeShapes Go.WideShapes Go.ChangeAt Go.RowKit
theorem own : ownKnob Try.prog.godebug = none := by kernel_rfl
theorem laidOut : laidOutB Try.prog = true := by kernel_rfl
theorem opT22 : Opens Try.prog 22 (fun xs : List Int => [lst 1 (fun x => [.i x]) xs]) (fun xs => xs.length ≤ maxLen ∧ ∀ x ∈ xs, WF .i64 x) := opens_slice 1 Try.underlying22 (by kernel_rfl) (by decide) (opens_int Try.underlying3)
def TA59.ok (x : TA59) : Prop := WF .u8 x.e0 ∧ WF .u8 x.e1 ∧ True
def TPoint.ok (x : TPoint) : Prop := WF .i64 x.X ∧ WF .i64 x.Y ∧ True
def TMotion.ok (x : TMotion) : Prop := TPoint.ok x.At ∧ WF .i64 x.Turn ∧ True ∧ True
def TEdge.ok (x : TEdge) : Prop := WF .i64 x.Kind ∧ TPoint.ok x.A ∧ TPoint.ok x.B ∧ TPoint.ok x.C ∧ True
def TShape.ok (x : TShape) : Prop := WF .i64 x.Kind ∧ (x.Edges.length ≤ maxLen ∧ ∀ y ∈ x.Edges, TEdge.ok y) ∧ WF .i64 x.R ∧ True
def TOdd.ok (x : TOdd) : Prop := WF .u8 x.Which ∧ WF .i64 x.N ∧ True
theorem opT50 : Opens Try.prog 50 TOdd.c TOdd.ok := by
 refine opens_map (opens_struct Try.underlying50 (by kernel_rfl) (opensF_cons 1 (by kernel_rfl) rfl (opens_int Try.underlying5) (opensF_cons 1 (by kernel_rfl) rfl (opens_int Try.underlying3) opensF_nil))) ?_
 rintro ⟨a0, a1, _⟩ ⟨h0, h1, _⟩
 exact ⟨⟨a0, a1⟩, ⟨h0, h1, trivial⟩, rfl⟩
end Go.Proofs.Ytpnlegfdkkcnlaa
namespace Go.Proofs.Ytpnlegfdkkcnlaa
set_option maxRecDepth 100000
open Go.RowKit
set_option linter.unusedVariables false
set_option linter.unusedSimpArgs false
def Fref05Right (x0 : TPoint) : Bool := bif bif bif decide ((((-67108864)) : Int) ≤ x0.X) then decide ((x0.X : Int) ≤ 67108864) else false then decide ((((-67108864)) : Int) ≤ x0.Y) else false then decide ((x0.Y : Int) ≤ 67108864) else false
def cref05Right (x0 : TPoint) : FuncId × List Av × Ef := (21, [.agg (TPoint.c x0)], .val [] (.av (.one (.b (Fref05Right x0)))))
theorem pref05Right (x0 : TPoint) : Pure Try.prog 21 (cref05Right x0).2.1 (.av (.one (.b (Fref05Right x0)))) := by
 refine pure_of_awF Try.func21 rfl (by kernel_rfl) (by kernel_rfl) fun W0 M0 => ?_
 refine aw_seq ?_
 refine aw_region eqok [] [] [] [1] [1] [] ⟨[(1, tP 1 0)], [(1, .cells (TPoint.c x0) 29)]⟩ .nil (by kernel_rfl) .nil <| ath_n <| aw_seq ?_
 refine aw_region eqok [] [] [] [2] [] [((decide ((((-67108864)) : Int) ≤ x0.X)) = true) → ((decide ((((-67108864)) : Int) ≤ x0.X)) = true), ((decide ((((-67108864)) : Int) ≤ x0.X)) = true) → ((decide ((((-67108864)) : Int) ≤ x0.X)) = true), (decide ((((-67108864)) : Int) ≤ x0.X)) = true → ((decide ((((-67108864)) : Int) ≤ x0.X)) = true), ((bif decide ((((-67108864)) : Int) ≤ x0.X) then decide ((x0.X : Int) ≤ 67108864) else false) = true) → ((bif decide ((((-67108864)) : Int) ≤ x0.X) then decide ((x0.X : Int) ≤ 67108864) else false) = true), ((bif decide ((((-67108864)) : Int) ≤ x0.X) then decide ((x0.X : Int) ≤ 67108864) else false) = true) → ((bif decide ((((-67108864)) : Int) ≤ x0.X) then decide ((x0.X : Int) ≤ 67108864) else false) = true), (bif decide ((((-67108864)) : Int) ≤ x0.X) then decide ((x0.X : Int) ≤ 67108864) else false) = true → ((bif decide ((((-67108864)) : Int) ≤ x0.X) then decide ((x0.X : Int) ≤ 67108864) else false) = true), ((bif bif decide ((((-67108864)) : Int) ≤ x0.X) then decide ((x0.X : Int) ≤ 67108864) else false then decide ((((-67108864)) : Int) ≤ x0.Y) else false) = true) → ((bif bif decide ((((-67108864)) : Int) ≤ x0.X) then decide ((x0.X : Int) ≤ 67108864) else false then decide ((((-67108864)) : Int) ≤ x0.Y) else false) = true), ((bif bif decide ((((-67108864)) : Int) ≤ x0.X) then decide ((x0.X : Int) ≤ 67108864) else false then decide ((((-67108864)) : Int) ≤ x0.Y) else false) = true) → ((bif bif decide ((((-67108864)) : Int) ≤ x0.X) then decide ((x0.X : Int) ≤ 67108864) else false then decide ((((-67108864)) : Int) ≤ x0.Y) else false) = true), (bif bif decide ((((-67108864)) : Int) ≤ x0.X) then decide ((x0.X : Int) ≤ 67108864) else false then decide ((((-67108864)) : Int) ≤ x0.Y) else false) = true → ((bif bif decide ((((-67108864)) : Int) ≤ x0.X) then decide ((x0.X : Int) ≤ 67108864) else false then decide ((((-67108864)) : Int) ≤ x0.Y) else false) = true)] ⟨[(2, tB (bif bif bif decide ((((-67108864)) : Int) ≤ x0.X) then decide ((x0.X : Int) ≤ 67108864) else false then decide ((((-67108864)) : Int) ≤ x0.Y) else false then decide ((x0.Y : Int) ≤ 67108864) else false))], []⟩ .nil (by kernel_rfl) (.cons id (.cons id (.cons id (.cons id (.cons id (.cons id (.cons id (.cons id (.cons id .nil))))))))) <| ath_n <| aw_ret ?_
 exact ⟨_, Cv.refl _, .inl rfl, .av (.one (.b (bif bif bif decide ((((-67108864)) : Int) ≤ x0.X) then decide ((x0.X : Int) ≤ 67108864) else false then decide ((((-67108864)) : Int) ≤ x0.Y) else false then decide ((x0.Y : Int) ≤ 67108864) else false))), by kernel_rfl, tve_eq (by rfl)⟩
theorem okref05Right (x0 : TPoint) : CallOk Try.prog (cref05Right x0).1 (cref05Right x0).2.1 (cref05Right x0).2.2 := callOk_pure (fun _ _ => by kernel_rfl) fun _ => pref05Right x0
def Fref05Sub (x0 : TPoint) (x1 : TPoint) : TPoint := TPoint.mk (W64 (x0.X - x1.X)) (W64 (x0.Y - x1.Y))
def cref05Sub (x0 : TPoint) (x1 : TPoint) : FuncId × List Av × Ef := (56, [.agg (TPoint.c x0), .agg (TPoint.c x1)], .val [] (.av (.agg (TPoint.c (Fref05Sub x0 x1)))))
theorem pref05Sub (x0 : TPoint) (x1 : TPoint) : Pure Try.prog 56 (cref05Sub x0 x1).2.1 (.av (.agg (TPoint.c (Fref05Sub x0 x1)))) := by
 refine pure_of_awF Try.func56 rfl (by kernel_rfl) (by kernel_rfl) fun W0 M0 => ?_
 refine aw_seq ?_
 refine aw_region eqok [] [] [] [2, 3, 4] [2, 3, 4] [] ⟨[(2, tP 2 0), (3, tP 3 0), (4, tP 4 0)], [(2, .cells (TPoint.c x0) 29), (3, .cells (TPoint.c x1) 29), (4, .cells [.i 0, .i 0] 29)]⟩ .nil (by kernel_rfl) .nil <| ath_n <| aw_seq ?_
 refine aw_region eqok [] [] [] [4] [4] [] ⟨[(4, tP 4 0)], [(4, .cells [.i (W64 (x0.X - x1.X)), .i (W64 (x0.Y - x1.Y))] 29)]⟩ .nil (by kernel_rfl) .nil <| ath_n <| aw_ret ?_
 exact ⟨_, Cv.refl _, .inl rfl, .av (.agg [.i (W64 (x0.X - x1.X)), .i (W64 (x0.Y - x1.Y))]), by kernel_rfl, tve_eq (by rfl)⟩
theorem okref05Sub (x0 : TPoint) (x1 : TPoint) : CallOk Try.prog (cref05Sub x0 x1).1 (cref05Sub x0 x1).2.1 (cref05Sub x0 x1).2.2 := callOk_pure (fun _ _ => by kernel_rfl) fun _ => pref05Sub x0 x1
def Fref05Add (x0 : TPoint) (x1 : TPoint) : TPoint := TPoint.mk (W64 (x0.X + x1.X)) (W64 (x0.Y + x1.Y))
def cref05Add (x0 : TPoint) (x1 : TPoint) : FuncId × List Av × Ef := (17, [.agg (TPoint.c x0), .agg (TPoint.c x1)], .val [] (.av (.agg (TPoint.c (Fref05Add x0 x1)))))
theorem pref05Add (x0 : TPoint) (x1 : TPoint) : Pure Try.prog 17 (cref05Add x0 x1).2.1 (.av (.agg (TPoint.c (Fref05Add x0 x1)))) := by
 refine pure_of_awF Try.func17 rfl (by kernel_rfl) (by kernel_rfl) fun W0 M0 => ?_
 refine aw_seq ?_
 refine aw_region eqok [] [] [] [2, 3, 4] [2, 3, 4] [] ⟨[(2, tP 2 0), (3, tP 3 0), (4, tP 4 0)], [(2, .cells (TPoint.c x0) 29), (3, .cells (TPoint.c x1) 29), (4, .cells [.i 0, .i 0] 29)]⟩ .nil (by kernel_rfl) .nil <| ath_n <| aw_seq ?_
 refine aw_region eqok [] [] [] [4] [4] [] ⟨[(4, tP 4 0)], [(4, .cells [.i (W64 (x0.X + x1.X)), .i (W64 (x0.Y + x1.Y))] 29)]⟩ .nil (by kernel_rfl) .nil <| ath_n <| aw_ret ?_
 exact ⟨_, Cv.refl _, .inl rfl, .av (.agg [.i (W64 (x0.X + x1.X)), .i (W64 (x0.Y + x1.Y))]), by kernel_rfl, tve_eq (by rfl)⟩
theorem okref05Add (x0 : TPoint) (x1 : TPoint) : CallOk Try.prog (cref05Add x0 x1).1 (cref05Add x0 x1).2.1 (cref05Add x0 x1).2.2 := callOk_pure (fun _ _ => by kernel_rfl) fun _ => pref05Add x0 x1
def Fref05Dot (x0 : TPoint) (x1 : TPoint) : Int := W64 ((W64 (x0.X * x1.X)) + (W64 (x0.Y * x1.Y)))
def cref05Dot (x0 : TPoint) (x1 : TPoint) : FuncId × List Av × Ef := (90, [.agg (TPoint.c x0), .agg (TPoint.c x1)], .val [] (.av (.one (.i (Fref05Dot x0 x1)))))
theorem pref05Dot (x0 : TPoint) (x1 : TPoint) : Pure Try.prog 90 (cref05Dot x0 x1).2.1 (.av (.one (.i (Fref05Dot x0 x1)))) := by
 refine pure_of_awF Try.func90 rfl (by kernel_rfl) (by kernel_rfl) fun W0 M0 => ?_
 refine aw_seq ?_
 refine aw_region eqok [] [] [] [2, 3] [2, 3] [] ⟨[(2, tP 2 0), (3, tP 3 0)], [(2, .cells (TPoint.c x0) 29), (3, .cells (TPoint.c x1) 29)]⟩ .nil (by kernel_rfl) .nil <| ath_n <| aw_seq ?_
 refine aw_region eqok [] [] [] [4] [] [] ⟨[(4, tI (W64 ((W64 (x0.X * x1.X)) + (W64 (x0.Y * x1.Y)))))], []⟩ .nil (by kernel_rfl) .nil <| ath_n <| aw_ret ?_
 exact ⟨_, Cv.refl _, .inl rfl, .av (.one (.i (W64 ((W64 (x0.X * x1.X)) + (W64 (x0.Y * x1.Y)))))), by kernel_rfl, tve_eq (by rfl)⟩
theorem okref05Dot (x0 : TPoint) (x1 : TPoint) : CallOk Try.prog (cref05Dot x0 x1).1 (cref05Dot x0 x1).2.1 (cref05Dot x0 x1).2.2 := callOk_pure (fun _ _ => by kernel_rfl) fun _ => pref05Dot x0 x1
def Fref05Cross (x0 : TPoint) (x1 : TPoint) : Int := W64 ((W64 (x0.X * x1.Y)) - (W64 (x0.Y * x1.X)))
def cref05Cross (x0 : TPoint) (x1 : TPoint) : FuncId × List Av × Ef := (96, [.agg (TPoint.c x0), .agg (TPoint.c x1)], .val [] (.av (.one (.i (Fref05Cross x0 x1)))))
theorem pref05Cross (x0 : TPoint) (x1 : TPoint) : Pure Try.prog 96 (cref05Cross x0 x1).2.1 (.av (.one (.i (Fref05Cross x0 x1)))) := by
 refine pure_of_awF Try.func96 rfl (by kernel_rfl) (by kernel_rfl) fun W0 M0 => ?_
 refine aw_seq ?_
 refine aw_region eqok [] [] [] [2, 3] [2, 3] [] ⟨[(2, tP 2 0), (3, tP 3 0)], [(2, .cells (TPoint.c x0) 29), (3, .cells (TPoint.c x1) 29)]⟩ .nil (by kernel_rfl) .nil <| ath_n <| aw_seq ?_
 refine aw_region eqok [] [] [] [4] [] [] ⟨[(4, tI (W64 ((W64 (x0.X * x1.Y)) - (W64 (x0.Y * x1.X)))))], []⟩ .nil (by kernel_rfl) .nil <| ath_n <| aw_ret ?_
 exact ⟨_, Cv.refl _, .inl rfl, .av (.one (.i (W64 ((W64 (x0.X * x1.Y)) - (W64 (x0.Y * x1.X)))))), by kernel_rfl, tve_eq (by rfl)⟩
theorem okref05Cross (x0 : TPoint) (x1 : TPoint) : CallOk Try.prog (cref05Cross x0 x1).1 (cref05Cross x0 x1).2.1 (cref05Cross x0 x1).2.2 := callOk_pure (fun _ _ => by kernel_rfl) fun _ => pref05Cross x0 x1
def Fref05Turns (x0 : Int) : Int := Int.tmod (W64 ((Int.tmod x0 4) + 4)) 4
def cref05Turns (x0 : Int) : FuncId × List Av × Ef := (82, [.one (.i x0)], .val [] (.av (.one (.i (Fref05Turns x0)))))
theorem au8 {p : Prop} (h : p := by first | assumption | decide | omega) : p := h
theorem pref05Turns (x0 : Int) : Pure Try.prog 82 (cref05Turns x0).2.1 (.av (.one (.i (Fref05Turns x0)))) := by
 refine pure_of_awF Try.func82 rfl (by kernel_rfl) (by kernel_rfl) fun W0 M0 => ?_
 refine aw_seq ?_
 refine aw_region eqok [] [] [] [0] [] [] ⟨[(0, tI x0)], []⟩ .nil (by kernel_rfl) .nil <| ath_n <| aw_seq ?_
 refine aw_region eqok [] [] [] [2] [] [(4 : Int) ≠ 0, (4 : Int) ≠ 0] ⟨[(2, tI (Int.tmod (W64 ((Int.tmod x0 4) + 4)) 4))], []⟩ .nil (by kernel_rfl) (.cons au8 (.cons au8 .nil)) <| ath_n <| aw_ret ?_
 exact ⟨_, Cv.refl _, .inl rfl, .av (.one (.i (Int.tmod (W64 ((Int.tmod x0 4) + 4)) 4))), by kernel_rfl, tve_eq (by rfl)⟩
theorem okref05Turns (x0 : Int) : CallOk Try.prog (cref05Turns x0).1 (cref05Turns x0).2.1 (cref05Turns x0).2.2 := callOk_pure (fun _ _ => by kernel_rfl) fun _ => pref05Turns x0
def Fref05turned (x0 : TPoint) (x1 : Int) : TPoint := bif decide (((Fref05Turns x1) : Int) = 1) then (TPoint.mk (W64 (0 - x0.Y)) x0.X) else (bif decide (((Fref05Turns x1) : Int) = 2) then (TPoint.mk (W64 (0 - x0.X)) (W64 (0 - x0.Y))) else (bif decide (((Fref05Turns x1) : Int) = 3) then (TPoint.mk x0.Y (W64 (0 - x0.X))) else (x0)))
def cref05turned (x0 : TPoint) (x1 : Int) : FuncId × List Av × Ef := (52, [.agg (TPoint.c x0), .one (.i x1)], .val [] (.av (.agg (TPoint.c (Fref05turned x0 x1)))))
theorem pref05turned (x0 : TPoint) (x1 : Int) : Pure Try.prog 52 (cref05turned x0 x1).2.1 (.av (.agg (TPoint.c (Fref05turned x0 x1)))) := by
 refine pure_of_awF Try.func52 rfl (by kernel_rfl) (by kernel_rfl) fun W0 M0 => ?_
 refine aw_seq ?_
 refine aw_region eqok [] [] [] [1, 2, 4] [2, 4] [] ⟨[(1, tI x1), (2, tP 2 0), (4, tP 4 0)], [(2, .cells (TPoint.c x0) 29), (4, .cells [.i 0, .i 0] 29)]⟩ .nil (by kernel_rfl) .nil <| ath_n ?_
 refine aw_seq <| aw_seq ?_
 refine aw_region eqok [] [] [(6, cref05Turns x1)] [2, 4, 6] [2, 4] [Same (cref05Turns x1).2.1] ⟨[(2, tP 2 0), (4, tP 4 0), (6, tI (Fref05Turns x1))], [(2, .cells (TPoint.c x0) 29), (4, .cells [.i 0, .i 0] 29)]⟩ (.cons (okref05Turns x1) .nil) (by kernel_rfl) (.cons rfl .nil) <| ath_n ?_
 refine aw_block <| aw_seq ?_
 refine aw_region eqok [] [] [] [2, 4, 6, 7] [2, 4] [] ⟨[(2, tP 2 0), (4, tP 4 0), (6, tI (Fref05Turns x1)), (7, tB (decide (((Fref05Turns x1) : Int) = 1)))], [(2, .cells (TPoint.c x0) 29), (4, .cells [.i 0, .i 0] 29)]⟩ .nil (by kernel_rfl) .nil <| ath_n ?_
 refine aw_cond (decide (((Fref05Turns x1) : Int) = 1)) (by kernel_rfl) (fun h1 => ?_) (fun h1 => ?_)
 ·have g1 := of_decide_eq_true h1
  refine aw_seq ?_
  refine aw_region eqok [] [] [] [4] [4] [] ⟨[(4, tP 4 0)], [(4, .cells [.i (W64 (0 - x0.Y)), .i x0.X] 29)]⟩ .nil (by kernel_rfl) .nil <| ath_n ?_
  refine aw_ret <| abl_r <| ath_r ?_
  exact ⟨_, Cv.refl _, .inl rfl, .av (.agg [.i (W64 (0 - x0.Y)), .i x0.X]), by kernel_rfl, tve_eq (by first | (simp only [Fref05turned, h1, cond_true, cond_false]; done) | (simp only [Fref05turned, h1, cond_true, cond_false]; rfl))⟩
 ·have g1 := of_decide_eq_false h1
  refine aw_seq ?_
  refine aw_region eqok [] [] [] [2, 4, 6, 15] [2, 4] [] ⟨[(2, tP 2 0), (4, tP 4 0), (6, tI (Fref05Turns x1)), (15, tB (decide (((Fref05Turns x1) : Int) = 2)))], [(2, .cells (TPoint.c x0) 29), (4, .cells [.i 0, .i 0] 29)]⟩ .nil (by kernel_rfl) .nil <| ath_n ?_
  refine aw_cond (decide (((Fref05Turns x1) : Int) = 2)) (by kernel_rfl) (fun h2 => ?_) (fun h2 => ?_)
  ·have g2 := of_decide_eq_true h2
   refine aw_seq ?_
   refine aw_region eqok [] [] [] [4] [4] [] ⟨[(4, tP 4 0)], [(4, .cells [.i (W64 (0 - x0.X)), .i (W64 (0 - x0.Y))] 29)]⟩ .nil (by kernel_rfl) .nil <| ath_n ?_
   refine aw_ret <| abl_r <| ath_r ?_
   exact ⟨_, Cv.refl _, .inl rfl, .av (.agg [.i (W64 (0 - x0.X)), .i (W64 (0 - x0.Y))]), by kernel_rfl, tve_eq (by first | (simp only [Fref05turned, h1, h2, cond_true, cond_false]; done) | (simp only [Fref05turned, h1, h2, cond_true, cond_false]; rfl))⟩
  ·have g2 := of_decide_eq_false h2
   refine aw_seq ?_
   refine aw_region eqok [] [] [] [2, 4, 24] [2, 4] [] ⟨[(2, tP 2 0), (4, tP 4 0), (24, tB (decide (((Fref05Turns x1) : Int) = 3)))], [(2, .cells (TPoint.c x0) 29), (4, .cells [.i 0, .i 0] 29)]⟩ .nil (by kernel_rfl) .nil <| ath_n ?_
   refine aw_cond (decide (((Fref05Turns x1) : Int) = 3)) (by kernel_rfl) (fun h3 => ?_) (fun h3 => ?_)
   ·have g3 := of_decide_eq_true h3
    refine aw_seq ?_
    refine aw_region eqok [] [] [] [4] [4] [] ⟨[(4, tP 4 0)], [(4, .cells [.i x0.Y, .i (W64 (0 - x0.X))] 29)]⟩ .nil (by kernel_rfl) .nil <| ath_n ?_
    refine aw_ret <| abl_r <| ath_r ?_
    exact ⟨_, Cv.refl _, .inl rfl, .av (.agg [.i x0.Y, .i (W64 (0 - x0.X))]), by kernel_rfl, tve_eq (by first | (simp only [Fref05turned, h1, h2, h3, cond_true, cond_false]; done) | (simp only [Fref05turned, h1, h2, h3, cond_true, cond_false]; rfl))⟩
   ·have g3 := of_decide_eq_false h3
    refine aw_skip <| abl_n ?_
    refine ath_n <| aw_seq ?_
    refine aw_region eqok [] [] [] [4] [4] [] ⟨[(4, tP 4 0)], [(4, .cells (TPoint.c x0) 29)]⟩ .nil (by kernel_rfl) .nil <| ath_n <| aw_ret ?_
    exact ⟨_, Cv.refl _, .inl rfl, .av (.agg (TPoint.c x0)), by kernel_rfl, tve_eq (by first | (simp only [Fref05turned, h1, h2, h3, cond_true, cond_false]; done) | (simp only [Fref05turned, h1, h2, h3, cond_true, cond_false]; rfl))⟩
theorem okref05turned (x0 : TPoint) (x1 : Int) : CallOk Try.prog (cref05turned x0 x1).1 (cref05turned x0 x1).2.1 (cref05turned x0 x1).2.2 := callOk_pure (fun _ _ => by kernel_rfl) fun _ => pref05turned x0 x1
def Fref05mirrored (x0 : TPoint) (x1 : Bool) : TPoint := TPoint.mk (bif x1 then (W64 (0 - x0.X)) else x0.X) x0.Y
def cref05mirrored (x0 : TPoint) (x1 : Bool) : FuncId × List Av × Ef := (53, [.agg (TPoint.c x0), .one (.b x1)], .val [] (.av (.agg (TPoint.c (Fref05mirrored x0 x1)))))
theorem pref05mirrored (x0 : TPoint) (x1 : Bool) : Pure Try.prog 53 (cref05mirrored x0 x1).2.1 (.av (.agg (TPoint.c (Fref05mirrored x0 x1)))) := by
 refine pure_of_awF Try.func53 rfl (by kernel_rfl) (by kernel_rfl) fun W0 M0 => ?_
 refine aw_seq ?_
 refine aw_region eqok [] [] [] [1, 2, 4] [2, 4] [] ⟨[(1, tB x1), (2, tP 2 0), (4, tP 4 0)], [(2, .cells (TPoint.c x0) 29), (4, .cells [.i 0, .i 0] 29)]⟩ .nil (by kernel_rfl) .nil <| ath_n ?_
 refine aw_seq <| aw_seq ?_
 refine aw_region eqok [] [] [] [2, 4, 5] [2, 4] [] ⟨[(2, tP 2 0), (4, tP 4 0), (5, tB x1)], [(2, .cells (TPoint.c x0) 29), (4, .cells [.i 0, .i 0] 29)]⟩ .nil (by kernel_rfl) .nil <| ath_n ?_
 refine aw_joinC (⟨[(2, tP 2 0), (4, tP 4 0)], [(2, .cells [.i (bif x1 then (W64 (0 - x0.X)) else x0.X), .i x0.Y] 29), (4, .cells [.i 0, .i 0] 29)]⟩) ?_ ?_
 ·refine aw_cond (x1) (by kernel_rfl) (fun h1 => ?_) (fun h1 => ?_)
  ·refine aw_region eqok [] [] [] [2, 4] [2, 4] [] ⟨[(2, tP 2 0), (4, tP 4 0)], [(2, .cells [.i (W64 (0 - x0.X)), .i x0.Y] 29), (4, .cells [.i 0, .i 0] 29)]⟩ .nil (by kernel_rfl) .nil <| ath_n ?_
   refine cv_eq ?_
   first | rfl | (simp only [h1, cond_true, cond_false]; done) | (simp only [h1, cond_true, cond_false]; rfl)
  ·refine aw_skip <| ath_n ?_
   refine Cv.trans (cv_keep [2, 4] [2, 4] (⟨[(2, tP 2 0), (4, tP 4 0)], [(2, .cells (TPoint.c x0) 29), (4, .cells [.i 0, .i 0] 29)]⟩) (by kernel_rfl)) (cv_eq ?_)
   first | rfl | (simp only [h1, cond_true, cond_false]; done) | (simp only [h1, cond_true, cond_false]; rfl)
 refine aw_seq ?_
 refine aw_region eqok [] [] [] [4] [4] [] ⟨[(4, tP 4 0)], [(4, .cells [.i (bif x1 then (W64 (0 - x0.X)) else x0.X), .i x0.Y] 29)]⟩ .nil (by kernel_rfl) .nil <| ath_n <| aw_ret ?_
 exact ⟨_, Cv.refl _, .inl rfl, .av (.agg [.i (bif x1 then (W64 (0 - x0.X)) else x0.X), .i x0.Y]), by kernel_rfl, tve_eq (by rfl)⟩
theorem okref05mirrored (x0 : TPoint) (x1 : Bool) : CallOk Try.prog (cref05mirrored x0 x1).1 (cref05mirrored x0 x1).2.1 (cref05mirrored x0 x1).2.2 := callOk_pure (fun _ _ => by kernel_rfl) fun _ => pref05mirrored x0 x1
def wref05Apply_0 (x1 : TPoint) (x0 : TMotion) : TPoint := Fref05turned (Fref05mirrored x1 x0.Mirror) x0.Turn
def Fref05Apply (x0 : TMotion) (x1 : TPoint) : TPoint := Fref05Add (wref05Apply_0 x1 x0) x0.At
def cref05Apply (x0 : TMotion) (x1 : TPoint) : FuncId × List Av × Ef := (18, [.agg (TMotion.c x0), .agg (TPoint.c x1)], .val [] (.av (.agg (TPoint.c (Fref05Apply x0 x1)))))
theorem pref05Apply (x0 : TMotion) (x1 : TPoint) : Pure Try.prog 18 (cref05Apply x0 x1).2.1 (.av (.agg (TPoint.c (Fref05Apply x0 x1)))) := by
 refine pure_of_awF Try.func18 rfl (by kernel_rfl) (by kernel_rfl) fun W0 M0 => ?_
 refine aw_seq ?_
 refine aw_region eqok [] [] [] [2, 3, 4] [2, 3, 4] [] ⟨[(2, tP 2 0), (3, tP 3 0), (4, tP 4 0)], [(2, .cells (TMotion.c x0) 39), (3, .cells (TPoint.c x1) 29), (4, .cells [.i 0, .i 0] 29)]⟩ .nil (by kernel_rfl) .nil <| ath_n <| aw_seq ?_
 refine aw_draw mixed eqok [] [] [(8, cref05mirrored x1 x0.Mirror), (11, cref05turned (Fref05mirrored x1 x0.Mirror) x0.Turn), (14, cref05Add (wref05Apply_0 x1 x0) x0.At)] [4] [4] [Same (cref05mirrored x1 x0.Mirror).2.1, Same (cref05turned (Fref05mirrored x1 x0.Mirror) x0.Turn).2.1, Same (cref05Add (wref05Apply_0 x1 x0) x0.At).2.1] ⟨[(4, tP 4 0)], [(4, .cells (TPoint.c (Fref05Add (wref05Apply_0 x1 x0) x0.At)) 29)]⟩ (.cons (okref05mirrored x1 x0.Mirror) (.cons (okref05turned (Fref05mirrored x1 x0.Mirror) x0.Turn) (.cons (okref05Add (wref05Apply_0 x1 x0) x0.At) .nil))) (by kernel_rfl) (by kernel_rfl) (.cons rfl (.cons rfl (.cons rfl .nil))) <| ath_n <| aw_ret ?_
 exact ⟨_, Cv.refl _, .inl rfl, .av (.agg (TPoint.c (Fref05Add (wref05Apply_0 x1 x0) x0.At))), by kernel_rfl, tve_eq (by rfl)⟩
theorem okref05Apply (x0 : TMotion) (x1 : TPoint) : CallOk Try.prog (cref05Apply x0 x1).1 (cref05Apply x0 x1).2.1 (cref05Apply x0 x1).2.2 := callOk_pure (fun _ _ => by kernel_rfl) fun _ => pref05Apply x0 x1
def wref06Check_0 (x0 : TEdge) : Bool := bif !(Fref05Right x0.A) then true else !(Fref05Right x0.B)
def wref06Check_1 (x0 : TEdge) : Bool := bif wref06Check_0 x0 then true else !(Fref05Right x0.C)
def Fref06Check (x0 : TEdge) : Int := bif bif decide ((x0.Kind : Int) < 1) then true else decide ((3 : Int) < x0.Kind) then (11) else (bif wref06Check_1 x0 then (10) else (bif decide ((x0.Kind : Int) = 1) then (bif !(decide (x0.C.X = 0) && (decide (x0.C.Y = 0) && true)) then (11) else (0)) else (bif bif ((decide ((((Fref05Sub x0.A x0.C).X) : Int) = 0)) == (decide ((((Fref05Sub x0.A x0.C).Y) : Int) = 0))) then true else !(decide (((Fref05Sub x0.B x0.C).X) = (bif decide ((x0.Kind : Int) = 3) then ((Fref05Sub x0.A x0.C).Y) else (W64 (0 - ((Fref05Sub x0.A x0.C).Y))))) && (decide (((Fref05Sub x0.B x0.C).Y) = (bif decide ((x0.Kind : Int) = 3) then (W64 (0 - ((Fref05Sub x0.A x0.C).X))) else ((Fref05Sub x0.A x0.C).X))) && true)) then (11) else (0))))
def cref06Check (x0 : TEdge) : FuncId × List Av × Ef := (22, [.agg (TEdge.c x0)], .val [] (.av (.one (.i (Fref06Check x0)))))
theorem pref06Check (x0 : TEdge) : Pure Try.prog 22 (cref06Check x0).2.1 (.av (.one (.i (Fref06Check x0)))) := by
 refine pure_of_awF Try.func22 rfl (by kernel_rfl) (by kernel_rfl) fun W0 M0 => ?_
 refine aw_seq ?_
 refine aw_region eqok [] [] [] [1] [1] [] ⟨[(1, tP 1 0)], [(1, .cells (TEdge.c x0) 35)]⟩ .nil (by kernel_rfl) .nil <| ath_n ?_
 refine aw_seq <| aw_seq ?_
 refine aw_region eqok [] [] [] [1, 16] [1] [((decide ((x0.Kind : Int) < 1)) = false) → ((decide ((x0.Kind : Int) < 1)) = false), ((decide ((x0.Kind : Int) < 1)) = false) → ((decide ((x0.Kind : Int) < 1)) = false), (decide ((x0.Kind : Int) < 1)) = false → ((decide ((x0.Kind : Int) < 1)) = false)] ⟨[(1, tP 1 0), (16, tB (bif decide ((x0.Kind : Int) < 1) then true else decide ((3 : Int) < x0.Kind)))], [(1, .cells (TEdge.c x0) 35)]⟩ .nil (by kernel_rfl) (.cons id (.cons id (.cons id .nil))) <| ath_n ?_
 refine aw_cond (bif decide ((x0.Kind : Int) < 1) then true else decide ((3 : Int) < x0.Kind)) (by kernel_rfl) (fun h1 => ?_) (fun h1 => ?_)
 ·refine aw_seq ?_
  refine aw_region eqok [] [] [] [2] [] [] ⟨[(2, tI 11)], []⟩ .nil (by kernel_rfl) .nil <| ath_n ?_
  refine aw_ret <| ath_r ?_
  exact ⟨_, Cv.refl _, .inl rfl, .av (.one (.i 11)), by kernel_rfl, tve_eq (by first | (simp only [Fref06Check, h1, cond_true, cond_false]; done) | (simp only [Fref06Check, h1, cond_true, cond_false]; rfl))⟩
 ·refine aw_skip <| ath_n <| aw_seq ?_
  refine aw_region eqok [] [] [(19, cref05Right x0.A)] [1, 3] [1] [Same (cref05Right x0.A).2.1] ⟨[(1, tP 1 0), (3, tB (Fref05Right x0.A))], [(1, .cells (TEdge.c x0) 35)]⟩ (.cons (okref05Right x0.A) .nil) (by kernel_rfl) (.cons rfl .nil) <| ath_n <| aw_seq ?_
  refine aw_region eqok [] [] [(22, cref05Right x0.B)] [1, 3, 4] [1] [Same (cref05Right x0.B).2.1] ⟨[(1, tP 1 0), (3, tB (Fref05Right x0.A)), (4, tB (Fref05Right x0.B))], [(1, .cells (TEdge.c x0) 35)]⟩ (.cons (okref05Right x0.B) .nil) (by kernel_rfl) (.cons rfl .nil) <| ath_n <| aw_seq ?_
  refine aw_region eqok [] [] [(25, cref05Right x0.C)] [1, 3, 4, 5] [1] [Same (cref05Right x0.C).2.1] ⟨[(1, tP 1 0), (3, tB (Fref05Right x0.A)), (4, tB (Fref05Right x0.B)), (5, tB (Fref05Right x0.C))], [(1, .cells (TEdge.c x0) 35)]⟩ (.cons (okref05Right x0.C) .nil) (by kernel_rfl) (.cons rfl .nil) <| ath_n ?_
  refine aw_seq <| aw_seq ?_
  refine aw_region eqok [] [] [] [1, 35] [1] [((!(Fref05Right x0.A)) = false) → ((!(Fref05Right x0.A)) = false), (!(Fref05Right x0.A)) = false → ((!(Fref05Right x0.A)) = false), ((wref06Check_0 x0) = false) → ((wref06Check_0 x0) = false), (wref06Check_0 x0) = false → ((wref06Check_0 x0) = false)] ⟨[(1, tP 1 0), (35, tB (wref06Check_1 x0))], [(1, .cells (TEdge.c x0) 35)]⟩ .nil (by kernel_rfl) (.cons id (.cons id (.cons id (.cons id .nil)))) <| ath_n ?_
  refine aw_cond (wref06Check_1 x0) (by kernel_rfl) (fun h2 => ?_) (fun h2 => ?_)
  ·refine aw_seq ?_
   refine aw_region eqok [] [] [] [2] [] [] ⟨[(2, tI 10)], []⟩ .nil (by kernel_rfl) .nil <| ath_n ?_
   refine aw_ret <| ath_r ?_
   exact ⟨_, Cv.refl _, .inl rfl, .av (.one (.i 10)), by kernel_rfl, tve_eq (by first | (simp only [Fref06Check, h1, h2, cond_true, cond_false]; done) | (simp only [Fref06Check, h1, h2, cond_true, cond_false]; rfl))⟩
  ·refine aw_skip <| ath_n ?_
   refine aw_seq <| aw_seq ?_
   refine aw_region eqok [] [] [] [1, 38] [1] [] ⟨[(1, tP 1 0), (38, tB (decide ((x0.Kind : Int) = 1)))], [(1, .cells (TEdge.c x0) 35)]⟩ .nil (by kernel_rfl) .nil <| ath_n ?_
   refine aw_cond (decide ((x0.Kind : Int) = 1)) (by kernel_rfl) (fun h3 => ?_) (fun h3 => ?_)
   ·have g3 := of_decide_eq_true h3
    refine aw_seq <| aw_seq ?_
    refine aw_region eqok [] [] [] [42] [] [] ⟨[(42, tB (!(decide (x0.C.X = 0) && (decide (x0.C.Y = 0) && true))))], []⟩ .nil (by kernel_rfl) .nil <| ath_n ?_
    refine aw_cond (!(decide (x0.C.X = 0) && (decide (x0.C.Y = 0) && true))) (by kernel_rfl) (fun h4 => ?_) (fun h4 => ?_)
    ·refine aw_seq ?_
     refine aw_region eqok [] [] [] [2] [] [] ⟨[(2, tI 11)], []⟩ .nil (by kernel_rfl) .nil <| ath_n ?_
     refine aw_ret <| ath_r <| ath_r ?_
     exact ⟨_, Cv.refl _, .inl rfl, .av (.one (.i 11)), by kernel_rfl, tve_eq (by first | (simp only [Fref06Check, h1, h2, h3, h4, cond_true, cond_false]; done) | (simp only [Fref06Check, h1, h2, h3, h4, cond_true, cond_false]; rfl))⟩
    ·refine aw_skip <| ath_n <| aw_seq ?_
     refine aw_region eqok [] [] [] [2] [] [] ⟨[(2, tI 0)], []⟩ .nil (by kernel_rfl) .nil <| ath_n ?_
     refine aw_ret <| ath_r ?_
     exact ⟨_, Cv.refl _, .inl rfl, .av (.one (.i 0)), by kernel_rfl, tve_eq (by first | (simp only [Fref06Check, h1, h2, h3, h4, cond_true, cond_false]; done) | (simp only [Fref06Check, h1, h2, h3, h4, cond_true, cond_false]; rfl))⟩
   ·have g3 := of_decide_eq_false h3
    refine aw_skip <| ath_n <| aw_seq ?_
    refine aw_region eqok [] [] [(47, cref05Sub x0.A x0.C)] [1, 6] [1, 6] [Same (cref05Sub x0.A x0.C).2.1] ⟨[(1, tP 1 0), (6, tP 6 0)], [(1, .cells (TEdge.c x0) 35), (6, .cells (TPoint.c (Fref05Sub x0.A x0.C)) 29)]⟩ (.cons (okref05Sub x0.A x0.C) .nil) (by kernel_rfl) (.cons rfl .nil) <| ath_n <| aw_seq ?_
    refine aw_region eqok [] [] [(52, cref05Sub x0.B x0.C)] [1, 6, 7] [1, 6, 7] [Same (cref05Sub x0.B x0.C).2.1] ⟨[(1, tP 1 0), (6, tP 6 0), (7, tP 7 0)], [(1, .cells (TEdge.c x0) 35), (6, .cells (TPoint.c (Fref05Sub x0.A x0.C)) 29), (7, .cells (TPoint.c (Fref05Sub x0.B x0.C)) 29)]⟩ (.cons (okref05Sub x0.B x0.C) .nil) (by kernel_rfl) (.cons rfl .nil) <| ath_n <| aw_seq ?_
    refine aw_region eqok [] [] [] [1, 6, 7, 8] [1, 6, 7, 8] [] ⟨[(1, tP 1 0), (6, tP 6 0), (7, tP 7 0), (8, tP 8 0)], [(1, .cells (TEdge.c x0) 35), (6, .cells (TPoint.c (Fref05Sub x0.A x0.C)) 29), (7, .cells (TPoint.c (Fref05Sub x0.B x0.C)) 29), (8, .cells [.i (W64 (0 - ((Fref05Sub x0.A x0.C).Y))), .i ((Fref05Sub x0.A x0.C).X)] 29)]⟩ .nil (by kernel_rfl) .nil <| ath_n ?_
    refine aw_seq <| aw_seq ?_
    refine aw_region eqok [] [] [] [6, 7, 8, 61] [6, 7, 8] [] ⟨[(6, tP 6 0), (7, tP 7 0), (8, tP 8 0), (61, tB (decide ((x0.Kind : Int) = 3)))], [(6, .cells (TPoint.c (Fref05Sub x0.A x0.C)) 29), (7, .cells (TPoint.c (Fref05Sub x0.B x0.C)) 29), (8, .cells [.i (W64 (0 - ((Fref05Sub x0.A x0.C).Y))), .i ((Fref05Sub x0.A x0.C).X)] 29)]⟩ .nil (by kernel_rfl) .nil <| ath_n ?_
    refine aw_joinC (⟨[(6, tP 6 0), (7, tP 7 0), (8, tP 8 0)], [(6, .cells (TPoint.c (Fref05Sub x0.A x0.C)) 29), (7, .cells (TPoint.c (Fref05Sub x0.B x0.C)) 29), (8, .cells [.i (bif decide ((x0.Kind : Int) = 3) then ((Fref05Sub x0.A x0.C).Y) else (W64 (0 - ((Fref05Sub x0.A x0.C).Y)))), .i (bif decide ((x0.Kind : Int) = 3) then (W64 (0 - ((Fref05Sub x0.A x0.C).X))) else ((Fref05Sub x0.A x0.C).X))] 29)]⟩) ?_ ?_
    ·refine aw_cond (decide ((x0.Kind : Int) = 3)) (by kernel_rfl) (fun h4 => ?_) (fun h4 => ?_)
     ·have g4 := of_decide_eq_true h4
      refine aw_region eqok [] [] [] [6, 7, 8] [6, 7, 8] [] ⟨[(6, tP 6 0), (7, tP 7 0), (8, tP 8 0)], [(6, .cells (TPoint.c (Fref05Sub x0.A x0.C)) 29), (7, .cells (TPoint.c (Fref05Sub x0.B x0.C)) 29), (8, .cells [.i ((Fref05Sub x0.A x0.C).Y), .i (W64 (0 - ((Fref05Sub x0.A x0.C).X)))] 29)]⟩ .nil (by kernel_rfl) .nil <| ath_n ?_
      refine cv_eq ?_
      first | rfl | (simp only [h4, cond_true, cond_false]; done) | (simp only [h4, cond_true, cond_false]; rfl)
     ·have g4 := of_decide_eq_false h4
      refine aw_skip <| ath_n ?_
      refine Cv.trans (cv_keep [6, 7, 8] [6, 7, 8] (⟨[(6, tP 6 0), (7, tP 7 0), (8, tP 8 0)], [(6, .cells (TPoint.c (Fref05Sub x0.A x0.C)) 29), (7, .cells (TPoint.c (Fref05Sub x0.B x0.C)) 29), (8, .cells [.i (W64 (0 - ((Fref05Sub x0.A x0.C).Y))), .i ((Fref05Sub x0.A x0.C).X)] 29)]⟩) (by kernel_rfl)) (cv_eq ?_)
      first | rfl | (simp only [h4, cond_true, cond_false]; done) | (simp only [h4, cond_true, cond_false]; rfl)
    refine aw_seq <| aw_seq ?_
    refine aw_region eqok [] [] [] [79] [] [((((decide ((((Fref05Sub x0.A x0.C).X) : Int) = 0)) == (decide ((((Fref05Sub x0.A x0.C).Y) : Int) = 0)))) = false) → ((((decide ((((Fref05Sub x0.A x0.C).X) : Int) = 0)) == (decide ((((Fref05Sub x0.A x0.C).Y) : Int) = 0)))) = false), ((((decide ((((Fref05Sub x0.A x0.C).X) : Int) = 0)) == (decide ((((Fref05Sub x0.A x0.C).Y) : Int) = 0)))) = false) → ((((decide ((((Fref05Sub x0.A x0.C).X) : Int) = 0)) == (decide ((((Fref05Sub x0.A x0.C).Y) : Int) = 0)))) = false), (((decide ((((Fref05Sub x0.A x0.C).X) : Int) = 0)) == (decide ((((Fref05Sub x0.A x0.C).Y) : Int) = 0)))) = false → ((((decide ((((Fref05Sub x0.A x0.C).X) : Int) = 0)) == (decide ((((Fref05Sub x0.A x0.C).Y) : Int) = 0)))) = false)] ⟨[(79, tB (bif ((decide ((((Fref05Sub x0.A x0.C).X) : Int) = 0)) == (decide ((((Fref05Sub x0.A x0.C).Y) : Int) = 0))) then true else !(decide (((Fref05Sub x0.B x0.C).X) = (bif decide ((x0.Kind : Int) = 3) then ((Fref05Sub x0.A x0.C).Y) else (W64 (0 - ((Fref05Sub x0.A x0.C).Y))))) && (decide (((Fref05Sub x0.B x0.C).Y) = (bif decide ((x0.Kind : Int) = 3) then (W64 (0 - ((Fref05Sub x0.A x0.C).X))) else ((Fref05Sub x0.A x0.C).X))) && true))))], []⟩ .nil (by kernel_rfl) (.cons id (.cons id (.cons id .nil))) <| ath_n ?_
    refine aw_cond (bif ((decide ((((Fref05Sub x0.A x0.C).X) : Int) = 0)) == (decide ((((Fref05Sub x0.A x0.C).Y) : Int) = 0))) then true else !(decide (((Fref05Sub x0.B x0.C).X) = (bif decide ((x0.Kind : Int) = 3) then ((Fref05Sub x0.A x0.C).Y) else (W64 (0 - ((Fref05Sub x0.A x0.C).Y))))) && (decide (((Fref05Sub x0.B x0.C).Y) = (bif decide ((x0.Kind : Int) = 3) then (W64 (0 - ((Fref05Sub x0.A x0.C).X))) else ((Fref05Sub x0.A x0.C).X))) && true))) (by kernel_rfl) (fun h4 => ?_) (fun h4 => ?_)
    ·refine aw_seq ?_
     refine aw_region eqok [] [] [] [2] [] [] ⟨[(2, tI 11)], []⟩ .nil (by kernel_rfl) .nil <| ath_n ?_
     refine aw_ret <| ath_r ?_
     exact ⟨_, Cv.refl _, .inl rfl, .av (.one (.i 11)), by kernel_rfl, tve_eq (by first | (simp only [Fref06Check, h1, h2, h3, h4, cond_true, cond_false]; done) | (simp only [Fref06Check, h1, h2, h3, h4, cond_true, cond_false]; rfl))⟩
    ·refine aw_skip <| ath_n <| aw_seq ?_
     refine aw_region eqok [] [] [] [2] [] [] ⟨[(2, tI 0)], []⟩ .nil (by kernel_rfl) .nil <| ath_n <| aw_ret ?_
     exact ⟨_, Cv.refl _, .inl rfl, .av (.one (.i 0)), by kernel_rfl, tve_eq (by first | (simp only [Fref06Check, h1, h2, h3, h4, cond_true, cond_false]; done) | (simp only [Fref06Check, h1, h2, h3, h4, cond_true, cond_false]; rfl))⟩
theorem okref06Check (x0 : TEdge) : CallOk Try.prog (cref06Check x0).1 (cref06Check x0).2.1 (cref06Check x0).2.2 := callOk_pure (fun _ _ => by kernel_rfl) fun _ => pref06Check x0
def Fref06size (x0 : Int) : Int := max x0 (W64 (0 - x0))
def cref06size (x0 : Int) : FuncId × List Av × Ef := (88, [.one (.i x0)], .val [] (.av (.one (.i (Fref06size x0)))))
theorem pref06size (x0 : Int) : Pure Try.prog 88 (cref06size x0).2.1 (.av (.one (.i (Fref06size x0)))) := by
 refine pure_of_awF Try.func88 rfl (by kernel_rfl) (by kernel_rfl) fun W0 M0 => ?_
 refine aw_seq ?_
 refine aw_region eqok [] [] [] [0] [] [] ⟨[(0, tI x0)], []⟩ .nil (by kernel_rfl) .nil <| ath_n <| aw_seq ?_
 refine aw_region eqok [] [] [] [2] [] [] ⟨[(2, tI (max x0 (W64 (0 - x0))))], []⟩ .nil (by kernel_rfl) .nil <| ath_n <| aw_ret ?_
 exact ⟨_, Cv.refl _, .inl rfl, .av (.one (.i (max x0 (W64 (0 - x0))))), by kernel_rfl, tve_eq (by rfl)⟩
theorem okref06size (x0 : Int) : CallOk Try.prog (cref06size x0).1 (cref06size x0).2.1 (cref06size x0).2.2 := callOk_pure (fun _ _ => by kernel_rfl) fun _ => pref06size x0
def Fref06Radius (x0 : TEdge) : Int := bif bif decide ((x0.Kind : Int) = 1) then true else !decide (((Fref06Check x0) : Int) = 0) then (0) else (W64 ((Fref06size ((Fref05Sub x0.A x0.C).X)) + (Fref06size ((Fref05Sub x0.A x0.C).Y))))
def cref06Radius (x0 : TEdge) : FuncId × List Av × Ef := (68, [.agg (TEdge.c x0)], .val [] (.av (.one (.i (Fref06Radius x0)))))
theorem pref06Radius (x0 : TEdge) : Pure Try.prog 68 (cref06Radius x0).2.1 (.av (.one (.i (Fref06Radius x0)))) := by
 refine pure_of_awF Try.func68 rfl (by kernel_rfl) (by kernel_rfl) fun W0 M0 => ?_
 refine aw_seq ?_
 refine aw_region eqok [] [] [] [1] [1] [] ⟨[(1, tP 1 0)], [(1, .cells (TEdge.c x0) 35)]⟩ .nil (by kernel_rfl) .nil <| ath_n ?_
 refine aw_seq <| aw_seq ?_
 refine aw_region eqok [] [] [(9, cref06Check x0)] [1, 11] [1] [((decide ((x0.Kind : Int) = 1)) = false) → ((decide ((x0.Kind : Int) = 1)) = false), ((decide ((x0.Kind : Int) = 1)) = false) → (Same (cref06Check x0).2.1), ((decide ((x0.Kind : Int) = 1)) = false) → ((decide ((x0.Kind : Int) = 1)) = false), (decide ((x0.Kind : Int) = 1)) = false → ((decide ((x0.Kind : Int) = 1)) = false)] ⟨[(1, tP 1 0), (11, tB (bif decide ((x0.Kind : Int) = 1) then true else !decide (((Fref06Check x0) : Int) = 0)))], [(1, .cells (TEdge.c x0) 35)]⟩ (.cons (okref06Check x0) .nil) (by kernel_rfl) (.cons id (.cons (fun _ => rfl) (.cons id (.cons id .nil)))) <| ath_n ?_
 refine aw_cond (bif decide ((x0.Kind : Int) = 1) then true else !decide (((Fref06Check x0) : Int) = 0)) (by kernel_rfl) (fun h1 => ?_) (fun h1 => ?_)
 ·refine aw_seq ?_
  refine aw_region eqok [] [] [] [2] [] [] ⟨[(2, tI 0)], []⟩ .nil (by kernel_rfl) .nil <| ath_n ?_
  refine aw_ret <| ath_r ?_
  exact ⟨_, Cv.refl _, .inl rfl, .av (.one (.i 0)), by kernel_rfl, tve_eq (by first | (simp only [Fref06Radius, h1, cond_true, cond_false]; done) | (simp only [Fref06Radius, h1, cond_true, cond_false]; rfl))⟩
 ·refine aw_skip <| ath_n <| aw_seq ?_
  refine aw_region eqok [] [] [(16, cref05Sub x0.A x0.C)] [3] [3] [Same (cref05Sub x0.A x0.C).2.1] ⟨[(3, tP 3 0)], [(3, .cells (TPoint.c (Fref05Sub x0.A x0.C)) 29)]⟩ (.cons (okref05Sub x0.A x0.C) .nil) (by kernel_rfl) (.cons rfl .nil) <| ath_n <| aw_seq ?_
  refine aw_draw mixed eqok [] [] [(19, cref06size ((Fref05Sub x0.A x0.C).X)), (22, cref06size ((Fref05Sub x0.A x0.C).Y))] [2] [] [Same (cref06size ((Fref05Sub x0.A x0.C).X)).2.1, Same (cref06size ((Fref05Sub x0.A x0.C).Y)).2.1] ⟨[(2, tI (W64 ((Fref06size ((Fref05Sub x0.A x0.C).X)) + (Fref06size ((Fref05Sub x0.A x0.C).Y)))))], []⟩ (.cons (okref06size ((Fref05Sub x0.A x0.C).X)) (.cons (okref06size ((Fref05Sub x0.A x0.C).Y)) .nil)) (by kernel_rfl) (by kernel_rfl) (.cons rfl (.cons rfl .nil)) <| ath_n <| aw_ret ?_
  exact ⟨_, Cv.refl _, .inl rfl, .av (.one (.i (W64 ((Fref06size ((Fref05Sub x0.A x0.C).X)) + (Fref06size ((Fref05Sub x0.A x0.C).Y)))))), by kernel_rfl, tve_eq (by first | (simp only [Fref06Radius, h1, cond_true, cond_false]; done) | (simp only [Fref06Radius, h1, cond_true, cond_false]; rfl))⟩
theorem okref06Radius (x0 : TEdge) : CallOk Try.prog (cref06Radius x0).1 (cref06Radius x0).2.1 (cref06Radius x0).2.2 := callOk_pure (fun _ _ => by kernel_rfl) fun _ => pref06Radius x0
def Fref06Box (x0 : TEdge) : TRect := TRect.mk (min x0.A.X x0.B.X) (min x0.A.Y x0.B.Y) (max x0.A.X x0.B.X) (max x0.A.Y x0.B.Y)
def cref06Box (x0 : TEdge) : FuncId × List Av × Ef := (60, [.agg (TEdge.c x0)], .val [] (.av (.agg (TRect.c (Fref06Box x0)))))
theorem pref06Box (x0 : TEdge) : Pure Try.prog 60 (cref06Box x0).2.1 (.av (.agg (TRect.c (Fref06Box x0)))) := by
 refine pure_of_awF Try.func60 rfl (by kernel_rfl) (by kernel_rfl) fun W0 M0 => ?_
 refine aw_seq ?_
 refine aw_region eqok [] [] [] [1, 2] [1, 2] [] ⟨[(1, tP 1 0), (2, tP 2 0)], [(1, .cells (TEdge.c x0) 35), (2, .cells [.i 0, .i 0, .i 0, .i 0] 54)]⟩ .nil (by kernel_rfl) .nil <| ath_n <| aw_seq ?_
 refine aw_region eqok [] [] [] [2] [2] [] ⟨[(2, tP 2 0)], [(2, .cells [.i (min x0.A.X x0.B.X), .i (min x0.A.Y x0.B.Y), .i (max x0.A.X x0.B.X), .i (max x0.A.Y x0.B.Y)] 54)]⟩ .nil (by kernel_rfl) .nil <| ath_n <| aw_ret ?_
 exact ⟨_, Cv.refl _, .inl rfl, .av (.agg [.i (min x0.A.X x0.B.X), .i (min x0.A.Y x0.B.Y), .i (max x0.A.X x0.B.X), .i (max x0.A.Y x0.B.Y)]), by kernel_rfl, tve_eq (by rfl)⟩
theorem okref06Box (x0 : TEdge) : CallOk Try.prog (cref06Box x0).1 (cref06Box x0).2.1 (cref06Box x0).2.2 := callOk_pure (fun _ _ => by kernel_rfl) fun _ => pref06Box x0
def Fref06beyond (x0 : TEdge) (x1 : TPoint) : Bool := bif decide ((x1.X : Int) < ((Fref06Box x0).X0)) then (true) else (bif decide ((((Fref06Box x0).X1) : Int) ≤ x1.X) then (false) else (bif decide ((x0.Kind : Int) = 1) then (decide (((W64 ((W64 (x1.X - ((bif decide ((x0.B.Y : Int) < x0.A.Y) then x0.B else x0.A).X))) * (W64 (((bif decide ((x0.B.Y : Int) < x0.A.Y) then x0.A else x0.B).Y) - ((bif decide ((x0.B.Y : Int) < x0.A.Y) then x0.B else x0.A).Y))))) : Int) < (W64 ((W64 (x1.Y - ((bif decide ((x0.B.Y : Int) < x0.A.Y) then x0.B else x0.A).Y))) * (W64 (((bif decide ((x0.B.Y : Int) < x0.A.Y) then x0.A else x0.B).X) - ((bif decide ((x0.B.Y : Int) < x0.A.Y) then x0.B else x0.A).X))))))) else (bif decide (((W64 (2 * x0.C.X)) : Int) < (W64 (x0.A.X + x0.B.X))) then (decide (((Fref05Dot (Fref05Sub x1 x0.C) (Fref05Sub x1 x0.C)) : Int) < (W64 ((Fref06Radius x0) * (Fref06Radius x0))))) else (bif decide (((W64 ((Fref06Radius x0) * (Fref06Radius x0))) : Int) < (Fref05Dot (Fref05Sub x1 x0.C) (Fref05Sub x1 x0.C))) then decide ((((Fref05Sub x1 x0.C).X) : Int) < 0) else false))))
def cref06beyond (x0 : TEdge) (x1 : TPoint) : FuncId × List Av × Ef := (81, [.agg (TEdge.c x0), .agg (TPoint.c x1)], .val [] (.av (.one (.b (Fref06beyond x0 x1)))))
theorem pref06beyond (x0 : TEdge) (x1 : TPoint) : Pure Try.prog 81 (cref06beyond x0 x1).2.1 (.av (.one (.b (Fref06beyond x0 x1)))) := by
 refine pure_of_awF Try.func81 rfl (by kernel_rfl) (by kernel_rfl) fun W0 M0 => ?_
 refine aw_seq ?_
 refine aw_region eqok [] [] [] [2, 3] [2, 3] [] ⟨[(2, tP 2 0), (3, tP 3 0)], [(2, .cells (TEdge.c x0) 35), (3, .cells (TPoint.c x1) 29)]⟩ .nil (by kernel_rfl) .nil <| ath_n <| aw_seq ?_
 refine aw_region eqok [] [] [(13, cref06Box x0)] [2, 3, 5] [2, 3, 5] [Same (cref06Box x0).2.1] ⟨[(2, tP 2 0), (3, tP 3 0), (5, tP 5 0)], [(2, .cells (TEdge.c x0) 35), (3, .cells (TPoint.c x1) 29), (5, .cells (TRect.c (Fref06Box x0)) 54)]⟩ (.cons (okref06Box x0) .nil) (by kernel_rfl) (.cons rfl .nil) <| ath_n ?_
 refine aw_seq <| aw_seq ?_
 refine aw_region eqok [] [] [] [2, 3, 5, 18] [2, 3, 5] [] ⟨[(2, tP 2 0), (3, tP 3 0), (5, tP 5 0), (18, tB (decide ((x1.X : Int) < ((Fref06Box x0).X0))))], [(2, .cells (TEdge.c x0) 35), (3, .cells (TPoint.c x1) 29), (5, .cells (TRect.c (Fref06Box x0)) 54)]⟩ .nil (by kernel_rfl) .nil <| ath_n ?_
 refine aw_cond (decide ((x1.X : Int) < ((Fref06Box x0).X0))) (by kernel_rfl) (fun h1 => ?_) (fun h1 => ?_)
 ·have g1 := of_decide_eq_true h1
  refine aw_seq ?_
  refine aw_region eqok [] [] [] [4] [] [] ⟨[(4, tB true)], []⟩ .nil (by kernel_rfl) .nil <| ath_n ?_
  refine aw_ret <| ath_r ?_
  exact ⟨_, Cv.refl _, .inl rfl, .av (.one (.b true)), by kernel_rfl, tve_eq (by first | (simp only [Fref06beyond, h1, cond_true, cond_false]; done) | (simp only [Fref06beyond, h1, cond_true, cond_false]; rfl))⟩
 ·have g1 := of_decide_eq_false h1
  refine aw_skip <| ath_n ?_
  refine aw_seq <| aw_seq ?_
  refine aw_region eqok [] [] [] [2, 3, 23] [2, 3] [] ⟨[(2, tP 2 0), (3, tP 3 0), (23, tB (decide ((((Fref06Box x0).X1) : Int) ≤ x1.X)))], [(2, .cells (TEdge.c x0) 35), (3, .cells (TPoint.c x1) 29)]⟩ .nil (by kernel_rfl) .nil <| ath_n ?_
  refine aw_cond (decide ((((Fref06Box x0).X1) : Int) ≤ x1.X)) (by kernel_rfl) (fun h2 => ?_) (fun h2 => ?_)
  ·have g2 := of_decide_eq_true h2
   refine aw_seq ?_
   refine aw_region eqok [] [] [] [4] [] [] ⟨[(4, tB false)], []⟩ .nil (by kernel_rfl) .nil <| ath_n ?_
   refine aw_ret <| ath_r ?_
   exact ⟨_, Cv.refl _, .inl rfl, .av (.one (.b false)), by kernel_rfl, tve_eq (by first | (simp only [Fref06beyond, h1, h2, cond_true, cond_false]; done) | (simp only [Fref06beyond, h1, h2, cond_true, cond_false]; rfl))⟩
  ·have g2 := of_decide_eq_false h2
   refine aw_skip <| ath_n ?_
   refine aw_seq <| aw_seq ?_
   refine aw_region eqok [] [] [] [2, 3, 26] [2, 3] [] ⟨[(2, tP 2 0), (3, tP 3 0), (26, tB (decide ((x0.Kind : Int) = 1)))], [(2, .cells (TEdge.c x0) 35), (3, .cells (TPoint.c x1) 29)]⟩ .nil (by kernel_rfl) .nil <| ath_n ?_
   refine aw_cond (decide ((x0.Kind : Int) = 1)) (by kernel_rfl) (fun h3 => ?_) (fun h3 => ?_)
   ·have g3 := of_decide_eq_true h3
    refine aw_seq ?_
    refine aw_region eqok [] [] [] [2, 3, 6] [2, 3, 6] [] ⟨[(2, tP 2 0), (3, tP 3 0), (6, tP 6 0)], [(2, .cells (TEdge.c x0) 35), (3, .cells (TPoint.c x1) 29), (6, .cells (TPoint.c x0.A) 29)]⟩ .nil (by kernel_rfl) .nil <| ath_n <| aw_seq ?_
    refine aw_region eqok [] [] [] [3, 6, 7] [3, 6, 7] [] ⟨[(3, tP 3 0), (6, tP 6 0), (7, tP 7 0)], [(3, .cells (TPoint.c x1) 29), (6, .cells (TPoint.c x0.A) 29), (7, .cells (TPoint.c x0.B) 29)]⟩ .nil (by kernel_rfl) .nil <| ath_n ?_
    refine aw_seq <| aw_seq ?_
    refine aw_region eqok [] [] [] [3, 6, 7, 35] [3, 6, 7] [] ⟨[(3, tP 3 0), (6, tP 6 0), (7, tP 7 0), (35, tB (decide ((x0.B.Y : Int) < x0.A.Y)))], [(3, .cells (TPoint.c x1) 29), (6, .cells (TPoint.c x0.A) 29), (7, .cells (TPoint.c x0.B) 29)]⟩ .nil (by kernel_rfl) .nil <| ath_n ?_
    refine aw_joinC (⟨[(3, tP 3 0), (6, tP 6 0), (7, tP 7 0)], [(3, .cells (TPoint.c x1) 29), (6, .cells (TPoint.c (bif decide ((x0.B.Y : Int) < x0.A.Y) then x0.B else x0.A)) 29), (7, .cells (TPoint.c (bif decide ((x0.B.Y : Int) < x0.A.Y) then x0.A else x0.B)) 29)]⟩) ?_ ?_
    ·refine aw_cond (decide ((x0.B.Y : Int) < x0.A.Y)) (by kernel_rfl) (fun h4 => ?_) (fun h4 => ?_)
     ·have g4 := of_decide_eq_true h4
      refine aw_region eqok [] [] [] [3, 6, 7] [3, 6, 7] [] ⟨[(3, tP 3 0), (6, tP 6 0), (7, tP 7 0)], [(3, .cells (TPoint.c x1) 29), (6, .cells (TPoint.c x0.B) 29), (7, .cells (TPoint.c x0.A) 29)]⟩ .nil (by kernel_rfl) .nil <| ath_n ?_
      refine cv_eq ?_
      first | rfl | (simp only [h4, cond_true, cond_false]; done) | (simp only [h4, cond_true, cond_false]; rfl)
     ·have g4 := of_decide_eq_false h4
      refine aw_skip <| ath_n ?_
      refine Cv.trans (cv_keep [3, 6, 7] [3, 6, 7] (⟨[(3, tP 3 0), (6, tP 6 0), (7, tP 7 0)], [(3, .cells (TPoint.c x1) 29), (6, .cells (TPoint.c x0.A) 29), (7, .cells (TPoint.c x0.B) 29)]⟩) (by kernel_rfl)) (cv_eq ?_)
      first | rfl | (simp only [h4, cond_true, cond_false]; done) | (simp only [h4, cond_true, cond_false]; rfl)
    refine aw_seq ?_
    refine aw_region eqok [] [] [] [4] [] [] ⟨[(4, tB (decide (((W64 ((W64 (x1.X - ((bif decide ((x0.B.Y : Int) < x0.A.Y) then x0.B else x0.A).X))) * (W64 (((bif decide ((x0.B.Y : Int) < x0.A.Y) then x0.A else x0.B).Y) - ((bif decide ((x0.B.Y : Int) < x0.A.Y) then x0.B else x0.A).Y))))) : Int) < (W64 ((W64 (x1.Y - ((bif decide ((x0.B.Y : Int) < x0.A.Y) then x0.B else x0.A).Y))) * (W64 (((bif decide ((x0.B.Y : Int) < x0.A.Y) then x0.A else x0.B).X) - ((bif decide ((x0.B.Y : Int) < x0.A.Y) then x0.B else x0.A).X))))))))], []⟩ .nil (by kernel_rfl) .nil <| ath_n ?_
    refine aw_ret <| ath_r ?_
    exact ⟨_, Cv.refl _, .inl rfl, .av (.one (.b (decide (((W64 ((W64 (x1.X - ((bif decide ((x0.B.Y : Int) < x0.A.Y) then x0.B else x0.A).X))) * (W64 (((bif decide ((x0.B.Y : Int) < x0.A.Y) then x0.A else x0.B).Y) - ((bif decide ((x0.B.Y : Int) < x0.A.Y) then x0.B else x0.A).Y))))) : Int) < (W64 ((W64 (x1.Y - ((bif decide ((x0.B.Y : Int) < x0.A.Y) then x0.B else x0.A).Y))) * (W64 (((bif decide ((x0.B.Y : Int) < x0.A.Y) then x0.A else x0.B).X) - ((bif decide ((x0.B.Y : Int) < x0.A.Y) then x0.B else x0.A).X))))))))), by kernel_rfl, tve_eq (by first | (simp only [Fref06beyond, h1, h2, h3, cond_true, cond_false]; done) | (simp only [Fref06beyond, h1, h2, h3, cond_true, cond_false]; rfl))⟩
   ·have g3 := of_decide_eq_false h3
    refine aw_skip <| ath_n <| aw_seq ?_
    refine aw_region eqok [] [] [(64, cref05Sub x1 x0.C)] [2, 8] [2, 8] [Same (cref05Sub x1 x0.C).2.1] ⟨[(2, tP 2 0), (8, tP 8 0)], [(2, .cells (TEdge.c x0) 35), (8, .cells (TPoint.c (Fref05Sub x1 x0.C)) 29)]⟩ (.cons (okref05Sub x1 x0.C) .nil) (by kernel_rfl) (.cons rfl .nil) <| ath_n <| aw_seq ?_
    refine aw_region eqok [] [] [(66, cref06Radius x0)] [2, 8, 9] [2, 8] [Same (cref06Radius x0).2.1] ⟨[(2, tP 2 0), (8, tP 8 0), (9, tI (Fref06Radius x0))], [(2, .cells (TEdge.c x0) 35), (8, .cells (TPoint.c (Fref05Sub x1 x0.C)) 29)]⟩ (.cons (okref06Radius x0) .nil) (by kernel_rfl) (.cons rfl .nil) <| ath_n <| aw_seq ?_
    refine aw_region eqok [] [] [(69, cref05Dot (Fref05Sub x1 x0.C) (Fref05Sub x1 x0.C))] [2, 8, 9, 10] [2, 8] [Same (cref05Dot (Fref05Sub x1 x0.C) (Fref05Sub x1 x0.C)).2.1] ⟨[(2, tP 2 0), (8, tP 8 0), (9, tI (Fref06Radius x0)), (10, tB (decide (((Fref05Dot (Fref05Sub x1 x0.C) (Fref05Sub x1 x0.C)) : Int) < (W64 ((Fref06Radius x0) * (Fref06Radius x0))))))], [(2, .cells (TEdge.c x0) 35), (8, .cells (TPoint.c (Fref05Sub x1 x0.C)) 29)]⟩ (.cons (okref05Dot (Fref05Sub x1 x0.C) (Fref05Sub x1 x0.C)) .nil) (by kernel_rfl) (.cons rfl .nil) <| ath_n ?_
    refine aw_seq <| aw_seq ?_
    refine aw_region eqok [] [] [] [8, 9, 10, 85] [8] [] ⟨[(8, tP 8 0), (9, tI (Fref06Radius x0)), (10, tB (decide (((Fref05Dot (Fref05Sub x1 x0.C) (Fref05Sub x1 x0.C)) : Int) < (W64 ((Fref06Radius x0) * (Fref06Radius x0)))))), (85, tB (decide (((W64 (2 * x0.C.X)) : Int) < (W64 (x0.A.X + x0.B.X)))))], [(8, .cells (TPoint.c (Fref05Sub x1 x0.C)) 29)]⟩ .nil (by kernel_rfl) .nil <| ath_n ?_
    refine aw_cond (decide (((W64 (2 * x0.C.X)) : Int) < (W64 (x0.A.X + x0.B.X)))) (by kernel_rfl) (fun h4 => ?_) (fun h4 => ?_)
    ·have g4 := of_decide_eq_true h4
     refine aw_seq ?_
     refine aw_region eqok [] [] [] [4] [] [] ⟨[(4, tB (decide (((Fref05Dot (Fref05Sub x1 x0.C) (Fref05Sub x1 x0.C)) : Int) < (W64 ((Fref06Radius x0) * (Fref06Radius x0))))))], []⟩ .nil (by kernel_rfl) .nil <| ath_n ?_
     refine aw_ret <| ath_r ?_
     exact ⟨_, Cv.refl _, .inl rfl, .av (.one (.b (decide (((Fref05Dot (Fref05Sub x1 x0.C) (Fref05Sub x1 x0.C)) : Int) < (W64 ((Fref06Radius x0) * (Fref06Radius x0))))))), by kernel_rfl, tve_eq (by first | (simp only [Fref06beyond, h1, h2, h3, h4, cond_true, cond_false]; done) | (simp only [Fref06beyond, h1, h2, h3, h4, cond_true, cond_false]; rfl))⟩
    ·have g4 := of_decide_eq_false h4
     refine aw_skip <| ath_n <| aw_seq ?_
     refine aw_region eqok [] [] [(89, cref05Dot (Fref05Sub x1 x0.C) (Fref05Sub x1 x0.C))] [8, 11] [8] [Same (cref05Dot (Fref05Sub x1 x0.C) (Fref05Sub x1 x0.C)).2.1] ⟨[(8, tP 8 0), (11, tB (decide (((W64 ((Fref06Radius x0) * (Fref06Radius x0))) : Int) < (Fref05Dot (Fref05Sub x1 x0.C) (Fref05Sub x1 x0.C)))))], [(8, .cells (TPoint.c (Fref05Sub x1 x0.C)) 29)]⟩ (.cons (okref05Dot (Fref05Sub x1 x0.C) (Fref05Sub x1 x0.C)) .nil) (by kernel_rfl) (.cons rfl .nil) <| ath_n <| aw_seq ?_
     refine aw_region eqok [] [] [] [4] [] [((decide (((W64 ((Fref06Radius x0) * (Fref06Radius x0))) : Int) < (Fref05Dot (Fref05Sub x1 x0.C) (Fref05Sub x1 x0.C)))) = true) → ((decide (((W64 ((Fref06Radius x0) * (Fref06Radius x0))) : Int) < (Fref05Dot (Fref05Sub x1 x0.C) (Fref05Sub x1 x0.C)))) = true), ((decide (((W64 ((Fref06Radius x0) * (Fref06Radius x0))) : Int) < (Fref05Dot (Fref05Sub x1 x0.C) (Fref05Sub x1 x0.C)))) = true) → ((decide (((W64 ((Fref06Radius x0) * (Fref06Radius x0))) : Int) < (Fref05Dot (Fref05Sub x1 x0.C) (Fref05Sub x1 x0.C)))) = true), (decide (((W64 ((Fref06Radius x0) * (Fref06Radius x0))) : Int) < (Fref05Dot (Fref05Sub x1 x0.C) (Fref05Sub x1 x0.C)))) = true → ((decide (((W64 ((Fref06Radius x0) * (Fref06Radius x0))) : Int) < (Fref05Dot (Fref05Sub x1 x0.C) (Fref05Sub x1 x0.C)))) = true)] ⟨[(4, tB (bif decide (((W64 ((Fref06Radius x0) * (Fref06Radius x0))) : Int) < (Fref05Dot (Fref05Sub x1 x0.C) (Fref05Sub x1 x0.C))) then decide ((((Fref05Sub x1 x0.C).X) : Int) < 0) else false))], []⟩ .nil (by kernel_rfl) (.cons id (.cons id (.cons id .nil))) <| ath_n <| aw_ret ?_
     exact ⟨_, Cv.refl _, .inl rfl, .av (.one (.b (bif decide (((W64 ((Fref06Radius x0) * (Fref06Radius x0))) : Int) < (Fref05Dot (Fref05Sub x1 x0.C) (Fref05Sub x1 x0.C))) then decide ((((Fref05Sub x1 x0.C).X) : Int) < 0) else false))), by kernel_rfl, tve_eq (by first | (simp only [Fref06beyond, h1, h2, h3, h4, cond_true, cond_false]; done) | (simp only [Fref06beyond, h1, h2, h3, h4, cond_true, cond_false]; rfl))⟩
theorem okref06beyond (x0 : TEdge) (x1 : TPoint) : CallOk Try.prog (cref06beyond x0 x1).1 (cref06beyond x0 x1).2.1 (cref06beyond x0 x1).2.2 := callOk_pure (fun _ _ => by kernel_rfl) fun _ => pref06beyond x0 x1
def Fref06Ray (x0 : TEdge) (x1 : TPoint) : Int := bif !decide (((Fref06Check x0) : Int) = 0) then (0) else (bif bif bif decide ((x0.A.Y : Int) ≤ x1.Y) then decide ((x1.Y : Int) < x0.B.Y) else false then Fref06beyond x0 x1 else false then (1) else (bif bif bif decide ((x0.B.Y : Int) ≤ x1.Y) then decide ((x1.Y : Int) < x0.A.Y) else false then Fref06beyond x0 x1 else false then ((-1)) else (0)))
def cref06Ray (x0 : TEdge) (x1 : TPoint) : FuncId × List Av × Ef := (51, [.agg (TEdge.c x0), .agg (TPoint.c x1)], .val [] (.av (.one (.i (Fref06Ray x0 x1)))))
theorem pref06Ray (x0 : TEdge) (x1 : TPoint) : Pure Try.prog 51 (cref06Ray x0 x1).2.1 (.av (.one (.i (Fref06Ray x0 x1)))) := by
 refine pure_of_awF Try.func51 rfl (by kernel_rfl) (by kernel_rfl) fun W0 M0 => ?_
 refine aw_seq ?_
 refine aw_region eqok [] [] [] [2, 3] [2, 3] [] ⟨[(2, tP 2 0), (3, tP 3 0)], [(2, .cells (TEdge.c x0) 35), (3, .cells (TPoint.c x1) 29)]⟩ .nil (by kernel_rfl) .nil <| ath_n ?_
 refine aw_seq <| aw_seq ?_
 refine aw_region eqok [] [] [(6, cref06Check x0)] [2, 3, 7] [2, 3] [Same (cref06Check x0).2.1] ⟨[(2, tP 2 0), (3, tP 3 0), (7, tB (!decide (((Fref06Check x0) : Int) = 0)))], [(2, .cells (TEdge.c x0) 35), (3, .cells (TPoint.c x1) 29)]⟩ (.cons (okref06Check x0) .nil) (by kernel_rfl) (.cons rfl .nil) <| ath_n ?_
 refine aw_cond (!decide (((Fref06Check x0) : Int) = 0)) (by kernel_rfl) (fun h1 => ?_) (fun h1 => ?_)
 ·have g1 := of_not_decide_true h1
  refine aw_seq ?_
  refine aw_region eqok [] [] [] [4] [] [] ⟨[(4, tI 0)], []⟩ .nil (by kernel_rfl) .nil <| ath_n ?_
  refine aw_ret <| ath_r ?_
  exact ⟨_, Cv.refl _, .inl rfl, .av (.one (.i 0)), by kernel_rfl, tve_eq (by first | (simp only [Fref06Ray, h1, cond_true, cond_false]; done) | (simp only [Fref06Ray, h1, cond_true, cond_false]; rfl))⟩
 ·have g1 := of_not_decide_false h1
  refine aw_skip <| ath_n ?_
  refine aw_seq <| aw_seq ?_
  refine aw_region eqok [] [] [(25, cref06beyond x0 x1)] [2, 3, 26] [2, 3] [((decide ((x0.A.Y : Int) ≤ x1.Y)) = true) → ((decide ((x0.A.Y : Int) ≤ x1.Y)) = true), ((decide ((x0.A.Y : Int) ≤ x1.Y)) = true) → ((decide ((x0.A.Y : Int) ≤ x1.Y)) = true), ((decide ((x0.A.Y : Int) ≤ x1.Y)) = true) → ((decide ((x0.A.Y : Int) ≤ x1.Y)) = true), ((decide ((x0.A.Y : Int) ≤ x1.Y)) = true) → ((decide ((x0.A.Y : Int) ≤ x1.Y)) = true), ((decide ((x0.A.Y : Int) ≤ x1.Y)) = true) → ((decide ((x0.A.Y : Int) ≤ x1.Y)) = true), (decide ((x0.A.Y : Int) ≤ x1.Y)) = true → ((decide ((x0.A.Y : Int) ≤ x1.Y)) = true), ((bif decide ((x0.A.Y : Int) ≤ x1.Y) then decide ((x1.Y : Int) < x0.B.Y) else false) = true) → ((bif decide ((x0.A.Y : Int) ≤ x1.Y) then decide ((x1.Y : Int) < x0.B.Y) else false) = true), ((bif decide ((x0.A.Y : Int) ≤ x1.Y) then decide ((x1.Y : Int) < x0.B.Y) else false) = true) → ((bif decide ((x0.A.Y : Int) ≤ x1.Y) then decide ((x1.Y : Int) < x0.B.Y) else false) = true), ((bif decide ((x0.A.Y : Int) ≤ x1.Y) then decide ((x1.Y : Int) < x0.B.Y) else false) = true) → (Same (cref06beyond x0 x1).2.1), (bif decide ((x0.A.Y : Int) ≤ x1.Y) then decide ((x1.Y : Int) < x0.B.Y) else false) = true → ((bif decide ((x0.A.Y : Int) ≤ x1.Y) then decide ((x1.Y : Int) < x0.B.Y) else false) = true)] ⟨[(2, tP 2 0), (3, tP 3 0), (26, tB (bif bif decide ((x0.A.Y : Int) ≤ x1.Y) then decide ((x1.Y : Int) < x0.B.Y) else false then Fref06beyond x0 x1 else false))], [(2, .cells (TEdge.c x0) 35), (3, .cells (TPoint.c x1) 29)]⟩ (.cons (okref06beyond x0 x1) .nil) (by kernel_rfl) (.cons id (.cons id (.cons id (.cons id (.cons id (.cons id (.cons id (.cons id (.cons (fun _ => rfl) (.cons id .nil)))))))))) <| ath_n ?_
  refine aw_cond (bif bif decide ((x0.A.Y : Int) ≤ x1.Y) then decide ((x1.Y : Int) < x0.B.Y) else false then Fref06beyond x0 x1 else false) (by kernel_rfl) (fun h2 => ?_) (fun h2 => ?_)
  ·refine aw_seq ?_
   refine aw_region eqok [] [] [] [4] [] [] ⟨[(4, tI 1)], []⟩ .nil (by kernel_rfl) .nil <| ath_n ?_
   refine aw_ret <| ath_r ?_
   exact ⟨_, Cv.refl _, .inl rfl, .av (.one (.i 1)), by kernel_rfl, tve_eq (by first | (simp only [Fref06Ray, h1, h2, cond_true, cond_false]; done) | (simp only [Fref06Ray, h1, h2, cond_true, cond_false]; rfl))⟩
  ·refine aw_skip <| ath_n ?_
   refine aw_seq <| aw_seq ?_
   refine aw_region eqok [] [] [(44, cref06beyond x0 x1)] [45] [] [((decide ((x0.B.Y : Int) ≤ x1.Y)) = true) → ((decide ((x0.B.Y : Int) ≤ x1.Y)) = true), ((decide ((x0.B.Y : Int) ≤ x1.Y)) = true) → ((decide ((x0.B.Y : Int) ≤ x1.Y)) = true), ((decide ((x0.B.Y : Int) ≤ x1.Y)) = true) → ((decide ((x0.B.Y : Int) ≤ x1.Y)) = true), ((decide ((x0.B.Y : Int) ≤ x1.Y)) = true) → ((decide ((x0.B.Y : Int) ≤ x1.Y)) = true), ((decide ((x0.B.Y : Int) ≤ x1.Y)) = true) → ((decide ((x0.B.Y : Int) ≤ x1.Y)) = true), (decide ((x0.B.Y : Int) ≤ x1.Y)) = true → ((decide ((x0.B.Y : Int) ≤ x1.Y)) = true), ((bif decide ((x0.B.Y : Int) ≤ x1.Y) then decide ((x1.Y : Int) < x0.A.Y) else false) = true) → ((bif decide ((x0.B.Y : Int) ≤ x1.Y) then decide ((x1.Y : Int) < x0.A.Y) else false) = true), ((bif decide ((x0.B.Y : Int) ≤ x1.Y) then decide ((x1.Y : Int) < x0.A.Y) else false) = true) → ((bif decide ((x0.B.Y : Int) ≤ x1.Y) then decide ((x1.Y : Int) < x0.A.Y) else false) = true), ((bif decide ((x0.B.Y : Int) ≤ x1.Y) then decide ((x1.Y : Int) < x0.A.Y) else false) = true) → (Same (cref06beyond x0 x1).2.1), (bif decide ((x0.B.Y : Int) ≤ x1.Y) then decide ((x1.Y : Int) < x0.A.Y) else false) = true → ((bif decide ((x0.B.Y : Int) ≤ x1.Y) then decide ((x1.Y : Int) < x0.A.Y) else false) = true)] ⟨[(45, tB (bif bif decide ((x0.B.Y : Int) ≤ x1.Y) then decide ((x1.Y : Int) < x0.A.Y) else false then Fref06beyond x0 x1 else false))], []⟩ (.cons (okref06beyond x0 x1) .nil) (by kernel_rfl) (.cons id (.cons id (.cons id (.cons id (.cons id (.cons id (.cons id (.cons id (.cons (fun _ => rfl) (.cons id .nil)))))))))) <| ath_n ?_
   refine aw_cond (bif bif decide ((x0.B.Y : Int) ≤ x1.Y) then decide ((x1.Y : Int) < x0.A.Y) else false then Fref06beyond x0 x1 else false) (by kernel_rfl) (fun h3 => ?_) (fun h3 => ?_)
   ·refine aw_seq ?_
    refine aw_region eqok [] [] [] [4] [] [] ⟨[(4, tI ((-1)))], []⟩ .nil (by kernel_rfl) .nil <| ath_n ?_
    refine aw_ret <| ath_r ?_
    exact ⟨_, Cv.refl _, .inl rfl, .av (.one (.i ((-1)))), by kernel_rfl, tve_eq (by first | (simp only [Fref06Ray, h1, h2, h3, cond_true, cond_false]; done) | (simp only [Fref06Ray, h1, h2, h3, cond_true, cond_false]; rfl))⟩
   ·refine aw_skip <| ath_n <| aw_seq ?_
    refine aw_region eqok [] [] [] [4] [] [] ⟨[(4, tI 0)], []⟩ .nil (by kernel_rfl) .nil <| ath_n <| aw_ret ?_
    exact ⟨_, Cv.refl _, .inl rfl, .av (.one (.i 0)), by kernel_rfl, tve_eq (by first | (simp only [Fref06Ray, h1, h2, h3, cond_true, cond_false]; done) | (simp only [Fref06Ray, h1, h2, h3, cond_true, cond_false]; rfl))⟩
theorem okref06Ray (x0 : TEdge) (x1 : TPoint) : CallOk Try.prog (cref06Ray x0 x1).1 (cref06Ray x0 x1).2.1 (cref06Ray x0 x1).2.2 := callOk_pure (fun _ _ => by kernel_rfl) fun _ => pref06Ray x0 x1
def wref06Arc_0 (x2 : Int) (x1 : Int) : TPoint := Fref05Apply (TMotion.mk (TPoint.mk 0 0) x2 false) (TPoint.mk x1 0)
def wref06Arc_1 (x3 : Int) (x2 : Int) (x1 : Int) : TPoint := Fref05Apply (TMotion.mk (TPoint.mk 0 0) (bif decide ((x3 : Int) = 3) then (W64 (x2 + 3)) else (W64 (x2 + 1))) false) (TPoint.mk x1 0)
def Fref06Arc (x0 : TPoint) (x1 : Int) (x2 : Int) (x3 : Int) : TEdge := TEdge.mk x3 (Fref05Add x0 (wref06Arc_0 x2 x1)) (Fref05Add x0 (wref06Arc_1 x3 x2 x1)) x0
def cref06Arc (x0 : TPoint) (x1 : Int) (x2 : Int) (x3 : Int) : FuncId × List Av × Ef := (67, [.agg (TPoint.c x0), .one (.i x1), .one (.i x2), .one (.i x3)], .val [] (.av (.agg (TEdge.c (Fref06Arc x0 x1 x2 x3)))))
theorem pref06Arc (x0 : TPoint) (x1 : Int) (x2 : Int) (x3 : Int) : Pure Try.prog 67 (cref06Arc x0 x1 x2 x3).2.1 (.av (.agg (TEdge.c (Fref06Arc x0 x1 x2 x3)))) := by
 refine pure_of_awF Try.func67 rfl (by kernel_rfl) (by kernel_rfl) fun W0 M0 => ?_
 refine aw_seq ?_
 refine aw_region eqok [] [] [] [1, 2, 3, 4, 8] [4, 8] [] ⟨[(1, tI x1), (2, tI x2), (3, tI x3), (4, tP 4 0), (8, tP 8 0)], [(4, .cells (TPoint.c x0) 29), (8, .cells [.i 0, .i 0, .i 0, .i 0, .i 0, .i 0, .i 0] 35)]⟩ .nil (by kernel_rfl) .nil <| ath_n <| aw_seq ?_
 refine aw_region eqok [] [] [(16, cref05Apply (TMotion.mk (TPoint.mk 0 0) x2 false) (TPoint.mk x1 0))] [1, 2, 3, 4, 8, 9] [4, 8, 9] [Same (cref05Apply (TMotion.mk (TPoint.mk 0 0) x2 false) (TPoint.mk x1 0)).2.1] ⟨[(1, tI x1), (2, tI x2), (3, tI x3), (4, tP 4 0), (8, tP 8 0), (9, tP 9 0)], [(4, .cells (TPoint.c x0) 29), (8, .cells [.i 0, .i 0, .i 0, .i 0, .i 0, .i 0, .i 0] 35), (9, .cells (TPoint.c (wref06Arc_0 x2 x1)) 29)]⟩ (.cons (okref05Apply (TMotion.mk (TPoint.mk 0 0) x2 false) (TPoint.mk x1 0)) .nil) (by kernel_rfl) (.cons rfl .nil) <| ath_n <| aw_seq ?_
 refine aw_region eqok [] [] [] [1, 2, 3, 4, 8, 9, 10] [4, 8, 9] [] ⟨[(1, tI x1), (2, tI x2), (3, tI x3), (4, tP 4 0), (8, tP 8 0), (9, tP 9 0), (10, tI (W64 (x2 + 1)))], [(4, .cells (TPoint.c x0) 29), (8, .cells [.i 0, .i 0, .i 0, .i 0, .i 0, .i 0, .i 0] 35), (9, .cells (TPoint.c (wref06Arc_0 x2 x1)) 29)]⟩ .nil (by kernel_rfl) .nil <| ath_n ?_
 refine aw_seq <| aw_seq ?_
 refine aw_region eqok [] [] [] [1, 2, 3, 4, 8, 9, 10, 20] [4, 8, 9] [] ⟨[(1, tI x1), (2, tI x2), (3, tI x3), (4, tP 4 0), (8, tP 8 0), (9, tP 9 0), (10, tI (W64 (x2 + 1))), (20, tB (decide ((x3 : Int) = 3)))], [(4, .cells (TPoint.c x0) 29), (8, .cells [.i 0, .i 0, .i 0, .i 0, .i 0, .i 0, .i 0] 35), (9, .cells (TPoint.c (wref06Arc_0 x2 x1)) 29)]⟩ .nil (by kernel_rfl) .nil <| ath_n ?_
 refine aw_joinC (⟨[(1, tI x1), (3, tI x3), (4, tP 4 0), (8, tP 8 0), (9, tP 9 0), (10, tI (bif decide ((x3 : Int) = 3) then (W64 (x2 + 3)) else (W64 (x2 + 1))))], [(4, .cells (TPoint.c x0) 29), (8, .cells [.i 0, .i 0, .i 0, .i 0, .i 0, .i 0, .i 0] 35), (9, .cells (TPoint.c (wref06Arc_0 x2 x1)) 29)]⟩) ?_ ?_
 ·refine aw_cond (decide ((x3 : Int) = 3)) (by kernel_rfl) (fun h1 => ?_) (fun h1 => ?_)
  ·have g1 := of_decide_eq_true h1
   refine aw_region eqok [] [] [] [1, 3, 4, 8, 9, 10] [4, 8, 9] [] ⟨[(1, tI x1), (3, tI x3), (4, tP 4 0), (8, tP 8 0), (9, tP 9 0), (10, tI (W64 (x2 + 3)))], [(4, .cells (TPoint.c x0) 29), (8, .cells [.i 0, .i 0, .i 0, .i 0, .i 0, .i 0, .i 0] 35), (9, .cells (TPoint.c (wref06Arc_0 x2 x1)) 29)]⟩ .nil (by kernel_rfl) .nil <| ath_n ?_
   refine cv_eq ?_
   first | rfl | (simp only [h1, cond_true, cond_false]; done) | (simp only [h1, cond_true, cond_false]; rfl)
  ·have g1 := of_decide_eq_false h1
   refine aw_skip <| ath_n ?_
   refine Cv.trans (cv_keep [1, 3, 4, 8, 9, 10] [4, 8, 9] (⟨[(1, tI x1), (3, tI x3), (4, tP 4 0), (8, tP 8 0), (9, tP 9 0), (10, tI (W64 (x2 + 1)))], [(4, .cells (TPoint.c x0) 29), (8, .cells [.i 0, .i 0, .i 0, .i 0, .i 0, .i 0, .i 0] 35), (9, .cells (TPoint.c (wref06Arc_0 x2 x1)) 29)]⟩) (by kernel_rfl)) (cv_eq ?_)
   first | rfl | (simp only [h1, cond_true, cond_false]; done) | (simp only [h1, cond_true, cond_false]; rfl)
 refine aw_seq ?_
 refine aw_region eqok [] [] [(27, cref05Apply (TMotion.mk (TPoint.mk 0 0) (bif decide ((x3 : Int) = 3) then (W64 (x2 + 3)) else (W64 (x2 + 1))) false) (TPoint.mk x1 0))] [3, 4, 8, 9, 11] [4, 8, 9, 11] [Same (cref05Apply (TMotion.mk (TPoint.mk 0 0) (bif decide ((x3 : Int) = 3) then (W64 (x2 + 3)) else (W64 (x2 + 1))) false) (TPoint.mk x1 0)).2.1] ⟨[(3, tI x3), (4, tP 4 0), (8, tP 8 0), (9, tP 9 0), (11, tP 11 0)], [(4, .cells (TPoint.c x0) 29), (8, .cells [.i 0, .i 0, .i 0, .i 0, .i 0, .i 0, .i 0] 35), (9, .cells (TPoint.c (wref06Arc_0 x2 x1)) 29), (11, .cells (TPoint.c (wref06Arc_1 x3 x2 x1)) 29)]⟩ (.cons (okref05Apply (TMotion.mk (TPoint.mk 0 0) (bif decide ((x3 : Int) = 3) then (W64 (x2 + 3)) else (W64 (x2 + 1))) false) (TPoint.mk x1 0)) .nil) (by kernel_rfl) (.cons rfl .nil) <| ath_n <| aw_seq ?_
 refine aw_draw mixed eqok [] [] [(31, cref05Add x0 (wref06Arc_0 x2 x1)), (34, cref05Add x0 (wref06Arc_1 x3 x2 x1))] [8] [8] [Same (cref05Add x0 (wref06Arc_0 x2 x1)).2.1, Same (cref05Add x0 (wref06Arc_1 x3 x2 x1)).2.1] ⟨[(8, tP 8 0)], [(8, .cells [.i x3, .i ((Fref05Add x0 (wref06Arc_0 x2 x1)).X), .i ((Fref05Add x0 (wref06Arc_0 x2 x1)).Y), .i ((Fref05Add x0 (wref06Arc_1 x3 x2 x1)).X), .i ((Fref05Add x0 (wref06Arc_1 x3 x2 x1)).Y), .i x0.X, .i x0.Y] 35)]⟩ (.cons (okref05Add x0 (wref06Arc_0 x2 x1)) (.cons (okref05Add x0 (wref06Arc_1 x3 x2 x1)) .nil)) (by kernel_rfl) (by kernel_rfl) (.cons rfl (.cons rfl .nil)) <| ath_n <| aw_ret ?_
 exact ⟨_, Cv.refl _, .inl rfl, .av (.agg [.i x3, .i ((Fref05Add x0 (wref06Arc_0 x2 x1)).X), .i ((Fref05Add x0 (wref06Arc_0 x2 x1)).Y), .i ((Fref05Add x0 (wref06Arc_1 x3 x2 x1)).X), .i ((Fref05Add x0 (wref06Arc_1 x3 x2 x1)).Y), .i x0.X, .i x0.Y]), by kernel_rfl, tve_eq (by rfl)⟩
theorem okref06Arc (x0 : TPoint) (x1 : Int) (x2 : Int) (x3 : Int) : CallOk Try.prog (cref06Arc x0 x1 x2 x3).1 (cref06Arc x0 x1 x2 x3).2.1 (cref06Arc x0 x1 x2 x3).2.2 := callOk_pure (fun _ _ => by kernel_rfl) fun _ => pref06Arc x0 x1 x2 x3
def FMod (n : Int) (m : Int) : Int := Int.tmod (W64 ((Int.tmod n m) + m)) m
def cMod (n : Int) (m : Int) : FuncId × List Av × Ef := (57, [.one (.i n), .one (.i m)], .val [] (.av (.one (.i (FMod n m)))))
theorem pMod (n : Int) (m : Int) (hm : m ≠ 0) : Pure Try.prog 57 (cMod n m).2.1 (.av (.one (.i (FMod n m)))) := by
 refine pure_of_awF Try.func57 rfl (by kernel_rfl) (by kernel_rfl) fun W0 M0 => ?_
 refine aw_seq ?_
 refine aw_region eqok [] [] [] [0, 1] [] [] ⟨[(0, tI n), (1, tI m)], []⟩ .nil (by kernel_rfl) .nil <| ath_n <| aw_seq ?_
 refine aw_region eqok [] [] [] [4] [] [(m : Int) ≠ 0, (m : Int) ≠ 0] ⟨[(4, tI (Int.tmod (W64 ((Int.tmod n m) + m)) m))], []⟩ .nil (by kernel_rfl) (.cons au8 (.cons au8 .nil)) <| ath_n <| aw_ret ?_
 exact ⟨_, Cv.refl _, .inl rfl, .av (.one (.i (Int.tmod (W64 ((Int.tmod n m) + m)) m))), by kernel_rfl, tve_eq (by rfl)⟩
theorem okMod (n : Int) (m : Int) (hm : m ≠ 0) : CallOk Try.prog (cMod n m).1 (cMod n m).2.1 (cMod n m).2.2 := callOk_pure (fun _ _ => by kernel_rfl) fun _ => pMod n m hm
def DrawOk (d : TDraw) : Prop := 0 ≤ d.At ∧ d.At ≤ d.L.length ∧ (d.L.length : Int) ≤ 9223372036854775807
def FNext (d : TDraw) (n : Int) : (Int × TDraw) := bif decide ((((d.L.length : Int)) : Int) ≤ d.At) then ((0, d)) else ((FMod (d.L.getD ((W64 ((W64 (d.At + 1)) - 1)).toNat) default) n, TDraw.mk d.L (W64 (d.At + 1))))
theorem au0 {p : Prop} (h : p := by first | with_reducible assumption | omega | decide | (simp only [List.length_cons, List.length_nil, List.length_append]; omega) | assumption) : p := h
theorem au1 {p : Prop} (h : p := by first | decide | omega | exact idx_tmod (by first | omega | (simp only [W64_def]; omega)) (by omega) | (simp only [W64_def]; omega) | (constructor <;> omega) | (simp only [List.length_append, List.length_cons, List.length_nil]; omega) | (simp only [List.length_append, List.length_cons, List.length_nil, List.length_drop, List.length_take] at *; omega)) : p := h
theorem pNext  (d : TDraw) (n : Int) (hd : DrawOk d) (hn : n ≠ 0) : Wr Try.prog 38 1000 [.one (.ptr 1000 0), .one (.i n)] (.cells (TDraw.c d) 69) (.av (.one (.i ((FNext d n).1)))) (.cells (TDraw.c ((FNext d n).2)) 69) := by
 refine wr_of_awF Try.func38 rfl (by kernel_rfl) (by kernel_rfl) (by kernel_rfl) (by kernel_rfl) fun W0 M0 X hX => ?_
 obtain ⟨a1, a2, a3⟩ := hd
 refine aw_seq ?_
 refine aw_region eqok [] [] [] [0, 1] [1000] [] ⟨[(0, tP 1000 0), (1, tI n)], [(1000, .cells (TDraw.c d) 69)]⟩ .nil (by kernel_rfl) .nil <| ath_n ?_
 refine aw_seq <| aw_seq ?_
 refine aw_draw mixed eqok [] [] [] [0, 1, 14] [1000] [] ⟨[(0, tP 1000 0), (1, tI n), (14, tB (decide ((((d.L.length : Int)) : Int) ≤ d.At)))], [(1000, .cells (TDraw.c d) 69)]⟩ .nil (by kernel_rfl) (by kernel_rfl) .nil <| ath_n ?_
 refine aw_cond (decide ((((d.L.length : Int)) : Int) ≤ d.At)) (by kernel_rfl) (fun h1 => ?_) (fun h1 => ?_)
 ·have g1 := of_decide_eq_true h1
  refine aw_seq ?_
  refine aw_region eqok [] [] [] [4] [1000] [] ⟨[(4, tI 0)], [(1000, .cells (TDraw.c d) 69)]⟩ .nil (by kernel_rfl) .nil <| ath_n ?_
  refine aw_ret <| ath_r ?_
  exact ⟨_, Cv.refl _, .inl rfl, .av (.one (.i 0)), by kernel_rfl, ⟨tve_eq (by first | (simp only [FNext, h1, cond_true, cond_false]; done) | (simp only [FNext, h1, cond_true, cond_false]; rfl)), .cells (TDraw.c d) 69, by kernel_rfl, bke_eq (by first | (simp only [FNext, h1, cond_true, cond_false]; done) | (simp only [FNext, h1, cond_true, cond_false]; kernel_rfl))⟩⟩
 ·have g1 := of_decide_eq_false h1
  refine aw_skip <| ath_n <| aw_seq ?_
  refine aw_region eqok [] [] [] [0, 1] [1000] [] ⟨[(0, tP 1000 0), (1, tI n)], [(1000, .cells [lst 1 (fun x => [.i x]) d.L, .i (W64 (d.At + 1))] 69)]⟩ .nil (by kernel_rfl) .nil <| ath_n <| aw_seq ?_
  refine aw_draw mixed eqok [] [] [(34, cMod (d.L.getD ((W64 ((W64 (d.At + 1)) - 1)).toNat) default) n)] [4] [1000] [0 ≤ (W64 ((W64 (d.At + 1)) - 1) : Int) ∧ (W64 ((W64 (d.At + 1)) - 1) : Int) < ((d.L.length : Nat) : Int), Same (cMod (d.L.getD ((W64 ((W64 (d.At + 1)) - 1)).toNat) default) n).2.1] ⟨[(4, tI (FMod (d.L.getD ((W64 ((W64 (d.At + 1)) - 1)).toNat) default) n))], [(1000, .cells [lst 1 (fun x => [.i x]) d.L, .i (W64 (d.At + 1))] 69)]⟩ (.cons (okMod (d.L.getD ((W64 ((W64 (d.At + 1)) - 1)).toNat) default) n au0) .nil) (by kernel_rfl) (by kernel_rfl) (.cons au1 (.cons rfl .nil)) <| ath_n <| aw_ret ?_
  exact ⟨_, Cv.refl _, .inl rfl, .av (.one (.i (FMod (d.L.getD ((W64 ((W64 (d.At + 1)) - 1)).toNat) default) n))), by kernel_rfl, ⟨tve_eq (by first | (simp only [FNext, h1, cond_true, cond_false]; done) | (simp only [FNext, h1, cond_true, cond_false]; rfl)), .cells [lst 1 (fun x => [.i x]) d.L, .i (W64 (d.At + 1))] 69, by kernel_rfl, bke_eq (by first | (simp only [FNext, h1, cond_true, cond_false]; done) | (simp only [FNext, h1, cond_true, cond_false]; kernel_rfl))⟩⟩
theorem draw_new {l : List Int} (h : (l.length : Int) ≤ 9223372036854775807) : DrawOk (TDraw.mk l 0) := ⟨Int.le_refl _, by show (0 : Int) ≤ (l.length : Int); omega, h⟩
theorem next_ok {d : TDraw} {n : Int} (h : DrawOk d) : DrawOk (FNext d n).2 := by
 obtain ⟨h1, h2, h3⟩ := h
 unfold FNext
 by_cases hc : (d.L.length : Int) ≤ d.At
 ·simp only [hc, decide_true, cond_true]; exact ⟨h1, h2, h3⟩
 ·simp only [hc, decide_false, cond_false]
  rw [W64_id (by omega) (by omega)]
  exact ⟨by show 0 ≤ d.At + 1; omega, by show d.At + 1 ≤ (d.L.length : Int); omega, h3⟩
theorem mod_b (n m : Int) (h0 : 0 < m) (h1 : m ≤ 4611686018427387904) : 0 ≤ FMod n m ∧ FMod n m < m := by
 have e : FMod n m = n % m := by
  unfold FMod W64
  rcases Int.lt_or_le n 0 with h | h
  ·have b1 := Int.emod_nonneg (-n) (show m ≠ 0 by omega)
   have b2 := Int.emod_lt_of_pos (-n) h0
   rw [show n.tmod m = -((-n) % m) by rw [← Int.tmod_eq_emod_of_nonneg (by omega), Int.neg_tmod, Int.neg_neg]]
   rw [IntKind.wrap_i64]
   rw [show (-((-n) % m) + m + 9223372036854775808) % 18446744073709551616 - 9223372036854775808 = -((-n) % m) + m by omega]
   rw [Int.tmod_eq_emod_of_nonneg (by omega)]
   have e1 := Int.emod_add_mul_ediv (-n) m
   have e2 : -((-n) % m) + m = n + m * ((-n) / m + 1) := by grind
   rw [e2, Int.add_mul_emod_self_left]
  ·have b1 := Int.emod_nonneg n (show m ≠ 0 by omega)
   have b2 := Int.emod_lt_of_pos n h0
   rw [Int.tmod_eq_emod_of_nonneg h, IntKind.wrap_i64]
   rw [show (n % m + m + 9223372036854775808) % 18446744073709551616 - 9223372036854775808 = n % m + m by omega]
   rw [Int.tmod_eq_emod_of_nonneg (by omega), Int.add_emod_right, Int.emod_emod_of_dvd _ (Int.dvd_refl m)]
 rw [e]
 exact ⟨Int.emod_nonneg n (by omega), Int.emod_lt_of_pos n h0⟩
theorem next_b (d : TDraw) (n : Int) (h0 : 0 < n) (h1 : n ≤ 4611686018427387904) : 0 ≤ (FNext d n).1 ∧ (FNext d n).1 < n := by
 unfold FNext
 by_cases hc : (d.L.length : Int) ≤ d.At
 ·simp only [hc, decide_true, cond_true]; omega
 ·simp only [hc, decide_false, cond_false]
  exact mod_b _ n h0 h1
theorem lt_many {v a : Int} {d : TDraw} {n : Int} (h : v < W64 (a + (FNext d n).1)) (h0 : 0 < n) (h1 : n ≤ 1000000) (ha : 0 ≤ a) (hb : a ≤ 1000000) : v < a + n := by
 have := next_b d n h0 (by omega)
 rw [W64_id (by omega) (by omega)] at h
 omega
theorem ge_many {v a : Int} {d : TDraw} {n : Int} (h : ¬ v < W64 (a + (FNext d n).1)) (h0 : 0 < n) (h1 : n ≤ 1000000) (ha : 0 ≤ a) (hb : a ≤ 1000000) : W64 (a + (FNext d n).1) < a + n := by
 have := next_b d n h0 (by omega)
 rw [W64_id (by omega) (by omega)]
 omega
theorem and_dec {p q : Prop} [Decidable p] [Decidable q] (h : (bif decide p then decide q else false) = true) : p ∧ q := by
 by_cases hp : p
 ·rw [decide_eq_true hp] at h; exact ⟨hp, of_decide_eq_true h⟩
 ·rw [decide_eq_false hp] at h; cases h
theorem draw_bif {c : Bool} {a b : TDraw} (ha : DrawOk a) (hb : DrawOk b) : DrawOk (bif c then a else b) := by cases c <;> assumption
theorem in_next (d : TDraw) (n k : Int) (h0 : 0 < n) (h1 : n ≤ 4611686018427387904) (h2 : n ≤ k) : 0 ≤ (FNext d n).1 ∧ (FNext d n).1 < k := ⟨(next_b d n h0 h1).1, by have := (next_b d n h0 h1).2; omega⟩
theorem getD_nz {l : List Int} (h : ∀ x ∈ l, x ≠ 0) {k : Int} (hk : 0 ≤ k ∧ k < l.length) : l.getD k.toNat 0 ≠ 0 := by
 have hlt : k.toNat < l.length := by omega
 rw [List.getD_eq_getElem?_getD, List.getElem?_eq_getElem hlt]
 exact h _ (List.getElem_mem _)
def FNear (d : TDraw) (width : Int) : (TPoint × TDraw) := (TPoint.mk (W64 (((FNext d (W64 ((W64 (2 * width)) + 1))).1) - width)) (W64 (((FNext ((FNext d (W64 ((W64 (2 * width)) + 1))).2) (W64 ((W64 (2 * width)) + 1))).1) - width)), (FNext ((FNext d (W64 ((W64 (2 * width)) + 1))).2) (W64 ((W64 (2 * width)) + 1))).2)
theorem au3 {p : Prop} (h : p := by repeat (first | assumption | exact draw_new (by assumption) | refine next_ok ?_ | refine near_ok ?_ | refine draw_bif ?_ ?_ | refine hKd _ _ ?_ | refine cond_dk _ ?_)) : p := h
theorem au4 {p : Prop} (h : p := by first | decide | omega | (simp only [W64_def]; omega)) : p := h
theorem pNear  (d : TDraw) (width : Int) (hd : DrawOk d) (hw : 0 ≤ width ∧ width ≤ 1000000) : Wr Try.prog 39 1000 [.one (.ptr 1000 0), .one (.i width)] (.cells (TDraw.c d) 69) (.av (.agg (TPoint.c ((FNear d width).1)))) (.cells (TDraw.c ((FNear d width).2)) 69) := by
 refine wr_of_awF Try.func39 rfl (by kernel_rfl) (by kernel_rfl) (by kernel_rfl) (by kernel_rfl) fun W0 M0 X hX => ?_
 refine aw_seq ?_
 refine aw_region eqok [] [] [] [0, 1, 4] [4, 1000] [] ⟨[(0, tP 1000 0), (1, tI width), (4, tP 4 0)], [(4, .cells [.i 0, .i 0] 29), (1000, .cells (TDraw.c d) 69)]⟩ .nil (by kernel_rfl) .nil <| ath_n <| aw_seq ?_
 refine aw_region eqok [] [] [(10, (38, ([.one (.ptr 1000 0), .one (.i (W64 ((W64 (2 * width)) + 1)))] : List Av).map (renA 1000 1000), wrI 1000 (.cells (TDraw.c d) 69) (tI ((FNext d (W64 ((W64 (2 * width)) + 1))).1)) (.cells (TDraw.c ((FNext d (W64 ((W64 (2 * width)) + 1))).2)) 69)))] [0, 1, 4, 5] [4, 1000] [Same ((38, ([.one (.ptr 1000 0), .one (.i (W64 ((W64 (2 * width)) + 1)))] : List Av).map (renA 1000 1000), wrI 1000 (.cells (TDraw.c d) 69) (tI ((FNext d (W64 ((W64 (2 * width)) + 1))).1)) (.cells (TDraw.c ((FNext d (W64 ((W64 (2 * width)) + 1))).2)) 69))).2.1, SameB (.cells (TDraw.c d) 69)] ⟨[(0, tP 1000 0), (1, tI width), (4, tP 4 0), (5, tI (W64 (((FNext d (W64 ((W64 (2 * width)) + 1))).1) - width)))], [(4, .cells [.i 0, .i 0] 29), (1000, .cells (TDraw.c ((FNext d (W64 ((W64 (2 * width)) + 1))).2)) 69)]⟩ (.cons (callOk_wr (fun _ _ => by kernel_rfl) (by kernel_rfl) (by kernel_rfl) (pNext d (W64 ((W64 (2 * width)) + 1)) au3 au4)) .nil) (by kernel_rfl) (.cons rfl (.cons rfl .nil)) <| ath_n <| aw_seq ?_
 refine aw_region eqok [] [] [(18, (38, ([.one (.ptr 1000 0), .one (.i (W64 ((W64 (2 * width)) + 1)))] : List Av).map (renA 1000 1000), wrI 1000 (.cells (TDraw.c ((FNext d (W64 ((W64 (2 * width)) + 1))).2)) 69) (tI ((FNext ((FNext d (W64 ((W64 (2 * width)) + 1))).2) (W64 ((W64 (2 * width)) + 1))).1)) (.cells (TDraw.c ((FNext ((FNext d (W64 ((W64 (2 * width)) + 1))).2) (W64 ((W64 (2 * width)) + 1))).2)) 69)))] [4] [4, 1000] [Same ((38, ([.one (.ptr 1000 0), .one (.i (W64 ((W64 (2 * width)) + 1)))] : List Av).map (renA 1000 1000), wrI 1000 (.cells (TDraw.c ((FNext d (W64 ((W64 (2 * width)) + 1))).2)) 69) (tI ((FNext ((FNext d (W64 ((W64 (2 * width)) + 1))).2) (W64 ((W64 (2 * width)) + 1))).1)) (.cells (TDraw.c ((FNext ((FNext d (W64 ((W64 (2 * width)) + 1))).2) (W64 ((W64 (2 * width)) + 1))).2)) 69))).2.1, SameB (.cells (TDraw.c ((FNext d (W64 ((W64 (2 * width)) + 1))).2)) 69)] ⟨[(4, tP 4 0)], [(4, .cells [.i (W64 (((FNext d (W64 ((W64 (2 * width)) + 1))).1) - width)), .i (W64 (((FNext ((FNext d (W64 ((W64 (2 * width)) + 1))).2) (W64 ((W64 (2 * width)) + 1))).1) - width))] 29), (1000, .cells (TDraw.c ((FNext ((FNext d (W64 ((W64 (2 * width)) + 1))).2) (W64 ((W64 (2 * width)) + 1))).2)) 69)]⟩ (.cons (callOk_wr (fun _ _ => by kernel_rfl) (by kernel_rfl) (by kernel_rfl) (pNext ((FNext d (W64 ((W64 (2 * width)) + 1))).2) (W64 ((W64 (2 * width)) + 1)) au3 au4)) .nil) (by kernel_rfl) (.cons rfl (.cons rfl .nil)) <| ath_n <| aw_ret ?_
 exact ⟨_, Cv.refl _, .inl rfl, .av (.agg [.i (W64 (((FNext d (W64 ((W64 (2 * width)) + 1))).1) - width)), .i (W64 (((FNext ((FNext d (W64 ((W64 (2 * width)) + 1))).2) (W64 ((W64 (2 * width)) + 1))).1) - width))]), by kernel_rfl, ⟨tve_eq (by rfl), .cells (TDraw.c ((FNext ((FNext d (W64 ((W64 (2 * width)) + 1))).2) (W64 ((W64 (2 * width)) + 1))).2)) 69, by kernel_rfl, bke_eq (by kernel_rfl)⟩⟩
theorem near_ok {d : TDraw} {n : Int} (h : DrawOk d) : DrawOk (FNear d n).2 := next_ok (next_ok h)
theorem near_b (d : TDraw) (n : Int) (h0 : 0 ≤ n) (h1 : n ≤ 1000000) : (-n ≤ (FNear d n).1.X ∧ (FNear d n).1.X ≤ n) ∧ (-n ≤ (FNear d n).1.Y ∧ (FNear d n).1.Y ≤ n) := by
 have e : W64 (W64 (2 * n) + 1) = 2 * n + 1 := by simp only [W64_def]; omega
 unfold FNear
 simp only [e]
 have b1 := next_b d (2 * n + 1) (by omega) (by omega)
 have b2 := next_b (FNext d (2 * n + 1)).2 (2 * n + 1) (by omega) (by omega)
 simp only [W64_def]
 omega
end Go.Proofs.Ytpnlegfdkkcnlaa
namespace Go.Proofs.Ytpnlegfdkkcnlaa
set_option maxRecDepth 100000
open Go.RowKit
set_option linter.unusedVariables false
set_option linter.unusedSimpArgs false
def wAt06_0 (l : (List Int)) : FuncId × List Av × Ef := (39, ([.one (.ptr 1000 0), .one (.i 120)] : List Av).map (renA 1000 14), wrI 14 (.cells [lst 1 (fun x => [.i x]) l, .i 0] 69) (.av (.agg (TPoint.c ((FNear (TDraw.mk l 0) 120).1)))) (.cells (TDraw.c ((FNear (TDraw.mk l 0) 120).2)) 69))
abbrev xNl (l : List Int) : Int × TDraw := FNext ((FNear (TDraw.mk l 0) 120).2) 6
def wAt06_1 (l : (List Int)) : FuncId × List Av × Ef := (38, ([.one (.ptr 1000 0), .one (.i 6)] : List Av).map (renA 1000 14), wrI 14 (.cells (TDraw.c ((FNear (TDraw.mk l 0) 120).2)) 69) (tI ((xNl l).1)) (.cells (TDraw.c ((xNl l).2)) 69))
def wAt06_2 (l : (List Int)) : TDraw := (xNl l).2
def wAt06_3 (l : (List Int)) : FuncId × List Av × Ef := (38, ([.one (.ptr 1000 0), .one (.i 5)] : List Av).map (renA 1000 14), wrI 14 (.cells (TDraw.c (wAt06_2 l)) 69) (tI ((FNext (wAt06_2 l) 5).1)) (.cells (TDraw.c ((FNext (wAt06_2 l) 5).2)) 69))
def wAt06_4 (l : (List Int)) : FuncId × List Av × Ef := (38, ([.one (.ptr 1000 0), .one (.i 5)] : List Av).map (renA 1000 14), wrI 14 (.cells (TDraw.c ((FNext (wAt06_2 l) 5).2)) 69) (tI ((FNext ((FNext (wAt06_2 l) 5).2) 5).1)) (.cells (TDraw.c ((FNext ((FNext (wAt06_2 l) 5).2) 5).2)) 69))
def wAt06_5 (l : (List Int)) : FuncId × List Av × Ef := (38, ([.one (.ptr 1000 0), .one (.i 2)] : List Av).map (renA 1000 14), wrI 14 (.cells (TDraw.c ((FNext ((FNext (wAt06_2 l) 5).2) 5).2)) 69) (tI ((FNext ((FNext ((FNext (wAt06_2 l) 5).2) 5).2) 2).1)) (.cells (TDraw.c ((FNext ((FNext ((FNext (wAt06_2 l) 5).2) 5).2) 2).2)) 69))
def wAt06_6 (l : (List Int)) : TDraw := (FNext ((FNext ((FNext (wAt06_2 l) 5).2) 5).2) 2).2
def wAt06_7 (l : (List Int)) : FuncId × List Av × Ef := (38, ([.one (.ptr 1000 0), .one (.i 2)] : List Av).map (renA 1000 14), wrI 14 (.cells (TDraw.c (wAt06_6 l)) 69) (tI ((FNext (wAt06_6 l) 2).1)) (.cells (TDraw.c ((FNext (wAt06_6 l) 2).2)) 69))
def wAt06_8 (l : (List Int)) : FuncId × List Av × Ef := (38, ([.one (.ptr 1000 0), .one (.i 2)] : List Av).map (renA 1000 14), wrI 14 (.cells (TDraw.c (bif decide ((((xNl l).1) : Int) = 0) then (wAt06_2 l) else (bif decide ((((xNl l).1) : Int) = 1) then (wAt06_2 l) else (bif decide ((((xNl l).1) : Int) = 2) then ((FNext (wAt06_2 l) 5).2) else (bif decide ((((xNl l).1) : Int) = 3) then ((FNext (wAt06_6 l) 2).2) else (wAt06_2 l)))))) 69) (tI ((FNext (bif decide ((((xNl l).1) : Int) = 0) then (wAt06_2 l) else (bif decide ((((xNl l).1) : Int) = 1) then (wAt06_2 l) else (bif decide ((((xNl l).1) : Int) = 2) then ((FNext (wAt06_2 l) 5).2) else (bif decide ((((xNl l).1) : Int) = 3) then ((FNext (wAt06_6 l) 2).2) else (wAt06_2 l))))) 2).1)) (.cells (TDraw.c ((FNext (bif decide ((((xNl l).1) : Int) = 0) then (wAt06_2 l) else (bif decide ((((xNl l).1) : Int) = 1) then (wAt06_2 l) else (bif decide ((((xNl l).1) : Int) = 2) then ((FNext (wAt06_2 l) 5).2) else (bif decide ((((xNl l).1) : Int) = 3) then ((FNext (wAt06_6 l) 2).2) else (wAt06_2 l))))) 2).2)) 69))
def wAt06_9 (l : (List Int)) : TDraw := (FNext (bif decide ((((xNl l).1) : Int) = 0) then (wAt06_2 l) else (bif decide ((((xNl l).1) : Int) = 1) then (wAt06_2 l) else (bif decide ((((xNl l).1) : Int) = 2) then ((FNext (wAt06_2 l) 5).2) else (bif decide ((((xNl l).1) : Int) = 3) then ((FNext (wAt06_6 l) 2).2) else (wAt06_2 l))))) 2).2
def wAt06_10 (l : (List Int)) : FuncId × List Av × Ef := (38, ([.one (.ptr 1000 0), .one (.i 3)] : List Av).map (renA 1000 14), wrI 14 (.cells (TDraw.c (wAt06_9 l)) 69) (tI ((FNext (wAt06_9 l) 3).1)) (.cells (TDraw.c ((FNext (wAt06_9 l) 3).2)) 69))
def FAt06 (e : TEdge) (l : (List Int)) : TPoint := TPoint.mk (bif decide ((((FNext (bif decide ((((xNl l).1) : Int) = 0) then (wAt06_2 l) else (bif decide ((((xNl l).1) : Int) = 1) then (wAt06_2 l) else (bif decide ((((xNl l).1) : Int) = 2) then ((FNext (wAt06_2 l) 5).2) else (bif decide ((((xNl l).1) : Int) = 3) then ((FNext (wAt06_6 l) 2).2) else (wAt06_2 l))))) 2).1) : Int) = 0) then (W64 ((W64 ((bif decide ((((xNl l).1) : Int) = 0) then e.A.X else (bif decide ((((xNl l).1) : Int) = 1) then e.B.X else (bif decide ((((xNl l).1) : Int) = 2) then (W64 (e.A.X + (W64 (Int.tdiv (W64 ((W64 (e.B.X - e.A.X)) * ((FNext (wAt06_2 l) 5).1))) 4)))) else (bif decide ((((xNl l).1) : Int) = 3) then (W64 (e.C.X + (W64 (Int.tdiv (W64 ((W64 ((([1, (-1)] : List Int).getD (((FNext ((FNext ((FNext (wAt06_2 l) 5).2) 5).2) 2).1).toNat) 0) * (([3, 4, 5, 7, 0] : List Int).getD (((FNext (wAt06_2 l) 5).1).toNat) 0))) * (Fref06Radius e))) (([5, 5, 13, 25, 1] : List Int).getD (((FNext ((FNext (wAt06_2 l) 5).2) 5).1).toNat) 0))))) else (((FNear (TDraw.mk l 0) 120).1).X))))) + ((FNext (wAt06_9 l) 3).1))) - 1)) else (bif decide ((((xNl l).1) : Int) = 0) then e.A.X else (bif decide ((((xNl l).1) : Int) = 1) then e.B.X else (bif decide ((((xNl l).1) : Int) = 2) then (W64 (e.A.X + (W64 (Int.tdiv (W64 ((W64 (e.B.X - e.A.X)) * ((FNext (wAt06_2 l) 5).1))) 4)))) else (bif decide ((((xNl l).1) : Int) = 3) then (W64 (e.C.X + (W64 (Int.tdiv (W64 ((W64 ((([1, (-1)] : List Int).getD (((FNext ((FNext ((FNext (wAt06_2 l) 5).2) 5).2) 2).1).toNat) 0) * (([3, 4, 5, 7, 0] : List Int).getD (((FNext (wAt06_2 l) 5).1).toNat) 0))) * (Fref06Radius e))) (([5, 5, 13, 25, 1] : List Int).getD (((FNext ((FNext (wAt06_2 l) 5).2) 5).1).toNat) 0))))) else (((FNear (TDraw.mk l 0) 120).1).X)))))) (bif decide ((((xNl l).1) : Int) = 0) then e.A.Y else (bif decide ((((xNl l).1) : Int) = 1) then e.B.Y else (bif decide ((((xNl l).1) : Int) = 2) then (W64 (e.A.Y + (W64 (Int.tdiv (W64 ((W64 (e.B.Y - e.A.Y)) * ((FNext (wAt06_2 l) 5).1))) 4)))) else (bif decide ((((xNl l).1) : Int) = 3) then (W64 (e.C.Y + (W64 (Int.tdiv (W64 ((W64 ((([1, (-1)] : List Int).getD (((FNext (wAt06_6 l) 2).1).toNat) 0) * (([4, 3, 12, 24, 1] : List Int).getD (((FNext (wAt06_2 l) 5).1).toNat) 0))) * (Fref06Radius e))) (([5, 5, 13, 25, 1] : List Int).getD (((FNext ((FNext (wAt06_2 l) 5).2) 5).1).toNat) 0))))) else (bif decide ((((xNl l).1) : Int) = 4) then e.A.Y else (((FNear (TDraw.mk l 0) 120).1).Y))))))
def cAt06 (e : TEdge) (l : (List Int)) : FuncId × List Av × Ef := (44, [.agg (TEdge.c e), .one (lst 1 (fun x => [.i x]) l)], .val [] (.av (.agg (TPoint.c (FAt06 e l)))))
theorem au10 {p : Prop} (h : p := by first | assumption | exact getD_nz (by decide) (in_next _ _ _ (by decide) (by decide) (by decide)) | decide) : p := h
theorem au9 {p : Prop} (h : p := by first | exact in_next _ _ _ (by decide) (by decide) (by decide) | decide | omega) : p := h
theorem pAt06 (e : TEdge) (l : (List Int)) (hl : (l.length : Int) ≤ 9223372036854775807) : Pure Try.prog 44 (cAt06 e l).2.1 (.av (.agg (TPoint.c (FAt06 e l)))) := by
 refine pure_of_awF Try.func44 rfl (by kernel_rfl) (by kernel_rfl) fun W0 M0 => ?_
 have hd0 := draw_new hl
 refine aw_seq ?_
 refine aw_region eqok [] [] [] [1, 2, 4] [2, 4] [] ⟨[(1, .av (.one (lst 1 (fun x => [.i x]) l))), (2, tP 2 0), (4, tP 4 0)], [(2, .cells (TEdge.c e) 35), (4, .cells [.i 0, .i 0] 29)]⟩ .nil (by kernel_rfl) .nil <| ath_n <| aw_seq ?_
 refine aw_region eqok [] [] [] [2, 4, 5] [2, 4, 14] [] ⟨[(2, tP 2 0), (4, tP 4 0), (5, tP 14 0)], [(2, .cells (TEdge.c e) 35), (4, .cells [.i 0, .i 0] 29), (14, .cells [lst 1 (fun x => [.i x]) l, .i 0] 69)]⟩ .nil (by kernel_rfl) .nil <| ath_n <| aw_seq ?_
 refine aw_region eqok [] [] [(16, (wAt06_0 l))] [2, 4, 5, 6] [2, 4, 6, 14] [Same ((wAt06_0 l)).2.1, SameB (.cells [lst 1 (fun x => [.i x]) l, .i 0] 69)] ⟨[(2, tP 2 0), (4, tP 4 0), (5, tP 14 0), (6, tP 6 0)], [(2, .cells (TEdge.c e) 35), (4, .cells [.i 0, .i 0] 29), (6, .cells (TPoint.c ((FNear (TDraw.mk l 0) 120).1)) 29), (14, .cells (TDraw.c ((FNear (TDraw.mk l 0) 120).2)) 69)]⟩ (.cons (callOk_wr (fun _ _ => by kernel_rfl) (by kernel_rfl) (by kernel_rfl) (pNear (TDraw.mk l 0) 120 au3 (by omega))) .nil) (by kernel_rfl) (.cons rfl (.cons rfl .nil)) <| ath_n ?_
 refine aw_seq <| aw_seq ?_
 refine aw_region eqok [] [] [(18, (wAt06_1 l))] [2, 4, 5, 6, 18] [2, 4, 6, 14] [Same ((wAt06_1 l)).2.1, SameB (.cells (TDraw.c ((FNear (TDraw.mk l 0) 120).2)) 69)] ⟨[(2, tP 2 0), (4, tP 4 0), (5, tP 14 0), (6, tP 6 0), (18, tI ((xNl l).1))], [(2, .cells (TEdge.c e) 35), (4, .cells [.i 0, .i 0] 29), (6, .cells (TPoint.c ((FNear (TDraw.mk l 0) 120).1)) 29), (14, .cells (TDraw.c (wAt06_2 l)) 69)]⟩ (.cons (callOk_wr (fun _ _ => by kernel_rfl) (by kernel_rfl) (by kernel_rfl) (pNext ((FNear (TDraw.mk l 0) 120).2) 6 au3 au4)) .nil) (by kernel_rfl) (.cons rfl (.cons rfl .nil)) <| ath_n ?_
 refine aw_joinC (⟨[(4, tP 4 0), (5, tP 14 0), (6, tP 6 0)], [(4, .cells [.i 0, .i 0] 29), (6, .cells [.i (bif decide ((((xNl l).1) : Int) = 0) then e.A.X else (bif decide ((((xNl l).1) : Int) = 1) then e.B.X else (bif decide ((((xNl l).1) : Int) = 2) then (W64 (e.A.X + (W64 (Int.tdiv (W64 ((W64 (e.B.X - e.A.X)) * ((FNext (wAt06_2 l) 5).1))) 4)))) else (bif decide ((((xNl l).1) : Int) = 3) then (W64 (e.C.X + (W64 (Int.tdiv (W64 ((W64 ((([1, (-1)] : List Int).getD (((FNext ((FNext ((FNext (wAt06_2 l) 5).2) 5).2) 2).1).toNat) 0) * (([3, 4, 5, 7, 0] : List Int).getD (((FNext (wAt06_2 l) 5).1).toNat) 0))) * (Fref06Radius e))) (([5, 5, 13, 25, 1] : List Int).getD (((FNext ((FNext (wAt06_2 l) 5).2) 5).1).toNat) 0))))) else (((FNear (TDraw.mk l 0) 120).1).X))))), .i (bif decide ((((xNl l).1) : Int) = 0) then e.A.Y else (bif decide ((((xNl l).1) : Int) = 1) then e.B.Y else (bif decide ((((xNl l).1) : Int) = 2) then (W64 (e.A.Y + (W64 (Int.tdiv (W64 ((W64 (e.B.Y - e.A.Y)) * ((FNext (wAt06_2 l) 5).1))) 4)))) else (bif decide ((((xNl l).1) : Int) = 3) then (W64 (e.C.Y + (W64 (Int.tdiv (W64 ((W64 ((([1, (-1)] : List Int).getD (((FNext (wAt06_6 l) 2).1).toNat) 0) * (([4, 3, 12, 24, 1] : List Int).getD (((FNext (wAt06_2 l) 5).1).toNat) 0))) * (Fref06Radius e))) (([5, 5, 13, 25, 1] : List Int).getD (((FNext ((FNext (wAt06_2 l) 5).2) 5).1).toNat) 0))))) else (bif decide ((((xNl l).1) : Int) = 4) then e.A.Y else (((FNear (TDraw.mk l 0) 120).1).Y))))))] 29), (14, .cells (TDraw.c (bif decide ((((xNl l).1) : Int) = 0) then (wAt06_2 l) else (bif decide ((((xNl l).1) : Int) = 1) then (wAt06_2 l) else (bif decide ((((xNl l).1) : Int) = 2) then ((FNext (wAt06_2 l) 5).2) else (bif decide ((((xNl l).1) : Int) = 3) then ((FNext (wAt06_6 l) 2).2) else (wAt06_2 l)))))) 69)]⟩) ?_ ?_
 ·refine aw_block <| aw_seq ?_
  refine aw_region eqok [] [] [] [2, 4, 5, 6, 18, 19] [2, 4, 6, 14] [] ⟨[(2, tP 2 0), (4, tP 4 0), (5, tP 14 0), (6, tP 6 0), (18, tI ((xNl l).1)), (19, tB (decide ((((xNl l).1) : Int) = 0)))], [(2, .cells (TEdge.c e) 35), (4, .cells [.i 0, .i 0] 29), (6, .cells (TPoint.c ((FNear (TDraw.mk l 0) 120).1)) 29), (14, .cells (TDraw.c (wAt06_2 l)) 69)]⟩ .nil (by kernel_rfl) .nil <| ath_n ?_
  refine aw_cond (decide ((((xNl l).1) : Int) = 0)) (by kernel_rfl) (fun h1 => ?_) (fun h1 => ?_)
  ·have g1 := of_decide_eq_true h1
   refine aw_region eqok [] [] [] [4, 5, 6] [4, 6, 14] [] ⟨[(4, tP 4 0), (5, tP 14 0), (6, tP 6 0)], [(4, .cells [.i 0, .i 0] 29), (6, .cells (TPoint.c e.A) 29), (14, .cells (TDraw.c (wAt06_2 l)) 69)]⟩ .nil (by kernel_rfl) .nil <| abl_n <| ath_n ?_
   refine cv_eq ?_
   first | rfl | (simp only [h1, cond_true, cond_false]; done) | (simp only [h1, cond_true, cond_false]; rfl)
  ·have g1 := of_decide_eq_false h1
   refine aw_seq ?_
   refine aw_region eqok [] [] [] [2, 4, 5, 6, 18, 23] [2, 4, 6, 14] [] ⟨[(2, tP 2 0), (4, tP 4 0), (5, tP 14 0), (6, tP 6 0), (18, tI ((xNl l).1)), (23, tB (decide ((((xNl l).1) : Int) = 1)))], [(2, .cells (TEdge.c e) 35), (4, .cells [.i 0, .i 0] 29), (6, .cells (TPoint.c ((FNear (TDraw.mk l 0) 120).1)) 29), (14, .cells (TDraw.c (wAt06_2 l)) 69)]⟩ .nil (by kernel_rfl) .nil <| ath_n ?_
   refine aw_cond (decide ((((xNl l).1) : Int) = 1)) (by kernel_rfl) (fun h2 => ?_) (fun h2 => ?_)
   ·have g2 := of_decide_eq_true h2
    refine aw_region eqok [] [] [] [4, 5, 6] [4, 6, 14] [] ⟨[(4, tP 4 0), (5, tP 14 0), (6, tP 6 0)], [(4, .cells [.i 0, .i 0] 29), (6, .cells (TPoint.c e.B) 29), (14, .cells (TDraw.c (wAt06_2 l)) 69)]⟩ .nil (by kernel_rfl) .nil <| abl_n <| ath_n ?_
    refine cv_eq ?_
    first | rfl | (simp only [h1, h2, cond_true, cond_false]; done) | (simp only [h1, h2, cond_true, cond_false]; rfl)
   ·have g2 := of_decide_eq_false h2
    refine aw_seq ?_
    refine aw_region eqok [] [] [] [2, 4, 5, 6, 18, 27] [2, 4, 6, 14] [] ⟨[(2, tP 2 0), (4, tP 4 0), (5, tP 14 0), (6, tP 6 0), (18, tI ((xNl l).1)), (27, tB (decide ((((xNl l).1) : Int) = 2)))], [(2, .cells (TEdge.c e) 35), (4, .cells [.i 0, .i 0] 29), (6, .cells (TPoint.c ((FNear (TDraw.mk l 0) 120).1)) 29), (14, .cells (TDraw.c (wAt06_2 l)) 69)]⟩ .nil (by kernel_rfl) .nil <| ath_n ?_
    refine aw_cond (decide ((((xNl l).1) : Int) = 2)) (by kernel_rfl) (fun h3 => ?_) (fun h3 => ?_)
    ·have g3 := of_decide_eq_true h3
     refine aw_seq ?_
     refine aw_region eqok [] [] [(30, (wAt06_3 l))] [2, 4, 5, 6, 7] [2, 4, 6, 14] [Same ((wAt06_3 l)).2.1, SameB (.cells (TDraw.c (wAt06_2 l)) 69)] ⟨[(2, tP 2 0), (4, tP 4 0), (5, tP 14 0), (6, tP 6 0), (7, tI ((FNext (wAt06_2 l) 5).1))], [(2, .cells (TEdge.c e) 35), (4, .cells [.i 0, .i 0] 29), (6, .cells (TPoint.c ((FNear (TDraw.mk l 0) 120).1)) 29), (14, .cells (TDraw.c ((FNext (wAt06_2 l) 5).2)) 69)]⟩ (.cons (callOk_wr (fun _ _ => by kernel_rfl) (by kernel_rfl) (by kernel_rfl) (pNext (wAt06_2 l) 5 au3 au4)) .nil) (by kernel_rfl) (.cons rfl (.cons rfl .nil)) <| ath_n ?_
     refine aw_region eqok [] [] [] [4, 5, 6] [4, 6, 14] [(4 : Int) ≠ 0, (4 : Int) ≠ 0] ⟨[(4, tP 4 0), (5, tP 14 0), (6, tP 6 0)], [(4, .cells [.i 0, .i 0] 29), (6, .cells [.i (W64 (e.A.X + (W64 (Int.tdiv (W64 ((W64 (e.B.X - e.A.X)) * ((FNext (wAt06_2 l) 5).1))) 4)))), .i (W64 (e.A.Y + (W64 (Int.tdiv (W64 ((W64 (e.B.Y - e.A.Y)) * ((FNext (wAt06_2 l) 5).1))) 4))))] 29), (14, .cells (TDraw.c ((FNext (wAt06_2 l) 5).2)) 69)]⟩ .nil (by kernel_rfl) (.cons au10 (.cons au10 .nil)) <| abl_n <| ath_n ?_
     refine cv_eq ?_
     first | rfl | (simp only [h1, h2, h3, cond_true, cond_false]; done) | (simp only [h1, h2, h3, cond_true, cond_false]; rfl)
    ·have g3 := of_decide_eq_false h3
     refine aw_seq ?_
     refine aw_region eqok [] [] [] [2, 4, 5, 6, 18, 60] [2, 4, 6, 14] [] ⟨[(2, tP 2 0), (4, tP 4 0), (5, tP 14 0), (6, tP 6 0), (18, tI ((xNl l).1)), (60, tB (decide ((((xNl l).1) : Int) = 3)))], [(2, .cells (TEdge.c e) 35), (4, .cells [.i 0, .i 0] 29), (6, .cells (TPoint.c ((FNear (TDraw.mk l 0) 120).1)) 29), (14, .cells (TDraw.c (wAt06_2 l)) 69)]⟩ .nil (by kernel_rfl) .nil <| ath_n ?_
     refine aw_cond (decide ((((xNl l).1) : Int) = 3)) (by kernel_rfl) (fun h4 => ?_) (fun h4 => ?_)
     ·have g4 := of_decide_eq_true h4
      refine aw_seq ?_
      refine aw_region eqok [] [] [(63, cref06Radius e)] [2, 4, 5, 6, 8] [2, 4, 6, 14] [Same (cref06Radius e).2.1] ⟨[(2, tP 2 0), (4, tP 4 0), (5, tP 14 0), (6, tP 6 0), (8, tI (Fref06Radius e))], [(2, .cells (TEdge.c e) 35), (4, .cells [.i 0, .i 0] 29), (6, .cells (TPoint.c ((FNear (TDraw.mk l 0) 120).1)) 29), (14, .cells (TDraw.c (wAt06_2 l)) 69)]⟩ (.cons (okref06Radius e) .nil) (by kernel_rfl) (.cons rfl .nil) <| ath_n <| aw_seq ?_
      refine aw_region eqok [] [] [(71, (wAt06_3 l))] [2, 4, 5, 6, 8, 9] [2, 4, 6, 9, 14] [Same ((wAt06_3 l)).2.1, SameB (.cells (TDraw.c (wAt06_2 l)) 69), 0 ≤ ((FNext (wAt06_2 l) 5).1 : Int) ∧ ((FNext (wAt06_2 l) 5).1 : Int) < ((5 : Nat) : Int)] ⟨[(2, tP 2 0), (4, tP 4 0), (5, tP 14 0), (6, tP 6 0), (8, tI (Fref06Radius e)), (9, tP 9 0)], [(2, .cells (TEdge.c e) 35), (4, .cells [.i 0, .i 0] 29), (6, .cells (TPoint.c ((FNear (TDraw.mk l 0) 120).1)) 29), (9, .cells [.i (([3, 4, 5, 7, 0] : List Int).getD (((FNext (wAt06_2 l) 5).1).toNat) 0), .i (([4, 3, 12, 24, 1] : List Int).getD (((FNext (wAt06_2 l) 5).1).toNat) 0)] 102), (14, .cells (TDraw.c ((FNext (wAt06_2 l) 5).2)) 69)]⟩ (.cons (callOk_wr (fun _ _ => by kernel_rfl) (by kernel_rfl) (by kernel_rfl) (pNext (wAt06_2 l) 5 au3 au4)) .nil) (by kernel_rfl) (.cons rfl (.cons rfl (.cons au9 .nil))) <| ath_n <| aw_seq ?_
      refine aw_region eqok [] [] [(76, (wAt06_4 l))] [2, 4, 5, 6, 8, 9, 10] [2, 4, 6, 9, 14] [Same ((wAt06_4 l)).2.1, SameB (.cells (TDraw.c ((FNext (wAt06_2 l) 5).2)) 69), 0 ≤ ((FNext ((FNext (wAt06_2 l) 5).2) 5).1 : Int) ∧ ((FNext ((FNext (wAt06_2 l) 5).2) 5).1 : Int) < ((5 : Nat) : Int)] ⟨[(2, tP 2 0), (4, tP 4 0), (5, tP 14 0), (6, tP 6 0), (8, tI (Fref06Radius e)), (9, tP 9 0), (10, tI (([5, 5, 13, 25, 1] : List Int).getD (((FNext ((FNext (wAt06_2 l) 5).2) 5).1).toNat) 0))], [(2, .cells (TEdge.c e) 35), (4, .cells [.i 0, .i 0] 29), (6, .cells (TPoint.c ((FNear (TDraw.mk l 0) 120).1)) 29), (9, .cells [.i (([3, 4, 5, 7, 0] : List Int).getD (((FNext (wAt06_2 l) 5).1).toNat) 0), .i (([4, 3, 12, 24, 1] : List Int).getD (((FNext (wAt06_2 l) 5).1).toNat) 0)] 102), (14, .cells (TDraw.c ((FNext ((FNext (wAt06_2 l) 5).2) 5).2)) 69)]⟩ (.cons (callOk_wr (fun _ _ => by kernel_rfl) (by kernel_rfl) (by kernel_rfl) (pNext ((FNext (wAt06_2 l) 5).2) 5 au3 au4)) .nil) (by kernel_rfl) (.cons rfl (.cons rfl (.cons au9 .nil))) <| ath_n <| aw_seq ?_
      refine aw_draw mixed eqok [] [] [(81, (wAt06_5 l))] [2, 4, 5, 6, 8, 9, 10, 11] [2, 4, 6, 9, 14] [Same ((wAt06_5 l)).2.1, SameB (.cells (TDraw.c ((FNext ((FNext (wAt06_2 l) 5).2) 5).2)) 69), 0 ≤ ((FNext ((FNext ((FNext (wAt06_2 l) 5).2) 5).2) 2).1 : Int) ∧ ((FNext ((FNext ((FNext (wAt06_2 l) 5).2) 5).2) 2).1 : Int) < ((2 : Nat) : Int), 0 ≤ (0 : Int) ∧ (0 : Int) < (2 : Int), (([5, 5, 13, 25, 1] : List Int).getD (((FNext ((FNext (wAt06_2 l) 5).2) 5).1).toNat) 0 : Int) ≠ 0] ⟨[(2, tP 2 0), (4, tP 4 0), (5, tP 14 0), (6, tP 6 0), (8, tI (Fref06Radius e)), (9, tP 9 0), (10, tI (([5, 5, 13, 25, 1] : List Int).getD (((FNext ((FNext (wAt06_2 l) 5).2) 5).1).toNat) 0)), (11, tI (W64 (Int.tdiv (W64 ((W64 ((([1, (-1)] : List Int).getD (((FNext ((FNext ((FNext (wAt06_2 l) 5).2) 5).2) 2).1).toNat) 0) * (([3, 4, 5, 7, 0] : List Int).getD (((FNext (wAt06_2 l) 5).1).toNat) 0))) * (Fref06Radius e))) (([5, 5, 13, 25, 1] : List Int).getD (((FNext ((FNext (wAt06_2 l) 5).2) 5).1).toNat) 0))))], [(2, .cells (TEdge.c e) 35), (4, .cells [.i 0, .i 0] 29), (6, .cells (TPoint.c ((FNear (TDraw.mk l 0) 120).1)) 29), (9, .cells [.i (([3, 4, 5, 7, 0] : List Int).getD (((FNext (wAt06_2 l) 5).1).toNat) 0), .i (([4, 3, 12, 24, 1] : List Int).getD (((FNext (wAt06_2 l) 5).1).toNat) 0)] 102), (14, .cells (TDraw.c (wAt06_6 l)) 69)]⟩ (.cons (callOk_wr (fun _ _ => by kernel_rfl) (by kernel_rfl) (by kernel_rfl) (pNext ((FNext ((FNext (wAt06_2 l) 5).2) 5).2) 2 au3 au4)) .nil) (by kernel_rfl) (by kernel_rfl) (.cons rfl (.cons rfl (.cons au9 (.cons (by decide) (.cons au10 .nil))))) <| ath_n ?_
      refine aw_draw mixed eqok [] [] [(101, (wAt06_7 l))] [4, 5, 6] [4, 6, 14] [Same ((wAt06_7 l)).2.1, SameB (.cells (TDraw.c (wAt06_6 l)) 69), 0 ≤ ((FNext (wAt06_6 l) 2).1 : Int) ∧ ((FNext (wAt06_6 l) 2).1 : Int) < ((2 : Nat) : Int), 0 ≤ (1 : Int) ∧ (1 : Int) < (2 : Int), (([5, 5, 13, 25, 1] : List Int).getD (((FNext ((FNext (wAt06_2 l) 5).2) 5).1).toNat) 0 : Int) ≠ 0] ⟨[(4, tP 4 0), (5, tP 14 0), (6, tP 6 0)], [(4, .cells [.i 0, .i 0] 29), (6, .cells [.i (W64 (e.C.X + (W64 (Int.tdiv (W64 ((W64 ((([1, (-1)] : List Int).getD (((FNext ((FNext ((FNext (wAt06_2 l) 5).2) 5).2) 2).1).toNat) 0) * (([3, 4, 5, 7, 0] : List Int).getD (((FNext (wAt06_2 l) 5).1).toNat) 0))) * (Fref06Radius e))) (([5, 5, 13, 25, 1] : List Int).getD (((FNext ((FNext (wAt06_2 l) 5).2) 5).1).toNat) 0))))), .i (W64 (e.C.Y + (W64 (Int.tdiv (W64 ((W64 ((([1, (-1)] : List Int).getD (((FNext (wAt06_6 l) 2).1).toNat) 0) * (([4, 3, 12, 24, 1] : List Int).getD (((FNext (wAt06_2 l) 5).1).toNat) 0))) * (Fref06Radius e))) (([5, 5, 13, 25, 1] : List Int).getD (((FNext ((FNext (wAt06_2 l) 5).2) 5).1).toNat) 0)))))] 29), (14, .cells (TDraw.c ((FNext (wAt06_6 l) 2).2)) 69)]⟩ (.cons (callOk_wr (fun _ _ => by kernel_rfl) (by kernel_rfl) (by kernel_rfl) (pNext (wAt06_6 l) 2 au3 au4)) .nil) (by kernel_rfl) (by kernel_rfl) (.cons rfl (.cons rfl (.cons au9 (.cons (by decide) (.cons au10 .nil))))) <| abl_n <| ath_n ?_
      refine cv_eq ?_
      first | rfl | (simp only [h1, h2, h3, h4, cond_true, cond_false]; done) | (simp only [h1, h2, h3, h4, cond_true, cond_false]; rfl)
     ·have g4 := of_decide_eq_false h4
      refine aw_seq ?_
      refine aw_region eqok [] [] [] [2, 4, 5, 6, 113] [2, 4, 6, 14] [] ⟨[(2, tP 2 0), (4, tP 4 0), (5, tP 14 0), (6, tP 6 0), (113, tB (decide ((((xNl l).1) : Int) = 4)))], [(2, .cells (TEdge.c e) 35), (4, .cells [.i 0, .i 0] 29), (6, .cells (TPoint.c ((FNear (TDraw.mk l 0) 120).1)) 29), (14, .cells (TDraw.c (wAt06_2 l)) 69)]⟩ .nil (by kernel_rfl) .nil <| ath_n ?_
      refine aw_cond (decide ((((xNl l).1) : Int) = 4)) (by kernel_rfl) (fun h5 => ?_) (fun h5 => ?_)
      ·have g5 := of_decide_eq_true h5
       refine aw_region eqok [] [] [] [4, 5, 6] [4, 6, 14] [] ⟨[(4, tP 4 0), (5, tP 14 0), (6, tP 6 0)], [(4, .cells [.i 0, .i 0] 29), (6, .cells [.i (((FNear (TDraw.mk l 0) 120).1).X), .i e.A.Y] 29), (14, .cells (TDraw.c (wAt06_2 l)) 69)]⟩ .nil (by kernel_rfl) .nil <| abl_n <| ath_n ?_
       refine cv_eq ?_
       first | rfl | (simp only [h1, h2, h3, h4, h5, cond_true, cond_false]; done) | (simp only [h1, h2, h3, h4, h5, cond_true, cond_false]; rfl)
      ·have g5 := of_decide_eq_false h5
       refine aw_skip <| abl_n <| ath_n ?_
       refine Cv.trans (cv_keep [4, 5, 6] [4, 6, 14] (⟨[(4, tP 4 0), (5, tP 14 0), (6, tP 6 0)], [(4, .cells [.i 0, .i 0] 29), (6, .cells (TPoint.c ((FNear (TDraw.mk l 0) 120).1)) 29), (14, .cells (TDraw.c (wAt06_2 l)) 69)]⟩) (by kernel_rfl)) (cv_eq ?_)
       first | rfl | (simp only [h1, h2, h3, h4, h5, cond_true, cond_false]; done) | (simp only [h1, h2, h3, h4, h5, cond_true, cond_false]; rfl)
 refine aw_seq <| aw_seq ?_
 refine aw_region eqok [] [] [(120, (wAt06_8 l))] [4, 5, 6, 121] [4, 6, 14] [Same ((wAt06_8 l)).2.1, SameB (.cells (TDraw.c (bif decide ((((xNl l).1) : Int) = 0) then (wAt06_2 l) else (bif decide ((((xNl l).1) : Int) = 1) then (wAt06_2 l) else (bif decide ((((xNl l).1) : Int) = 2) then ((FNext (wAt06_2 l) 5).2) else (bif decide ((((xNl l).1) : Int) = 3) then ((FNext (wAt06_6 l) 2).2) else (wAt06_2 l)))))) 69)] ⟨[(4, tP 4 0), (5, tP 14 0), (6, tP 6 0), (121, tB (decide ((((FNext (bif decide ((((xNl l).1) : Int) = 0) then (wAt06_2 l) else (bif decide ((((xNl l).1) : Int) = 1) then (wAt06_2 l) else (bif decide ((((xNl l).1) : Int) = 2) then ((FNext (wAt06_2 l) 5).2) else (bif decide ((((xNl l).1) : Int) = 3) then ((FNext (wAt06_6 l) 2).2) else (wAt06_2 l))))) 2).1) : Int) = 0)))], [(4, .cells [.i 0, .i 0] 29), (6, .cells [.i (bif decide ((((xNl l).1) : Int) = 0) then e.A.X else (bif decide ((((xNl l).1) : Int) = 1) then e.B.X else (bif decide ((((xNl l).1) : Int) = 2) then (W64 (e.A.X + (W64 (Int.tdiv (W64 ((W64 (e.B.X - e.A.X)) * ((FNext (wAt06_2 l) 5).1))) 4)))) else (bif decide ((((xNl l).1) : Int) = 3) then (W64 (e.C.X + (W64 (Int.tdiv (W64 ((W64 ((([1, (-1)] : List Int).getD (((FNext ((FNext ((FNext (wAt06_2 l) 5).2) 5).2) 2).1).toNat) 0) * (([3, 4, 5, 7, 0] : List Int).getD (((FNext (wAt06_2 l) 5).1).toNat) 0))) * (Fref06Radius e))) (([5, 5, 13, 25, 1] : List Int).getD (((FNext ((FNext (wAt06_2 l) 5).2) 5).1).toNat) 0))))) else (((FNear (TDraw.mk l 0) 120).1).X))))), .i (bif decide ((((xNl l).1) : Int) = 0) then e.A.Y else (bif decide ((((xNl l).1) : Int) = 1) then e.B.Y else (bif decide ((((xNl l).1) : Int) = 2) then (W64 (e.A.Y + (W64 (Int.tdiv (W64 ((W64 (e.B.Y - e.A.Y)) * ((FNext (wAt06_2 l) 5).1))) 4)))) else (bif decide ((((xNl l).1) : Int) = 3) then (W64 (e.C.Y + (W64 (Int.tdiv (W64 ((W64 ((([1, (-1)] : List Int).getD (((FNext (wAt06_6 l) 2).1).toNat) 0) * (([4, 3, 12, 24, 1] : List Int).getD (((FNext (wAt06_2 l) 5).1).toNat) 0))) * (Fref06Radius e))) (([5, 5, 13, 25, 1] : List Int).getD (((FNext ((FNext (wAt06_2 l) 5).2) 5).1).toNat) 0))))) else (bif decide ((((xNl l).1) : Int) = 4) then e.A.Y else (((FNear (TDraw.mk l 0) 120).1).Y))))))] 29), (14, .cells (TDraw.c (wAt06_9 l)) 69)]⟩ (.cons (callOk_wr (fun _ _ => by kernel_rfl) (by kernel_rfl) (by kernel_rfl) (pNext (bif decide ((((xNl l).1) : Int) = 0) then (wAt06_2 l) else (bif decide ((((xNl l).1) : Int) = 1) then (wAt06_2 l) else (bif decide ((((xNl l).1) : Int) = 2) then ((FNext (wAt06_2 l) 5).2) else (bif decide ((((xNl l).1) : Int) = 3) then ((FNext (wAt06_6 l) 2).2) else (wAt06_2 l))))) 2 au3 au4)) .nil) (by kernel_rfl) (.cons rfl (.cons rfl .nil)) <| ath_n ?_
 refine aw_joinC (⟨[(4, tP 4 0), (6, tP 6 0)], [(4, .cells [.i 0, .i 0] 29), (6, .cells [.i (bif decide ((((FNext (bif decide ((((xNl l).1) : Int) = 0) then (wAt06_2 l) else (bif decide ((((xNl l).1) : Int) = 1) then (wAt06_2 l) else (bif decide ((((xNl l).1) : Int) = 2) then ((FNext (wAt06_2 l) 5).2) else (bif decide ((((xNl l).1) : Int) = 3) then ((FNext (wAt06_6 l) 2).2) else (wAt06_2 l))))) 2).1) : Int) = 0) then (W64 ((W64 ((bif decide ((((xNl l).1) : Int) = 0) then e.A.X else (bif decide ((((xNl l).1) : Int) = 1) then e.B.X else (bif decide ((((xNl l).1) : Int) = 2) then (W64 (e.A.X + (W64 (Int.tdiv (W64 ((W64 (e.B.X - e.A.X)) * ((FNext (wAt06_2 l) 5).1))) 4)))) else (bif decide ((((xNl l).1) : Int) = 3) then (W64 (e.C.X + (W64 (Int.tdiv (W64 ((W64 ((([1, (-1)] : List Int).getD (((FNext ((FNext ((FNext (wAt06_2 l) 5).2) 5).2) 2).1).toNat) 0) * (([3, 4, 5, 7, 0] : List Int).getD (((FNext (wAt06_2 l) 5).1).toNat) 0))) * (Fref06Radius e))) (([5, 5, 13, 25, 1] : List Int).getD (((FNext ((FNext (wAt06_2 l) 5).2) 5).1).toNat) 0))))) else (((FNear (TDraw.mk l 0) 120).1).X))))) + ((FNext (wAt06_9 l) 3).1))) - 1)) else (bif decide ((((xNl l).1) : Int) = 0) then e.A.X else (bif decide ((((xNl l).1) : Int) = 1) then e.B.X else (bif decide ((((xNl l).1) : Int) = 2) then (W64 (e.A.X + (W64 (Int.tdiv (W64 ((W64 (e.B.X - e.A.X)) * ((FNext (wAt06_2 l) 5).1))) 4)))) else (bif decide ((((xNl l).1) : Int) = 3) then (W64 (e.C.X + (W64 (Int.tdiv (W64 ((W64 ((([1, (-1)] : List Int).getD (((FNext ((FNext ((FNext (wAt06_2 l) 5).2) 5).2) 2).1).toNat) 0) * (([3, 4, 5, 7, 0] : List Int).getD (((FNext (wAt06_2 l) 5).1).toNat) 0))) * (Fref06Radius e))) (([5, 5, 13, 25, 1] : List Int).getD (((FNext ((FNext (wAt06_2 l) 5).2) 5).1).toNat) 0))))) else (((FNear (TDraw.mk l 0) 120).1).X)))))), .i (bif decide ((((xNl l).1) : Int) = 0) then e.A.Y else (bif decide ((((xNl l).1) : Int) = 1) then e.B.Y else (bif decide ((((xNl l).1) : Int) = 2) then (W64 (e.A.Y + (W64 (Int.tdiv (W64 ((W64 (e.B.Y - e.A.Y)) * ((FNext (wAt06_2 l) 5).1))) 4)))) else (bif decide ((((xNl l).1) : Int) = 3) then (W64 (e.C.Y + (W64 (Int.tdiv (W64 ((W64 ((([1, (-1)] : List Int).getD (((FNext (wAt06_6 l) 2).1).toNat) 0) * (([4, 3, 12, 24, 1] : List Int).getD (((FNext (wAt06_2 l) 5).1).toNat) 0))) * (Fref06Radius e))) (([5, 5, 13, 25, 1] : List Int).getD (((FNext ((FNext (wAt06_2 l) 5).2) 5).1).toNat) 0))))) else (bif decide ((((xNl l).1) : Int) = 4) then e.A.Y else (((FNear (TDraw.mk l 0) 120).1).Y))))))] 29)]⟩) ?_ ?_
 ·refine aw_cond (decide ((((FNext (bif decide ((((xNl l).1) : Int) = 0) then (wAt06_2 l) else (bif decide ((((xNl l).1) : Int) = 1) then (wAt06_2 l) else (bif decide ((((xNl l).1) : Int) = 2) then ((FNext (wAt06_2 l) 5).2) else (bif decide ((((xNl l).1) : Int) = 3) then ((FNext (wAt06_6 l) 2).2) else (wAt06_2 l))))) 2).1) : Int) = 0)) (by kernel_rfl) (fun h1 => ?_) (fun h1 => ?_)
  ·have g1 := of_decide_eq_true h1
   refine aw_draw mixed eqok [] [] [(125, (wAt06_10 l))] [4, 6] [4, 6] [Same ((wAt06_10 l)).2.1, SameB (.cells (TDraw.c (wAt06_9 l)) 69)] ⟨[(4, tP 4 0), (6, tP 6 0)], [(4, .cells [.i 0, .i 0] 29), (6, .cells [.i (W64 ((W64 ((bif decide ((((xNl l).1) : Int) = 0) then e.A.X else (bif decide ((((xNl l).1) : Int) = 1) then e.B.X else (bif decide ((((xNl l).1) : Int) = 2) then (W64 (e.A.X + (W64 (Int.tdiv (W64 ((W64 (e.B.X - e.A.X)) * ((FNext (wAt06_2 l) 5).1))) 4)))) else (bif decide ((((xNl l).1) : Int) = 3) then (W64 (e.C.X + (W64 (Int.tdiv (W64 ((W64 ((([1, (-1)] : List Int).getD (((FNext ((FNext ((FNext (wAt06_2 l) 5).2) 5).2) 2).1).toNat) 0) * (([3, 4, 5, 7, 0] : List Int).getD (((FNext (wAt06_2 l) 5).1).toNat) 0))) * (Fref06Radius e))) (([5, 5, 13, 25, 1] : List Int).getD (((FNext ((FNext (wAt06_2 l) 5).2) 5).1).toNat) 0))))) else (((FNear (TDraw.mk l 0) 120).1).X))))) + ((FNext (wAt06_9 l) 3).1))) - 1)), .i (bif decide ((((xNl l).1) : Int) = 0) then e.A.Y else (bif decide ((((xNl l).1) : Int) = 1) then e.B.Y else (bif decide ((((xNl l).1) : Int) = 2) then (W64 (e.A.Y + (W64 (Int.tdiv (W64 ((W64 (e.B.Y - e.A.Y)) * ((FNext (wAt06_2 l) 5).1))) 4)))) else (bif decide ((((xNl l).1) : Int) = 3) then (W64 (e.C.Y + (W64 (Int.tdiv (W64 ((W64 ((([1, (-1)] : List Int).getD (((FNext (wAt06_6 l) 2).1).toNat) 0) * (([4, 3, 12, 24, 1] : List Int).getD (((FNext (wAt06_2 l) 5).1).toNat) 0))) * (Fref06Radius e))) (([5, 5, 13, 25, 1] : List Int).getD (((FNext ((FNext (wAt06_2 l) 5).2) 5).1).toNat) 0))))) else (bif decide ((((xNl l).1) : Int) = 4) then e.A.Y else (((FNear (TDraw.mk l 0) 120).1).Y))))))] 29)]⟩ (.cons (callOk_wr (fun _ _ => by kernel_rfl) (by kernel_rfl) (by kernel_rfl) (pNext (wAt06_9 l) 3 au3 au4)) .nil) (by kernel_rfl) (by kernel_rfl) (.cons rfl (.cons rfl .nil)) <| ath_n ?_
   refine cv_eq ?_
   first | rfl | (simp only [h1, cond_true, cond_false]; done) | (simp only [h1, cond_true, cond_false]; rfl)
  ·have g1 := of_decide_eq_false h1
   refine aw_skip <| ath_n ?_
   refine Cv.trans (cv_keep [4, 6] [4, 6] (⟨[(4, tP 4 0), (6, tP 6 0)], [(4, .cells [.i 0, .i 0] 29), (6, .cells [.i (bif decide ((((xNl l).1) : Int) = 0) then e.A.X else (bif decide ((((xNl l).1) : Int) = 1) then e.B.X else (bif decide ((((xNl l).1) : Int) = 2) then (W64 (e.A.X + (W64 (Int.tdiv (W64 ((W64 (e.B.X - e.A.X)) * ((FNext (wAt06_2 l) 5).1))) 4)))) else (bif decide ((((xNl l).1) : Int) = 3) then (W64 (e.C.X + (W64 (Int.tdiv (W64 ((W64 ((([1, (-1)] : List Int).getD (((FNext ((FNext ((FNext (wAt06_2 l) 5).2) 5).2) 2).1).toNat) 0) * (([3, 4, 5, 7, 0] : List Int).getD (((FNext (wAt06_2 l) 5).1).toNat) 0))) * (Fref06Radius e))) (([5, 5, 13, 25, 1] : List Int).getD (((FNext ((FNext (wAt06_2 l) 5).2) 5).1).toNat) 0))))) else (((FNear (TDraw.mk l 0) 120).1).X))))), .i (bif decide ((((xNl l).1) : Int) = 0) then e.A.Y else (bif decide ((((xNl l).1) : Int) = 1) then e.B.Y else (bif decide ((((xNl l).1) : Int) = 2) then (W64 (e.A.Y + (W64 (Int.tdiv (W64 ((W64 (e.B.Y - e.A.Y)) * ((FNext (wAt06_2 l) 5).1))) 4)))) else (bif decide ((((xNl l).1) : Int) = 3) then (W64 (e.C.Y + (W64 (Int.tdiv (W64 ((W64 ((([1, (-1)] : List Int).getD (((FNext (wAt06_6 l) 2).1).toNat) 0) * (([4, 3, 12, 24, 1] : List Int).getD (((FNext (wAt06_2 l) 5).1).toNat) 0))) * (Fref06Radius e))) (([5, 5, 13, 25, 1] : List Int).getD (((FNext ((FNext (wAt06_2 l) 5).2) 5).1).toNat) 0))))) else (bif decide ((((xNl l).1) : Int) = 4) then e.A.Y else (((FNear (TDraw.mk l 0) 120).1).Y))))))] 29)]⟩) (by kernel_rfl)) (cv_eq ?_)
   first | rfl | (simp only [h1, cond_true, cond_false]; done) | (simp only [h1, cond_true, cond_false]; rfl)
 refine aw_seq ?_
 refine aw_region eqok [] [] [] [4] [4] [] ⟨[(4, tP 4 0)], [(4, .cells [.i (bif decide ((((FNext (bif decide ((((xNl l).1) : Int) = 0) then (wAt06_2 l) else (bif decide ((((xNl l).1) : Int) = 1) then (wAt06_2 l) else (bif decide ((((xNl l).1) : Int) = 2) then ((FNext (wAt06_2 l) 5).2) else (bif decide ((((xNl l).1) : Int) = 3) then ((FNext (wAt06_6 l) 2).2) else (wAt06_2 l))))) 2).1) : Int) = 0) then (W64 ((W64 ((bif decide ((((xNl l).1) : Int) = 0) then e.A.X else (bif decide ((((xNl l).1) : Int) = 1) then e.B.X else (bif decide ((((xNl l).1) : Int) = 2) then (W64 (e.A.X + (W64 (Int.tdiv (W64 ((W64 (e.B.X - e.A.X)) * ((FNext (wAt06_2 l) 5).1))) 4)))) else (bif decide ((((xNl l).1) : Int) = 3) then (W64 (e.C.X + (W64 (Int.tdiv (W64 ((W64 ((([1, (-1)] : List Int).getD (((FNext ((FNext ((FNext (wAt06_2 l) 5).2) 5).2) 2).1).toNat) 0) * (([3, 4, 5, 7, 0] : List Int).getD (((FNext (wAt06_2 l) 5).1).toNat) 0))) * (Fref06Radius e))) (([5, 5, 13, 25, 1] : List Int).getD (((FNext ((FNext (wAt06_2 l) 5).2) 5).1).toNat) 0))))) else (((FNear (TDraw.mk l 0) 120).1).X))))) + ((FNext (wAt06_9 l) 3).1))) - 1)) else (bif decide ((((xNl l).1) : Int) = 0) then e.A.X else (bif decide ((((xNl l).1) : Int) = 1) then e.B.X else (bif decide ((((xNl l).1) : Int) = 2) then (W64 (e.A.X + (W64 (Int.tdiv (W64 ((W64 (e.B.X - e.A.X)) * ((FNext (wAt06_2 l) 5).1))) 4)))) else (bif decide ((((xNl l).1) : Int) = 3) then (W64 (e.C.X + (W64 (Int.tdiv (W64 ((W64 ((([1, (-1)] : List Int).getD (((FNext ((FNext ((FNext (wAt06_2 l) 5).2) 5).2) 2).1).toNat) 0) * (([3, 4, 5, 7, 0] : List Int).getD (((FNext (wAt06_2 l) 5).1).toNat) 0))) * (Fref06Radius e))) (([5, 5, 13, 25, 1] : List Int).getD (((FNext ((FNext (wAt06_2 l) 5).2) 5).1).toNat) 0))))) else (((FNear (TDraw.mk l 0) 120).1).X)))))), .i (bif decide ((((xNl l).1) : Int) = 0) then e.A.Y else (bif decide ((((xNl l).1) : Int) = 1) then e.B.Y else (bif decide ((((xNl l).1) : Int) = 2) then (W64 (e.A.Y + (W64 (Int.tdiv (W64 ((W64 (e.B.Y - e.A.Y)) * ((FNext (wAt06_2 l) 5).1))) 4)))) else (bif decide ((((xNl l).1) : Int) = 3) then (W64 (e.C.Y + (W64 (Int.tdiv (W64 ((W64 ((([1, (-1)] : List Int).getD (((FNext (wAt06_6 l) 2).1).toNat) 0) * (([4, 3, 12, 24, 1] : List Int).getD (((FNext (wAt06_2 l) 5).1).toNat) 0))) * (Fref06Radius e))) (([5, 5, 13, 25, 1] : List Int).getD (((FNext ((FNext (wAt06_2 l) 5).2) 5).1).toNat) 0))))) else (bif decide ((((xNl l).1) : Int) = 4) then e.A.Y else (((FNear (TDraw.mk l 0) 120).1).Y))))))] 29)]⟩ .nil (by kernel_rfl) .nil <| ath_n <| aw_ret ?_
 exact ⟨_, Cv.refl _, .inl rfl, .av (.agg [.i (bif decide ((((FNext (bif decide ((((xNl l).1) : Int) = 0) then (wAt06_2 l) else (bif decide ((((xNl l).1) : Int) = 1) then (wAt06_2 l) else (bif decide ((((xNl l).1) : Int) = 2) then ((FNext (wAt06_2 l) 5).2) else (bif decide ((((xNl l).1) : Int) = 3) then ((FNext (wAt06_6 l) 2).2) else (wAt06_2 l))))) 2).1) : Int) = 0) then (W64 ((W64 ((bif decide ((((xNl l).1) : Int) = 0) then e.A.X else (bif decide ((((xNl l).1) : Int) = 1) then e.B.X else (bif decide ((((xNl l).1) : Int) = 2) then (W64 (e.A.X + (W64 (Int.tdiv (W64 ((W64 (e.B.X - e.A.X)) * ((FNext (wAt06_2 l) 5).1))) 4)))) else (bif decide ((((xNl l).1) : Int) = 3) then (W64 (e.C.X + (W64 (Int.tdiv (W64 ((W64 ((([1, (-1)] : List Int).getD (((FNext ((FNext ((FNext (wAt06_2 l) 5).2) 5).2) 2).1).toNat) 0) * (([3, 4, 5, 7, 0] : List Int).getD (((FNext (wAt06_2 l) 5).1).toNat) 0))) * (Fref06Radius e))) (([5, 5, 13, 25, 1] : List Int).getD (((FNext ((FNext (wAt06_2 l) 5).2) 5).1).toNat) 0))))) else (((FNear (TDraw.mk l 0) 120).1).X))))) + ((FNext (wAt06_9 l) 3).1))) - 1)) else (bif decide ((((xNl l).1) : Int) = 0) then e.A.X else (bif decide ((((xNl l).1) : Int) = 1) then e.B.X else (bif decide ((((xNl l).1) : Int) = 2) then (W64 (e.A.X + (W64 (Int.tdiv (W64 ((W64 (e.B.X - e.A.X)) * ((FNext (wAt06_2 l) 5).1))) 4)))) else (bif decide ((((xNl l).1) : Int) = 3) then (W64 (e.C.X + (W64 (Int.tdiv (W64 ((W64 ((([1, (-1)] : List Int).getD (((FNext ((FNext ((FNext (wAt06_2 l) 5).2) 5).2) 2).1).toNat) 0) * (([3, 4, 5, 7, 0] : List Int).getD (((FNext (wAt06_2 l) 5).1).toNat) 0))) * (Fref06Radius e))) (([5, 5, 13, 25, 1] : List Int).getD (((FNext ((FNext (wAt06_2 l) 5).2) 5).1).toNat) 0))))) else (((FNear (TDraw.mk l 0) 120).1).X)))))), .i (bif decide ((((xNl l).1) : Int) = 0) then e.A.Y else (bif decide ((((xNl l).1) : Int) = 1) then e.B.Y else (bif decide ((((xNl l).1) : Int) = 2) then (W64 (e.A.Y + (W64 (Int.tdiv (W64 ((W64 (e.B.Y - e.A.Y)) * ((FNext (wAt06_2 l) 5).1))) 4)))) else (bif decide ((((xNl l).1) : Int) = 3) then (W64 (e.C.Y + (W64 (Int.tdiv (W64 ((W64 ((([1, (-1)] : List Int).getD (((FNext (wAt06_6 l) 2).1).toNat) 0) * (([4, 3, 12, 24, 1] : List Int).getD (((FNext (wAt06_2 l) 5).1).toNat) 0))) * (Fref06Radius e))) (([5, 5, 13, 25, 1] : List Int).getD (((FNext ((FNext (wAt06_2 l) 5).2) 5).1).toNat) 0))))) else (bif decide ((((xNl l).1) : Int) = 4) then e.A.Y else (((FNear (TDraw.mk l 0) 120).1).Y))))))]), by kernel_rfl, tve_eq (by rfl)⟩
theorem okAt06 (e : TEdge) (l : (List Int)) (hl : (l.length : Int) ≤ 9223372036854775807) : CallOk Try.prog (cAt06 e l).1 (cAt06 e l).2.1 (cAt06 e l).2.2 := callOk_pure (fun _ _ => by kernel_rfl) fun _ => pAt06 e l hl
end Go.Proofs.Ytpnlegfdkkcnlaa
namespace Go.Proofs.Ytpnlegfdkkcnlaa
set_option maxRecDepth 100000
open Go.RowKit
set_option linter.unusedVariables false
set_option linter.unusedSimpArgs false
theorem pjoints  (l : (List TEdge)) (closed : Bool) : Pure Try.prog 55 [.one (lst 7 TEdge.c l), .one (.b closed)] (.av (.one (.clo 84 2 (listF [.eptr 1 1 (fun _ j => ([lst 7 TEdge.c l] : List Cl).getD j default) 0 0, .eptr 1 1 (fun _ j => ([.b closed] : List Cl).getD j default) 0 0])))) := by
 refine pure_of_awF Try.func55 rfl (by kernel_rfl) (by kernel_rfl) fun W0 M0 => ?_
 refine aw_seq ?_
 refine aw_region eqok [] [] [] [2, 3] [2, 3] [] ⟨[(2, tP 2 0), (3, tP 3 0)], [(2, .cells [lst 7 TEdge.c l] 24), (3, .cells [.b closed] 4)]⟩ .nil (by kernel_rfl) .nil <| ath_n <| aw_seq ?_
 refine aw_region eqok [] [] [] [4] [2, 3] [] ⟨[(4, .av (.one (.clo 84 2 (listF [.ptr 2 0, .ptr 3 0]))))], [(2, .cells [lst 7 TEdge.c l] 24), (3, .cells [.b closed] 4)]⟩ .nil (by kernel_rfl) .nil <| ath_n <| aw_ret ?_
 exact ⟨_, Cv.trans (cv_fix (⟨[(4, .av (.one (.clo 84 2 (listF [.eptr 1 1 (fun _ j => ([lst 7 TEdge.c l] : List Cl).getD j default) 0 0, .ptr 3 0]))))], [(3, .cells [.b closed] 4)]⟩) 2 [lst 7 TEdge.c l] 24 (K := none) (fun k x h => by cases h) (by kernel_rfl) (by kernel_rfl) (by kernel_rfl) (by kernel_rfl)) (Cv.trans (cv_fix (⟨[(4, .av (.one (.clo 84 2 (listF [.eptr 1 1 (fun _ j => ([lst 7 TEdge.c l] : List Cl).getD j default) 0 0, .eptr 1 1 (fun _ j => ([.b closed] : List Cl).getD j default) 0 0]))))], []⟩) 3 [.b closed] 4 (K := none) (fun k x h => by cases h) (by kernel_rfl) (by kernel_rfl) (by kernel_rfl) (by kernel_rfl)) (Cv.refl _)), .inl rfl, .av (.one (.clo 84 2 (listF [.eptr 1 1 (fun _ j => ([lst 7 TEdge.c l] : List Cl).getD j default) 0 0, .eptr 1 1 (fun _ j => ([.b closed] : List Cl).getD j default) 0 0]))), by kernel_rfl, tve_eq rfl⟩
end Go.Proofs.Ytpnlegfdkkcnlaa
namespace Go.Proofs.Ytpnlegfdkkcnlaa
set_option maxRecDepth 100000
open Go.RowKit
set_option linter.unusedSimpArgs false
set_option linter.unusedVariables false
inductive NM : Cl → Prop
 | val (v : Value) : NM (.val v)
 | ptr (n off : Nat) : NM (.ptr n off)
 | own (n sz len : Nat) : NM (.own n sz len)
 | rptr (n sz i off : Nat) : NM (.rptr n sz i off)
 | om (n : Nat) : NM (.om n)
 | list (t : Bool) (sz len : Nat) (f : Nat → Nat → Cl) (h : ∀ i j, NM (f i j)) : NM (.list t sz len f)
 | eptr (sz len : Nat) (f : Nat → Nat → Cl) (i off : Nat) (h : ∀ i j, NM (f i j)) : NM (.eptr sz len f i off)
 | clo (g : FuncId) (k : Nat) (caps : Nat → Cl) (h : ∀ i, NM (caps i)) : NM (.clo g k caps)
section
variable {M M' : Nat → Option Obj}
theorem cellM_cells (h : ∀ b c t f, M b = some (.cells c t f) → M' b = some (.cells c t f)) {b o : Nat} {v : Value} (hv : cellM M b o = some v) : cellM M' b o = some v := by
 unfold cellM at *
 cases hb : M b with
 | none => rw [hb] at hv; cases hv
 | some x =>
  rw [hb] at hv
  cases x with
  | cells c t f => rw [h b c t f hb]; exact hv
  | _ => cases hv
theorem RC_cut (h : ∀ b c t f, M b = some (.cells c t f) → M' b = some (.cells c t f)) {c : Cl} {V : Value} (hr : RC M c V) : NM c → RC M' c V := by
 induction hr with
 | val v h0 => intro _; exact .val v h0
 | nil t sz f h0 => intro _; exact .nil t sz f h0
 | mt t sz f a cap => intro _; exact .mt t sz f a cap
 | list t sz len f b off cap g h1 h2 h4 ih =>
  intro hn
  cases hn with
  | list _ _ _ _ hf => exact .list t sz len f b off cap g (fun i j hi hj => cellM_cells h (h1 i j hi hj)) (fun i j hi hj => ih i j hi hj (hf i j)) h4
 | clo f k caps cs h1 h2 ih =>
  intro hn
  cases hn with
  | clo _ _ _ hf => exact .clo f k caps cs h1 fun i hi => ih i hi (hf i)
 | eptr sz len f i off b base g h1 h2 ih =>
  intro hn
  cases hn with
  | eptr _ _ _ _ _ hf => exact .eptr sz len f i off b base g (fun j hj => cellM_cells h (h1 j hj)) (fun j hj => ih j hj (hf i j))
 | mp => intro hn; cases hn
theorem R_cut (h : ∀ b c t f, M b = some (.cells c t f) → M' b = some (.cells c t f)) {σ : Nat → Loc} : ∀ {c : Cl} {V : Value}, R M σ c V → NM c → R M' σ c V
 | .val _, _, hr, _ => hr
 | .ptr .., _, hr, _ => hr
 | .own .., _, hr, _ => hr
 | .rptr .., _, hr, _ => hr
 | .list .., _, hr, hn => RC_cut h hr hn
 | .eptr .., _, hr, hn => RC_cut h hr hn
 | .mp .., _, _, hn => by cases hn
 | .om .., _, hr, _ => hr
 | .clo g k caps, _, hr, hn => by
  obtain ⟨cs, h1, h2, h3⟩ := hr
  cases hn with
  | clo _ _ _ hf => exact ⟨cs, h1, h2, fun i hi => R_cut h (h3 i hi) (hf i)⟩
def AvM (x : Av) : Prop := ∀ c ∈ x.cells, NM c
def TvM : Tv → Prop
 | .av x => AvM x
 | .tup l => ∀ x ∈ l, AvM x
 | .grd _ x => AvM x
def BkM : Blk → Prop
 | .cells l _ => ∀ c ∈ l, NM c
 | .row _ _ f _ => ∀ i j, NM (f i j)
 | .omap .. => False
def HsM (h : List (Nat × Blk)) : Prop := ∀ n b, get h n = some b → BkM b
def TsM (t : List (Nat × Tv)) : Prop := ∀ n b, get t n = some b → TvM b
theorem RA_cut (h : ∀ b c t f, M b = some (.cells c t f) → M' b = some (.cells c t f)) {σ : Nat → Loc} {x : Av} {V : Value} (hr : RA M σ x V) (hn : AvM x) : RA M' σ x V := by
 cases x with
 | one c => exact R_cut h hr (hn c (by simp [Av.cells]))
 | agg l =>
  obtain ⟨vs, h1, h2⟩ := hr
  exact ⟨vs, h1, h2.mono fun c hc b hb => R_cut h hb (hn c (by simpa [Av.cells] using hc))⟩
theorem RT_cut (h : ∀ b c t f, M b = some (.cells c t f) → M' b = some (.cells c t f)) {σ : Nat → Loc} {x : Tv} {V : Value} (hr : RT M σ x V) (hn : TvM x) : RT M' σ x V := by
 cases x with
 | av x => exact RA_cut h hr hn
 | tup l =>
  obtain ⟨vs, h1, h2⟩ := hr
  exact ⟨vs, h1, h2.mono fun c hc b hb => RA_cut h hb (hn c hc)⟩
 | grd g x => exact ⟨fun hg => RA_cut h (hr.1 hg) hn, hr.2⟩
theorem BlkOk_cut (h : ∀ b c t f, M b = some (.cells c t f) → M' b = some (.cells c t f)) {σ : Nat → Loc} {w : World} {x : Loc} {b : Blk} (hr : BlkOk M σ w x b) (hn : BkM b) : BlkOk M' σ w x b := by
 cases b with
 | cells l ty =>
  obtain ⟨h0, c, hc, hl⟩ := hr
  exact ⟨h0, c, hc, hl.mono fun a ha b hb => R_cut h hb (hn a ha)⟩
 | row sz len f ty =>
  rcases hr with hr | ⟨h0, c, hc, h1, h2, h3, g, hg⟩
  ·exact .inl hr
  ·exact .inr ⟨h0, c, hc, h1, h2, h3, g, fun i j hi hj => ⟨(hg i j hi hj).1, RC_cut h (hg i j hi hj).2 (hn i j)⟩⟩
 | omap agg nv len kf vf =>
  obtain ⟨h0, es, ck, g, hc, h1, h2, h3⟩ := hr
  exact hn.elim
end
theorem dv_no {d : Nat} : ∀ {c : Cl}, c.dv = true → c.no d = true
 | .val _, _ => rfl
 | .list .., _ => rfl
 | .eptr .., _ => rfl
 | .mp .., _ => rfl
 | .clo _ k caps, h => by
  simp only [Cl.dv, Cl.no, List.all_eq_true] at *
  exact fun i hi => dv_no (h i hi)
def pvT (ids : List Nat) : Tv → Bool
 | .av (.one (.ptr n _)) => memO ids n
 | .av x => x.dv
 | .tup l => l.all Av.dv
 | .grd _ x => x.dv
theorem av_dv_no {d : Nat} {x : Av} (h : x.dv = true) : x.no d = true := by
 cases x with
 | one c => exact dv_no h
 | agg l => simp only [Av.dv, Av.no, List.all_eq_true] at *; exact fun c hc => dv_no (h c hc)
theorem memO_mem : ∀ {l : List Nat} {n : Nat}, memO l n = true → n ∈ l
 | [], _, h => by cases h
 | k :: r, n, h => by
  simp only [memO] at h
  cases hk : Nat.beq k n with
  | true => have := Nat.eq_of_beq_eq_true hk; subst this; exact List.mem_cons_self ..
  | false => rw [hk] at h; exact List.mem_cons_of_mem _ (memO_mem h)
theorem pvT_no {ids : List Nat} {d : Nat} {v : Tv} (h : pvT ids v = true) (hd : v.no d = false) : d ∈ ids := by
 have key : ∀ x : Av, x.dv = true → x.no d = false → False := fun x h1 h2 => by rw [av_dv_no h1] at h2; cases h2
 cases v with
 | av x =>
  cases x with
  | one c =>
   cases c with
   | ptr n off =>
    have hn : n = d := by simp [Tv.no, Av.no, Cl.no] at hd; exact hd
    subst hn
    exact memO_mem h
   | _ => exact (key (.one _) h hd).elim
  | agg l => exact (key (.agg l) h hd).elim
 | tup l =>
  simp only [pvT, List.all_eq_true] at h
  simp only [Tv.no] at hd
  have : l.all (Av.no d) = true := by rw [List.all_eq_true]; exact fun x hx => av_dv_no (h x hx)
  rw [this] at hd; cases hd
 | grd g x => exact (key x h hd).elim
def setps (t : List (Nat × Tv)) : List Tmp → List Av → List (Nat × Tv)
 | p :: ps, e :: es => setps ((p, .av e) :: t) ps es
 | _, _ => t
theorem fold_ok {M : Nat → Option Obj} {σ : Nat → Loc} {N : Nat} : ∀ (ps : List Tmp) (es : List Av) (vs : List Value) (t : List (Nat × Tv)) (tm : Array Value), (∀ i v, get t i = some v → RT M σ v (tm.getD i undef)) → tm.size = N → L2 (RA M σ) es vs → ps.length = es.length → (∀ p ∈ ps, p < N) →
  ((ps.zip vs).foldl (fun t (x : Tmp × Value) => t.setIfInBounds x.1 x.2) tm).size = N ∧ ∀ i v, get (setps t ps es) i = some v → RT M σ v (((ps.zip vs).foldl (fun t (x : Tmp × Value) => t.setIfInBounds x.1 x.2) tm).getD i undef)
 | [], [], _, t, tm, h, hs, hl, _, _ => ⟨hs, h⟩
 | [], _ :: _, _, _, _, _, _, _, hn, _ => by simp at hn
 | _ :: _, [], _, _, _, _, _, _, hn, _ => by simp at hn
 | p :: ps, e :: es, vs, t, tm, h, hs, hl, hn, hp => by
  cases hl with
  | cons h1 h2 =>
   rename_i v vs
   refine fold_ok ps es vs ((p, .av e) :: t) (tm.setIfInBounds p v) (fun i u hu => ?_) (by simpa using hs) h2 (by simpa using hn) (fun q hq => hp q (List.mem_cons_of_mem _ hq))
   have hpN := hp p (List.mem_cons_self ..)
   simp only [get, beqN] at hu
   by_cases hi : p = i
   ·subst hi
    simp at hu; subst hu
    have hpt : p < tm.size := by rw [hs]; exact hpN
    have : (tm.setIfInBounds p v).getD p undef = v := by simp [Array.getD_eq_getD_getElem?, hpt]
    rw [this]; exact h1
   ·simp [hi] at hu
    have : (tm.setIfInBounds p v).getD i undef = tm.getD i undef := by simp [Array.getD_eq_getD_getElem?, Array.getElem?_setIfInBounds, hi]
    rw [this]; exact h i u hu
def KpS (Ow : Nat → Prop) (W W' : World) : Prop := W.heap.size ≤ W'.heap.size ∧ ∀ b (o : Obj), W.heap[b]? = some o → o.isCells = true → ¬ Ow b → W'.heap[b]? = some o
def IterOk (P : Program) (gf : FuncId) (k : Nat) (caps : Nat → Cl) (n : Nat) (E : Fin n → List Av) : Prop :=
 ∀ (M : Nat → Option Obj) (w : World) (cs : Array Value) (Ow : Nat → Prop), (∀ b o, M b = some o → w.heap[b]? = some o) → (∀ b, Ow b → b < w.heap.size ∧ M b = none) → cs.size = k → (∀ i, i < k → RC M (caps i) (cs.getD i undef)) →
  ∃ encs : Fin n → Array Value, (∀ x, L2 (fun e v => ∀ σ, RA M σ e v) (E x) (encs x).toList) ∧
   SeqStopsK (FW none) 1 P gf cs encs (KpS Ow) (fun xs => xs.map Fin.val = List.range n) (fun pre => ∃ j, j < n ∧ pre.map Fin.val = List.range (j + 1)) n w
section
variable {P : Program} {N : Nat} {W0 W W' : World} {X : Nat → Option Loc} {M0 M : Nat → Option Obj} {σ : Nat → Loc} {T : Nat → Option Tv} {H : Nat → Option Blk} {a : Act}
def Blk.isM : Blk → Bool
 | .omap .. => true
 | _ => false
theorem sim_grown (hs : Sim N W0 X M0 M σ T H a W) (hH : ∀ n b, H n = some b → b.isM = false) {row : Option Nat} (hg : W.grownBy W' row) (hr : ∀ r, row = some r → W0.heap.size ≤ r ∧ (∃ o : Obj, W.heap[r]? = some o ∧ o.isCells = false) ∧ M r = none) : Sim N W0 X M0 M σ T H a W' := by
 have hsame : ∀ b (o : Obj), W.heap[b]? = some o → (o.isCells = true ∨ M b = some o ∨ b < W0.heap.size) → W'.heap[b]? = some o := fun b o hb hc => by
  refine (hg.block b (Array.getElem?_eq_some_iff.1 hb).1 fun e => ?_).trans hb
  obtain ⟨h1, ⟨o', h2, h3⟩, h4⟩ := hr b e.symm
  rw [hb] at h2; injection h2 with h2; subst h2
  rcases hc with h | h | h
  ·rw [h3] at h; cases h
  ·rw [h4] at h; cases h
  ·omega
 refine ⟨hg.os.trans hs.os, hg.tape.trans hs.tape, hg.output.trans hs.output, Nat.le_trans hs.size hg.size, fun b hb hx => ?_, hs.sub, hs.new, hs.pin, hs.defers, hs.room, hs.tmps, fun b o h => hsame b o (hs.imm b o h) (.inr (.inl h)), fun n b h => ?_, hs.loc, hs.inj⟩
 ·have h1 := hs.old b hb hx
  have h2 : W0.heap[b]? = some W0.heap[b] := Array.getElem?_eq_getElem hb
  rw [h2] at h1 ⊢
  exact hsame b _ h1 (.inr (.inr hb))
 ·refine (hs.blk n b h).mono (fun _ _ h => h) (fun _ _ => rfl) fun hn => ?_
  have hb := hs.blk n b h
  cases b with
  | cells l ty => obtain ⟨_, c, hc, _⟩ := hb; rw [hc]; exact hsame _ _ hc (.inl rfl)
  | row sz len f ty =>
   rcases hb with ⟨h0, _⟩ | ⟨_, c, hc, _⟩
   ·rw [hn] at h0; cases h0
   ·rw [hc]; exact hsame _ _ hc (.inl rfl)
  | omap => have := hH n _ h; cases this
end
end Go.Proofs.Ytpnlegfdkkcnlaa
