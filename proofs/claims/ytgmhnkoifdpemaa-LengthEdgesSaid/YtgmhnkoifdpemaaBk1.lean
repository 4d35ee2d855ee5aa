/-
  No statement is proved in this text. It holds what functions return.
-/
import Derived.Test.YtgmhnkoifdpemaaProg
import Derived.Test.YtgmhnkoifdpemaaS29
namespace Go.Proofs.Ytgmhnkoifdpemaa
open Go.RowKit
set_option linter.unusedVariables false
set_option linter.unusedSimpArgs false
theorem mixed : Try.prog.follows .mixedOrders = true := by kernel_rfl
structure TPoint where
  X : Int
  Y : Int
  deriving Inhabited
def TPoint.c (x : TPoint) : List Cl := [.i x.X, .i x.Y]

structure TMotion where
  At : TPoint
  Turn : Int
  Mirror : Bool
  deriving Inhabited
def TMotion.c (x : TMotion) : List Cl := [.i x.At.X, .i x.At.Y, .i x.Turn, .b x.Mirror]

structure TEdge where
  Kind : Int
  A : TPoint
  B : TPoint
  C : TPoint
  deriving Inhabited
def TEdge.c (x : TEdge) : List Cl := [.i x.Kind, .i x.A.X, .i x.A.Y, .i x.B.X, .i x.B.Y, .i x.C.X, .i x.C.Y]

structure TDraw where
  L : (List Int)
  At : Int
  deriving Inhabited
def TDraw.c (x : TDraw) : List Cl := [lst 1 (fun x => [.i x]) x.L, .i x.At]

structure OpL where
  len : Nat
  f : Nat → Nat → Cl
  deriving Inhabited
abbrev opL (x : OpL) : Cl := .list false 20 x.len x.f

structure TShape where
  Kind : Int
  Edges : (List TEdge)
  R : Int
  deriving Inhabited
def TShape.c (x : TShape) : List Cl := [.i x.Kind, lst 7 TEdge.c x.Edges, .i x.R]

structure TTrack where
  Id : Int
  Net : ByteArray
  Layer : Int
  Shape : TShape
  deriving Inhabited
def TTrack.c (x : TTrack) : List Cl := [.i x.Id, .s x.Net, .i x.Layer, .i x.Shape.Kind, lst 7 TEdge.c x.Shape.Edges, .i x.Shape.R]

structure TPlaced where
  Id : Int
  Ref : ByteArray
  Type' : ByteArray
  At : TPoint
  Turn : Int
  Under : Bool
  deriving Inhabited
def TPlaced.c (x : TPlaced) : List Cl := [.i x.Id, .s x.Ref, .s x.Type', .i x.At.X, .i x.At.Y, .i x.Turn, .b x.Under]

structure TPin where
  Ref : ByteArray
  Pad : ByteArray
  deriving Inhabited
def TPin.c (x : TPin) : List Cl := [.s x.Ref, .s x.Pad]

structure TNet where
  Name : ByteArray
  Pins : (List TPin)
  deriving Inhabited
def TNet.c (x : TNet) : List Cl := [.s x.Name, lst 2 TPin.c x.Pins]

structure TVia where
  Id : Int
  Net : ByteArray
  At : TPoint
  R : Int
  Drill : Int
  From : Int
  To : Int
  deriving Inhabited
def TVia.c (x : TVia) : List Cl := [.i x.Id, .s x.Net, .i x.At.X, .i x.At.Y, .i x.R, .i x.Drill, .i x.From, .i x.To]

structure TRect where
  X0 : Int
  Y0 : Int
  X1 : Int
  Y1 : Int
  deriving Inhabited
def TRect.c (x : TRect) : List Cl := [.i x.X0, .i x.Y0, .i x.X1, .i x.Y1]

structure TPour where
  Id : Int
  Net : ByteArray
  Layer : Int
  Pitch : Int
  Priority : Int
  Relief : Int
  Spoke : Int
  Rects : (List TRect)
  deriving Inhabited
def TPour.c (x : TPour) : List Cl := [.i x.Id, .s x.Net, .i x.Layer, .i x.Pitch, .i x.Priority, .i x.Relief, .i x.Spoke, lst 4 TRect.c x.Rects]

structure TKeep where
  Id : Int
  Layer : Int
  Shape : TShape
  deriving Inhabited
def TKeep.c (x : TKeep) : List Cl := [.i x.Id, .i x.Layer, .i x.Shape.Kind, lst 7 TEdge.c x.Shape.Edges, .i x.Shape.R]

structure TSlot where
  Id : Int
  Shape : TShape
  deriving Inhabited
def TSlot.c (x : TSlot) : List Cl := [.i x.Id, .i x.Shape.Kind, lst 7 TEdge.c x.Shape.Edges, .i x.Shape.R]

structure TClass where
  Name : ByteArray
  Nets : (List ByteArray)
  deriving Inhabited
def TClass.c (x : TClass) : List Cl := [.s x.Name, lst 1 (fun x => [.s x]) x.Nets]

structure TWaiver where
  A : Int
  B : Int
  Rule : ByteArray
  deriving Inhabited
def TWaiver.c (x : TWaiver) : List Cl := [.i x.A, .i x.B, .s x.Rule]

structure TMatch where
  Name : ByteArray
  Nets : (List ByteArray)
  Within : Int
  deriving Inhabited
def TMatch.c (x : TMatch) : List Cl := [.s x.Name, lst 1 (fun x => [.s x]) x.Nets, .i x.Within]

structure TBoard where
  Layers : Int
  Outline : TShape
  Parts : (List TPlaced)
  Nets : (List TNet)
  Tracks : (List TTrack)
  Vias : (List TVia)
  Pours : (List TPour)
  Keeps : (List TKeep)
  Slots : (List TSlot)
  Classes : (List TClass)
  Rules : OpL
  Waivers : (List TWaiver)
  Matches : (List TMatch)
  deriving Inhabited
def TBoard.c (x : TBoard) : List Cl := [.i x.Layers, .i x.Outline.Kind, lst 7 TEdge.c x.Outline.Edges, .i x.Outline.R, lst 7 TPlaced.c x.Parts, lst 2 TNet.c x.Nets, lst 6 TTrack.c x.Tracks, lst 8 TVia.c x.Vias, lst 8 TPour.c x.Pours, lst 5 TKeep.c x.Keeps, lst 4 TSlot.c x.Slots, lst 2 TClass.c x.Classes, opL x.Rules, lst 3 TWaiver.c x.Waivers, lst 3 TMatch.c x.Matches]

structure TA27 where
  e0 : Int
  e1 : Int
  e2 : Int
  deriving Inhabited
def TA27.c (x : TA27) : List Cl := [.i x.e0, .i x.e1, .i x.e2]

structure TCase where
  Shape : (List Int)
  Edge : (List Int)
  Board : (List (List Int))
  Odd : TA27
  deriving Inhabited
def TCase.c (x : TCase) : List Cl := [lst 1 (fun x => [.i x]) x.Shape, lst 1 (fun x => [.i x]) x.Edge, lst 1 (fun x => [lst 1 (fun x => [.i x]) x]) x.Board, .i x.Odd.e0, .i x.Odd.e1, .i x.Odd.e2]

structure TRaw where
  Edge : TEdge
  Shape : TShape
  deriving Inhabited
def TRaw.c (x : TRaw) : List Cl := [.i x.Edge.Kind, .i x.Edge.A.X, .i x.Edge.A.Y, .i x.Edge.B.X, .i x.Edge.B.Y, .i x.Edge.C.X, .i x.Edge.C.Y, .i x.Shape.Kind, lst 7 TEdge.c x.Shape.Edges, .i x.Shape.R]
/-- Types that are compared cell by cell. -/
def eqE : TypeId → Option (List Kd) := fun T => get [(31, [.int .i64, .int .i64])] T
set_option maxRecDepth 100000 in
theorem eqok : EqOk Try.prog ⟨fun _ => none, eqE, fun _ => false, fun _ => none⟩ := by
  intro T ks h
  have hm : (T, ks) ∈ _ := get_mem h
  simp only [List.mem_cons, Prod.mk.injEq, List.not_mem_nil, or_false] at hm
  obtain ⟨rfl, rfl⟩ := hm
  exact ⟨by kernel_rfl, by kernel_rfl, _, rfl, rfl⟩
def FvecRight (x0 : TPoint) : Bool := bif decide (((max x0.X x0.Y) : Int) ≤ 67108864) then decide ((((-67108864)) : Int) ≤ (min x0.X x0.Y)) else false
def cvecRight (x0 : TPoint) : FuncId × List Av × Ef := (71, [.agg (TPoint.c x0)], .val [] (.av (.one (.b (FvecRight x0)))))
set_option maxRecDepth 100000 in
theorem pvecRight (x0 : TPoint) : Pure Try.prog 71 (cvecRight x0).2.1 (.av (.one (.b (FvecRight x0)))) := by
  refine pure_of_awF Try.func71 rfl (by kernel_rfl) (by kernel_rfl) fun W0 M0 => ?_
  refine aw_seq ?_
  refine aw_region eqok [] [] [] [1] [1] [] ⟨[(1, tP 1 0)], [(1, .cells (TPoint.c x0) 31)]⟩ .nil (by kernel_rfl) .nil ?_
  refine ath_n ?_
  refine aw_seq ?_
  refine aw_region eqok [] [] [] [2] [] [((decide (((max x0.X x0.Y) : Int) ≤ 67108864)) = true) → ((decide (((max x0.X x0.Y) : Int) ≤ 67108864)) = true), ((decide (((max x0.X x0.Y) : Int) ≤ 67108864)) = true) → ((decide (((max x0.X x0.Y) : Int) ≤ 67108864)) = true), ((decide (((max x0.X x0.Y) : Int) ≤ 67108864)) = true) → ((decide (((max x0.X x0.Y) : Int) ≤ 67108864)) = true), ((decide (((max x0.X x0.Y) : Int) ≤ 67108864)) = true) → ((decide (((max x0.X x0.Y) : Int) ≤ 67108864)) = true), ((decide (((max x0.X x0.Y) : Int) ≤ 67108864)) = true) → ((decide (((max x0.X x0.Y) : Int) ≤ 67108864)) = true), (decide (((max x0.X x0.Y) : Int) ≤ 67108864)) = true → ((decide (((max x0.X x0.Y) : Int) ≤ 67108864)) = true)] ⟨[(2, tB (bif decide (((max x0.X x0.Y) : Int) ≤ 67108864) then decide ((((-67108864)) : Int) ≤ (min x0.X x0.Y)) else false))], []⟩ .nil (by kernel_rfl) (.cons id (.cons id (.cons id (.cons id (.cons id (.cons id .nil)))))) ?_
  refine ath_n ?_
  refine aw_ret ?_
  exact ⟨_, Cv.refl _, .inl rfl, .av (.one (.b (bif decide (((max x0.X x0.Y) : Int) ≤ 67108864) then decide ((((-67108864)) : Int) ≤ (min x0.X x0.Y)) else false))), by kernel_rfl, tve_eq (by rfl)⟩
theorem okvecRight (x0 : TPoint) : CallOk Try.prog (cvecRight x0).1 (cvecRight x0).2.1 (cvecRight x0).2.2 := callOk_pure (fun _ _ => by kernel_rfl) fun _ => pvecRight x0 
def FvecSub (x0 : TPoint) (x1 : TPoint) : TPoint := TPoint.mk (W64 (x0.X - x1.X)) (W64 (x0.Y - x1.Y))
def cvecSub (x0 : TPoint) (x1 : TPoint) : FuncId × List Av × Ef := (44, [.agg (TPoint.c x0), .agg (TPoint.c x1)], .val [] (.av (.agg (TPoint.c (FvecSub x0 x1)))))
set_option maxRecDepth 100000 in
theorem pvecSub (x0 : TPoint) (x1 : TPoint) : Pure Try.prog 44 (cvecSub x0 x1).2.1 (.av (.agg (TPoint.c (FvecSub x0 x1)))) := by
  refine pure_of_awF Try.func44 rfl (by kernel_rfl) (by kernel_rfl) fun W0 M0 => ?_
  refine aw_seq ?_
  refine aw_region eqok [] [] [] [2, 3, 4] [2, 3, 4] [] ⟨[(2, tP 2 0), (3, tP 3 0), (4, tP 4 0)], [(2, .cells (TPoint.c x0) 31), (3, .cells (TPoint.c x1) 31), (4, .cells [.i 0, .i 0] 31)]⟩ .nil (by kernel_rfl) .nil ?_
  refine ath_n ?_
  refine aw_seq ?_
  refine aw_region eqok [] [] [] [4] [4] [] ⟨[(4, tP 4 0)], [(4, .cells [.i (W64 (x0.X - x1.X)), .i (W64 (x0.Y - x1.Y))] 31)]⟩ .nil (by kernel_rfl) .nil ?_
  refine ath_n ?_
  refine aw_ret ?_
  exact ⟨_, Cv.refl _, .inl rfl, .av (.agg [.i (W64 (x0.X - x1.X)), .i (W64 (x0.Y - x1.Y))]), by kernel_rfl, tve_eq (by rfl)⟩
theorem okvecSub (x0 : TPoint) (x1 : TPoint) : CallOk Try.prog (cvecSub x0 x1).1 (cvecSub x0 x1).2.1 (cvecSub x0 x1).2.2 := callOk_pure (fun _ _ => by kernel_rfl) fun _ => pvecSub x0 x1 
def FvecAdd (x0 : TPoint) (x1 : TPoint) : TPoint := TPoint.mk (W64 (x0.X + x1.X)) (W64 (x0.Y + x1.Y))
def cvecAdd (x0 : TPoint) (x1 : TPoint) : FuncId × List Av × Ef := (89, [.agg (TPoint.c x0), .agg (TPoint.c x1)], .val [] (.av (.agg (TPoint.c (FvecAdd x0 x1)))))
set_option maxRecDepth 100000 in
theorem pvecAdd (x0 : TPoint) (x1 : TPoint) : Pure Try.prog 89 (cvecAdd x0 x1).2.1 (.av (.agg (TPoint.c (FvecAdd x0 x1)))) := by
  refine pure_of_awF Try.func89 rfl (by kernel_rfl) (by kernel_rfl) fun W0 M0 => ?_
  refine aw_seq ?_
  refine aw_region eqok [] [] [] [2, 3, 4] [2, 3, 4] [] ⟨[(2, tP 2 0), (3, tP 3 0), (4, tP 4 0)], [(2, .cells (TPoint.c x0) 31), (3, .cells (TPoint.c x1) 31), (4, .cells [.i 0, .i 0] 31)]⟩ .nil (by kernel_rfl) .nil ?_
  refine ath_n ?_
  refine aw_seq ?_
  refine aw_region eqok [] [] [] [4] [4] [] ⟨[(4, tP 4 0)], [(4, .cells [.i (W64 (x0.X + x1.X)), .i (W64 (x0.Y + x1.Y))] 31)]⟩ .nil (by kernel_rfl) .nil ?_
  refine ath_n ?_
  refine aw_ret ?_
  exact ⟨_, Cv.refl _, .inl rfl, .av (.agg [.i (W64 (x0.X + x1.X)), .i (W64 (x0.Y + x1.Y))]), by kernel_rfl, tve_eq (by rfl)⟩
theorem okvecAdd (x0 : TPoint) (x1 : TPoint) : CallOk Try.prog (cvecAdd x0 x1).1 (cvecAdd x0 x1).2.1 (cvecAdd x0 x1).2.2 := callOk_pure (fun _ _ => by kernel_rfl) fun _ => pvecAdd x0 x1 
def FvecDot (x0 : TPoint) (x1 : TPoint) : Int := W64 ((W64 (x0.X * x1.X)) + (W64 (x0.Y * x1.Y)))
def cvecDot (x0 : TPoint) (x1 : TPoint) : FuncId × List Av × Ef := (45, [.agg (TPoint.c x0), .agg (TPoint.c x1)], .val [] (.av (.one (.i (FvecDot x0 x1)))))
set_option maxRecDepth 100000 in
theorem pvecDot (x0 : TPoint) (x1 : TPoint) : Pure Try.prog 45 (cvecDot x0 x1).2.1 (.av (.one (.i (FvecDot x0 x1)))) := by
  refine pure_of_awF Try.func45 rfl (by kernel_rfl) (by kernel_rfl) fun W0 M0 => ?_
  refine aw_seq ?_
  refine aw_region eqok [] [] [] [2, 3] [2, 3] [] ⟨[(2, tP 2 0), (3, tP 3 0)], [(2, .cells (TPoint.c x0) 31), (3, .cells (TPoint.c x1) 31)]⟩ .nil (by kernel_rfl) .nil ?_
  refine ath_n ?_
  refine aw_seq ?_
  refine aw_region eqok [] [] [] [4] [] [] ⟨[(4, tI (W64 ((W64 (x0.X * x1.X)) + (W64 (x0.Y * x1.Y)))))], []⟩ .nil (by kernel_rfl) .nil ?_
  refine ath_n ?_
  refine aw_ret ?_
  exact ⟨_, Cv.refl _, .inl rfl, .av (.one (.i (W64 ((W64 (x0.X * x1.X)) + (W64 (x0.Y * x1.Y)))))), by kernel_rfl, tve_eq (by rfl)⟩
theorem okvecDot (x0 : TPoint) (x1 : TPoint) : CallOk Try.prog (cvecDot x0 x1).1 (cvecDot x0 x1).2.1 (cvecDot x0 x1).2.2 := callOk_pure (fun _ _ => by kernel_rfl) fun _ => pvecDot x0 x1 
def FvecCross (x0 : TPoint) (x1 : TPoint) : Int := W64 ((W64 (x0.X * x1.Y)) - (W64 (x0.Y * x1.X)))
def cvecCross (x0 : TPoint) (x1 : TPoint) : FuncId × List Av × Ef := (104, [.agg (TPoint.c x0), .agg (TPoint.c x1)], .val [] (.av (.one (.i (FvecCross x0 x1)))))
set_option maxRecDepth 100000 in
theorem pvecCross (x0 : TPoint) (x1 : TPoint) : Pure Try.prog 104 (cvecCross x0 x1).2.1 (.av (.one (.i (FvecCross x0 x1)))) := by
  refine pure_of_awF Try.func104 rfl (by kernel_rfl) (by kernel_rfl) fun W0 M0 => ?_
  refine aw_seq ?_
  refine aw_region eqok [] [] [] [2, 3] [2, 3] [] ⟨[(2, tP 2 0), (3, tP 3 0)], [(2, .cells (TPoint.c x0) 31), (3, .cells (TPoint.c x1) 31)]⟩ .nil (by kernel_rfl) .nil ?_
  refine ath_n ?_
  refine aw_seq ?_
  refine aw_region eqok [] [] [] [4] [] [] ⟨[(4, tI (W64 ((W64 (x0.X * x1.Y)) - (W64 (x0.Y * x1.X)))))], []⟩ .nil (by kernel_rfl) .nil ?_
  refine ath_n ?_
  refine aw_ret ?_
  exact ⟨_, Cv.refl _, .inl rfl, .av (.one (.i (W64 ((W64 (x0.X * x1.Y)) - (W64 (x0.Y * x1.X)))))), by kernel_rfl, tve_eq (by rfl)⟩
theorem okvecCross (x0 : TPoint) (x1 : TPoint) : CallOk Try.prog (cvecCross x0 x1).1 (cvecCross x0 x1).2.1 (cvecCross x0 x1).2.2 := callOk_pure (fun _ _ => by kernel_rfl) fun _ => pvecCross x0 x1 
def FvecSide (x0 : TPoint) (x1 : TPoint) (x2 : TPoint) : Int := bif decide ((0 : Int) < (FvecCross (FvecSub x1 x0) (FvecSub x2 x0))) then (1) else (bif decide (((FvecCross (FvecSub x1 x0) (FvecSub x2 x0)) : Int) < 0) then ((-1)) else (0))
def cvecSide (x0 : TPoint) (x1 : TPoint) (x2 : TPoint) : FuncId × List Av × Ef := (100, [.agg (TPoint.c x0), .agg (TPoint.c x1), .agg (TPoint.c x2)], .val [] (.av (.one (.i (FvecSide x0 x1 x2)))))
set_option maxRecDepth 100000 in
theorem pvecSide (x0 : TPoint) (x1 : TPoint) (x2 : TPoint) : Pure Try.prog 100 (cvecSide x0 x1 x2).2.1 (.av (.one (.i (FvecSide x0 x1 x2)))) := by
  refine pure_of_awF Try.func100 rfl (by kernel_rfl) (by kernel_rfl) fun W0 M0 => ?_
  refine aw_seq ?_
  refine aw_region eqok [] [] [] [3, 4, 5] [3, 4, 5] [] ⟨[(3, tP 3 0), (4, tP 4 0), (5, tP 5 0)], [(3, .cells (TPoint.c x0) 31), (4, .cells (TPoint.c x1) 31), (5, .cells (TPoint.c x2) 31)]⟩ .nil (by kernel_rfl) .nil ?_
  refine ath_n ?_
  refine aw_seq ?_
  refine aw_seq ?_
  refine aw_draw mixed eqok [] [] [(10, cvecSub x1 x0), (13, cvecSub x2 x0), (14, cvecCross (FvecSub x1 x0) (FvecSub x2 x0))] [7] [] [Same (cvecSub x1 x0).2.1, Same (cvecSub x2 x0).2.1, Same (cvecCross (FvecSub x1 x0) (FvecSub x2 x0)).2.1] ⟨[(7, tI (FvecCross (FvecSub x1 x0) (FvecSub x2 x0)))], []⟩ (.cons (okvecSub x1 x0) (.cons (okvecSub x2 x0) (.cons (okvecCross (FvecSub x1 x0) (FvecSub x2 x0)) .nil))) (by kernel_rfl) (by kernel_rfl) (.cons rfl (.cons rfl (.cons rfl .nil))) ?_
  refine ath_n ?_
  refine aw_block ?_
  refine aw_seq ?_
  refine aw_region eqok [] [] [] [7, 15] [] [] ⟨[(7, tI (FvecCross (FvecSub x1 x0) (FvecSub x2 x0))), (15, tB (decide ((0 : Int) < (FvecCross (FvecSub x1 x0) (FvecSub x2 x0)))))], []⟩ .nil (by kernel_rfl) .nil ?_
  refine ath_n ?_
  refine aw_cond (decide ((0 : Int) < (FvecCross (FvecSub x1 x0) (FvecSub x2 x0)))) (by kernel_rfl) (fun h1 => ?_) (fun h1 => ?_)
  · have g1 := of_decide_eq_true h1
    refine aw_seq ?_
    refine aw_region eqok [] [] [] [6] [] [] ⟨[(6, tI 1)], []⟩ .nil (by kernel_rfl) .nil ?_
    refine ath_n ?_
    refine aw_ret ?_
    refine abl_r ?_
    refine ath_r ?_
    exact ⟨_, Cv.refl _, .inl rfl, .av (.one (.i 1)), by kernel_rfl, tve_eq (by first | (simp only [FvecSide, h1, cond_true, cond_false]; done) | (simp only [FvecSide, h1, cond_true, cond_false]; rfl))⟩
  · have g1 := of_decide_eq_false h1
    refine aw_seq ?_
    refine aw_region eqok [] [] [] [18] [] [] ⟨[(18, tB (decide (((FvecCross (FvecSub x1 x0) (FvecSub x2 x0)) : Int) < 0)))], []⟩ .nil (by kernel_rfl) .nil ?_
    refine ath_n ?_
    refine aw_cond (decide (((FvecCross (FvecSub x1 x0) (FvecSub x2 x0)) : Int) < 0)) (by kernel_rfl) (fun h2 => ?_) (fun h2 => ?_)
    · have g2 := of_decide_eq_true h2
      refine aw_seq ?_
      refine aw_region eqok [] [] [] [6] [] [] ⟨[(6, tI ((-1)))], []⟩ .nil (by kernel_rfl) .nil ?_
      refine ath_n ?_
      refine aw_ret ?_
      refine abl_r ?_
      refine ath_r ?_
      exact ⟨_, Cv.refl _, .inl rfl, .av (.one (.i ((-1)))), by kernel_rfl, tve_eq (by first | (simp only [FvecSide, h1, h2, cond_true, cond_false]; done) | (simp only [FvecSide, h1, h2, cond_true, cond_false]; rfl))⟩
    · have g2 := of_decide_eq_false h2
      refine aw_skip ?_
      refine abl_n ?_
      refine ath_n ?_
      refine aw_seq ?_
      refine aw_region eqok [] [] [] [6] [] [] ⟨[(6, tI 0)], []⟩ .nil (by kernel_rfl) .nil ?_
      refine ath_n ?_
      refine aw_ret ?_
      exact ⟨_, Cv.refl _, .inl rfl, .av (.one (.i 0)), by kernel_rfl, tve_eq (by first | (simp only [FvecSide, h1, h2, cond_true, cond_false]; done) | (simp only [FvecSide, h1, h2, cond_true, cond_false]; rfl))⟩
theorem okvecSide (x0 : TPoint) (x1 : TPoint) (x2 : TPoint) : CallOk Try.prog (cvecSide x0 x1 x2).1 (cvecSide x0 x1 x2).2.1 (cvecSide x0 x1 x2).2.2 := callOk_pure (fun _ _ => by kernel_rfl) fun _ => pvecSide x0 x1 x2 
def FvecTurns (m : TMotion) : Int := A64 m.Turn 3
def cvecTurns (m : TMotion) : FuncId × List Av × Ef := (88, [.agg (TMotion.c m)], .val [] (.av (.one (.i (FvecTurns m)))))
set_option maxRecDepth 100000 in
theorem pvecTurns (m : TMotion) : Pure Try.prog 88 (cvecTurns m).2.1 (.av (.one (.i (FvecTurns m)))) := by
  refine pure_of_awF Try.func88 rfl (by kernel_rfl) (by kernel_rfl) fun W0 M0 => ?_
  refine aw_seq ?_
  refine aw_region eqok [] [] [] [1] [1] [] ⟨[(1, tP 1 0)], [(1, .cells (TMotion.c m) 84)]⟩ .nil (by kernel_rfl) .nil ?_
  refine ath_n ?_
  refine aw_seq ?_
  refine aw_region eqok [] [] [] [2] [] [] ⟨[(2, tI (A64 m.Turn 3))], []⟩ .nil (by kernel_rfl) .nil ?_
  refine ath_n ?_
  refine aw_ret ?_
  exact ⟨_, Cv.refl _, .inl rfl, .av (.one (.i (A64 m.Turn 3))), by kernel_rfl, tve_eq (by rfl)⟩
theorem okvecTurns (m : TMotion) : CallOk Try.prog (cvecTurns m).1 (cvecTurns m).2.1 (cvecTurns m).2.2 := callOk_pure (fun _ _ => by kernel_rfl) fun _ => pvecTurns m 
theorem A64_3 (t : Int) : 0 ≤ A64 t 3 ∧ A64 t 3 ≤ 3 := by
  unfold A64
  rw [IntKind.wrap_i64]
  have h : ((BitVec.ofInt 64 t &&& BitVec.ofInt 64 3).toNat) ≤ 3 := by
    rw [BitVec.toNat_and]
    exact Nat.le_trans Nat.and_le_right (by decide)
  generalize (BitVec.ofInt 64 t &&& BitVec.ofInt 64 3).toNat = n at *
  omega
theorem turns_b (m : TMotion) : 0 ≤ FvecTurns m ∧ FvecTurns m ≤ 3 := A64_3 m.Turn
def FvecApply_l0 (m : TMotion) (p : TPoint) : Nat → TPoint → Int → TPoint
  | 0, _, _ => default
  | n0 + 1, p', v13 => bif decide ((v13 : Int) < (FvecTurns m)) then ((FvecApply_l0 m p n0) (TPoint.mk (W64 (0 - p'.Y)) p'.X) (v13 + 1)) else (FvecAdd p' m.At)
def FvecApply (m : TMotion) (p : TPoint) : TPoint := FvecApply_l0 m p ((((FvecTurns m)) - 0).toNat + 1) (TPoint.mk (bif m.Mirror then (W64 (0 - p.X)) else p.X) p.Y) 0
def cvecApply (m : TMotion) (p : TPoint) : FuncId × List Av × Ef := (65, [.agg (TMotion.c m), .agg (TPoint.c p)], .val [] (.av (.agg (TPoint.c (FvecApply m p)))))
set_option maxRecDepth 100000 in
theorem pvecApply (m : TMotion) (p : TPoint) : Pure Try.prog 65 (cvecApply m p).2.1 (.av (.agg (TPoint.c (FvecApply m p)))) := by
  refine pure_of_awF Try.func65 rfl (by kernel_rfl) (by kernel_rfl) fun W0 M0 => ?_
  refine aw_seq ?_
  refine aw_region eqok [] [] [] [2, 3, 4] [2, 3, 4] [] ⟨[(2, tP 2 0), (3, tP 3 0), (4, tP 4 0)], [(2, .cells (TMotion.c m) 84), (3, .cells (TPoint.c p) 31), (4, .cells [.i 0, .i 0] 31)]⟩ .nil (by kernel_rfl) .nil ?_
  refine ath_n ?_
  refine aw_seq ?_
  refine aw_seq ?_
  refine aw_region eqok [] [] [] [2, 3, 4, 6] [2, 3, 4] [] ⟨[(2, tP 2 0), (3, tP 3 0), (4, tP 4 0), (6, tB m.Mirror)], [(2, .cells (TMotion.c m) 84), (3, .cells (TPoint.c p) 31), (4, .cells [.i 0, .i 0] 31)]⟩ .nil (by kernel_rfl) .nil ?_
  refine ath_n ?_
  refine aw_joinC (⟨[(2, tP 2 0), (3, tP 3 0), (4, tP 4 0)], [(2, .cells (TMotion.c m) 84), (3, .cells [.i (bif m.Mirror then (W64 (0 - p.X)) else p.X), .i p.Y] 31), (4, .cells [.i 0, .i 0] 31)]⟩) ?_ ?_
  · refine aw_cond (m.Mirror) (by kernel_rfl) (fun h1 => ?_) (fun h1 => ?_)
    · refine aw_region eqok [] [] [] [2, 3, 4] [2, 3, 4] [] ⟨[(2, tP 2 0), (3, tP 3 0), (4, tP 4 0)], [(2, .cells (TMotion.c m) 84), (3, .cells [.i (W64 (0 - p.X)), .i p.Y] 31), (4, .cells [.i 0, .i 0] 31)]⟩ .nil (by kernel_rfl) .nil ?_
      refine ath_n ?_
      refine cv_eq ?_
      first | rfl | (simp only [h1, cond_true, cond_false]; done) | (simp only [h1, cond_true, cond_false]; rfl)
    · refine aw_skip ?_
      refine ath_n ?_
      refine Cv.trans (cv_keep [2, 3, 4] [2, 3, 4] (⟨[(2, tP 2 0), (3, tP 3 0), (4, tP 4 0)], [(2, .cells (TMotion.c m) 84), (3, .cells (TPoint.c p) 31), (4, .cells [.i 0, .i 0] 31)]⟩) (by kernel_rfl)) (cv_eq ?_)
      first | rfl | (simp only [h1, cond_true, cond_false]; done) | (simp only [h1, cond_true, cond_false]; rfl)
  refine aw_seq ?_
  refine aw_seq ?_
  refine aw_region eqok [] [] [(12, cvecTurns m)] [2, 3, 4, 12, 13] [2, 3, 4] [Same (cvecTurns m).2.1] ⟨[(2, tP 2 0), (3, tP 3 0), (4, tP 4 0), (12, tI (FvecTurns m)), (13, tI 0)], [(2, .cells (TMotion.c m) 84), (3, .cells [.i (bif m.Mirror then (W64 (0 - p.X)) else p.X), .i p.Y] 31), (4, .cells [.i 0, .i 0] 31)]⟩ (.cons (okvecTurns m) .nil) (by kernel_rfl) (.cons rfl .nil) ?_
  refine ath_n ?_
  refine aw_block ?_
  refine aw_loopC (ι := Nat × TPoint × Int) (fun x => ⟨[(2, tP 2 0), (3, tP 3 0), (4, tP 4 0), (12, tI (FvecTurns m)), (13, tI x.2.2)], [(2, .cells (TMotion.c m) 84), (3, .cells (TPoint.c x.2.1) 31), (4, .cells [.i 0, .i 0] 31)]⟩) (fun x => (((FvecTurns m)) - x.2.2).toNat < x.1 ∧ (0 ≤ x.2.2 ∧ x.2.2 ≤ FvecTurns m) ∧ FvecApply_l0 m p x.1 x.2.1 x.2.2 = FvecApply m p) (fun x => x.1) ?_ ((((FvecTurns m)) - 0).toNat + 1, TPoint.mk (bif m.Mirror then (W64 (0 - p.X)) else p.X) p.Y, 0) ⟨Nat.lt_succ_self _, (by show 0 ≤ 0 ∧ 0 ≤ FvecTurns m; (have := turns_b m; omega)), (by simp only [FvecApply, cond_true, cond_false])⟩
  rintro ⟨n0, p', v13⟩ ⟨hn, hinv, hF⟩
  have hm0 : (((FvecTurns m)) - v13).toNat < n0 := hn; have hinv0 : 0 ≤ v13 ∧ v13 ≤ FvecTurns m := hinv; have hF0 : FvecApply_l0 m p n0 p' v13 = FvecApply m p := hF; clear hn hinv hF
  cases n0 with
  | zero => exact absurd hm0 (Nat.not_lt_zero _)
  | succ n0 =>
    have ht := turns_b m
    have e1 : W64 (v13 + 1) = v13 + 1 := W64_id (by omega) (by omega)
    refine aw_seq ?_
    refine aw_region eqok [] [] [] [2, 3, 4, 12, 13, 14] [2, 3, 4] [] ⟨[(2, tP 2 0), (3, tP 3 0), (4, tP 4 0), (12, tI (FvecTurns m)), (13, tI v13), (14, tB (decide ((v13 : Int) < (FvecTurns m))))], [(2, .cells (TMotion.c m) 84), (3, .cells (TPoint.c p') 31), (4, .cells [.i 0, .i 0] 31)]⟩ .nil (by kernel_rfl) .nil ?_
    refine ath_n ?_
    refine aw_seq ?_
    refine aw_cond (decide ((v13 : Int) < (FvecTurns m))) (by kernel_rfl) (fun h1 => ?_) (fun h1 => ?_)
    · have g1 := of_decide_eq_true h1
      refine aw_skip ?_
      refine ath_n ?_
      refine aw_seq ?_
      refine aw_block ?_
      refine aw_region eqok [] [] [] [2, 3, 4, 12, 13] [2, 3, 4] [] ⟨[(2, tP 2 0), (3, tP 3 0), (4, tP 4 0), (12, tI (FvecTurns m)), (13, tI v13)], [(2, .cells (TMotion.c m) 84), (3, .cells [.i (W64 (0 - p'.Y)), .i p'.X] 31), (4, .cells [.i 0, .i 0] 31)]⟩ .nil (by kernel_rfl) .nil ?_
      refine abl_n ?_
      refine ath_n ?_
      refine aw_region eqok [] [] [] [2, 3, 4, 12, 13] [2, 3, 4] [] ⟨[(2, tP 2 0), (3, tP 3 0), (4, tP 4 0), (12, tI (FvecTurns m)), (13, tI (W64 (v13 + 1)))], [(2, .cells (TMotion.c m) 84), (3, .cells [.i (W64 (0 - p'.Y)), .i p'.X] 31), (4, .cells [.i 0, .i 0] 31)]⟩ .nil (by kernel_rfl) .nil ?_
      (try rw [e1])
      refine ath_n ?_
      refine ⟨(n0, TPoint.mk (W64 (0 - p'.Y)) p'.X, v13 + 1), ⟨?_, ?_, (by rw [← hF0]; simp only [FvecApply_l0, h1, cond_true, cond_false])⟩, Nat.lt_succ_self _, cv_eq (by kernel_rfl)⟩
      · show (((FvecTurns m)) - (v13 + 1)).toNat < n0; omega
      · exact (by show 0 ≤ (v13 + 1) ∧ (v13 + 1) ≤ FvecTurns m; first | trivial | omega | (simp only [List.length_append, List.length_cons, List.length_nil]; omega) | (simp only [List.length_set, List.length_append, List.length_cons, List.length_nil]; omega) | (simp only [W64_def]; omega) | (simp; omega) | simp)
    · have g1 := of_decide_eq_false h1
      refine aw_exit ?_
      refine ath_e ?_
      refine ath_e ?_
      refine abl_hit ?_
      refine ath_n ?_
      refine aw_seq ?_
      refine aw_region eqok [] [] [(25, cvecAdd p' m.At)] [4] [4] [Same (cvecAdd p' m.At).2.1] ⟨[(4, tP 4 0)], [(4, .cells (TPoint.c (FvecAdd p' m.At)) 31)]⟩ (.cons (okvecAdd p' m.At) .nil) (by kernel_rfl) (.cons rfl .nil) ?_
      refine ath_n ?_
      refine aw_ret ?_
      exact ⟨_, Cv.refl _, .inl rfl, .av (.agg (TPoint.c (FvecAdd p' m.At))), by kernel_rfl, tve_eq (by rw [← hF0]; first | (simp only [FvecApply_l0, h1, cond_true, cond_false]; done) | (simp only [FvecApply_l0, h1, cond_true, cond_false]; rfl))⟩
theorem okvecApply (m : TMotion) (p : TPoint) : CallOk Try.prog (cvecApply m p).1 (cvecApply m p).2.1 (cvecApply m p).2.2 := callOk_pure (fun _ _ => by kernel_rfl) fun _ => pvecApply m p 
def Fedgeupward (x0 : TEdge) : Int := bif decide ((x0.A.Y : Int) < x0.B.Y) then (1) else (bif decide ((x0.B.Y : Int) < x0.A.Y) then ((-1)) else (0))
def cedgeupward (x0 : TEdge) : FuncId × List Av × Ef := (101, [.agg (TEdge.c x0)], .val [] (.av (.one (.i (Fedgeupward x0)))))
set_option maxRecDepth 100000 in
theorem pedgeupward (x0 : TEdge) : Pure Try.prog 101 (cedgeupward x0).2.1 (.av (.one (.i (Fedgeupward x0)))) := by
  refine pure_of_awF Try.func101 rfl (by kernel_rfl) (by kernel_rfl) fun W0 M0 => ?_
  refine aw_seq ?_
  refine aw_region eqok [] [] [] [1] [1] [] ⟨[(1, tP 1 0)], [(1, .cells (TEdge.c x0) 33)]⟩ .nil (by kernel_rfl) .nil ?_
  refine ath_n ?_
  refine aw_seq ?_
  refine aw_block ?_
  refine aw_seq ?_
  refine aw_region eqok [] [] [] [1, 3] [1] [] ⟨[(1, tP 1 0), (3, tB (decide ((x0.A.Y : Int) < x0.B.Y)))], [(1, .cells (TEdge.c x0) 33)]⟩ .nil (by kernel_rfl) .nil ?_
  refine ath_n ?_
  refine aw_cond (decide ((x0.A.Y : Int) < x0.B.Y)) (by kernel_rfl) (fun h1 => ?_) (fun h1 => ?_)
  · have g1 := of_decide_eq_true h1
    refine aw_seq ?_
    refine aw_region eqok [] [] [] [2] [] [] ⟨[(2, tI 1)], []⟩ .nil (by kernel_rfl) .nil ?_
    refine ath_n ?_
    refine aw_ret ?_
    refine abl_r ?_
    refine ath_r ?_
    exact ⟨_, Cv.refl _, .inl rfl, .av (.one (.i 1)), by kernel_rfl, tve_eq (by first | (simp only [Fedgeupward, h1, cond_true, cond_false]; done) | (simp only [Fedgeupward, h1, cond_true, cond_false]; rfl))⟩
  · have g1 := of_decide_eq_false h1
    refine aw_seq ?_
    refine aw_region eqok [] [] [] [11] [] [] ⟨[(11, tB (decide ((x0.B.Y : Int) < x0.A.Y)))], []⟩ .nil (by kernel_rfl) .nil ?_
    refine ath_n ?_
    refine aw_cond (decide ((x0.B.Y : Int) < x0.A.Y)) (by kernel_rfl) (fun h2 => ?_) (fun h2 => ?_)
    · have g2 := of_decide_eq_true h2
      refine aw_seq ?_
      refine aw_region eqok [] [] [] [2] [] [] ⟨[(2, tI ((-1)))], []⟩ .nil (by kernel_rfl) .nil ?_
      refine ath_n ?_
      refine aw_ret ?_
      refine abl_r ?_
      refine ath_r ?_
      exact ⟨_, Cv.refl _, .inl rfl, .av (.one (.i ((-1)))), by kernel_rfl, tve_eq (by first | (simp only [Fedgeupward, h1, h2, cond_true, cond_false]; done) | (simp only [Fedgeupward, h1, h2, cond_true, cond_false]; rfl))⟩
    · have g2 := of_decide_eq_false h2
      refine aw_skip ?_
      refine abl_n ?_
      refine ath_n ?_
      refine aw_seq ?_
      refine aw_region eqok [] [] [] [2] [] [] ⟨[(2, tI 0)], []⟩ .nil (by kernel_rfl) .nil ?_
      refine ath_n ?_
      refine aw_ret ?_
      exact ⟨_, Cv.refl _, .inl rfl, .av (.one (.i 0)), by kernel_rfl, tve_eq (by first | (simp only [Fedgeupward, h1, h2, cond_true, cond_false]; done) | (simp only [Fedgeupward, h1, h2, cond_true, cond_false]; rfl))⟩
theorem okedgeupward (x0 : TEdge) : CallOk Try.prog (cedgeupward x0).1 (cedgeupward x0).2.1 (cedgeupward x0).2.2 := callOk_pure (fun _ _ => by kernel_rfl) fun _ => pedgeupward x0 
def Fedgepower (x0 : TEdge) (x1 : TPoint) : Int := W64 ((FvecDot (FvecSub x1 x0.C) (FvecSub x1 x0.C)) - (FvecDot (FvecSub x0.A x0.C) (FvecSub x0.A x0.C)))
def cedgepower (x0 : TEdge) (x1 : TPoint) : FuncId × List Av × Ef := (103, [.agg (TEdge.c x0), .agg (TPoint.c x1)], .val [] (.av (.one (.i (Fedgepower x0 x1)))))
set_option maxRecDepth 100000 in
theorem pedgepower (x0 : TEdge) (x1 : TPoint) : Pure Try.prog 103 (cedgepower x0 x1).2.1 (.av (.one (.i (Fedgepower x0 x1)))) := by
  refine pure_of_awF Try.func103 rfl (by kernel_rfl) (by kernel_rfl) fun W0 M0 => ?_
  refine aw_seq ?_
  refine aw_region eqok [] [] [] [2, 3] [2, 3] [] ⟨[(2, tP 2 0), (3, tP 3 0)], [(2, .cells (TEdge.c x0) 33), (3, .cells (TPoint.c x1) 31)]⟩ .nil (by kernel_rfl) .nil ?_
  refine ath_n ?_
  refine aw_seq ?_
  refine aw_draw mixed eqok [] [] [(10, cvecSub x1 x0.C), (15, cvecSub x0.A x0.C)] [5, 6] [5, 6] [Same (cvecSub x1 x0.C).2.1, Same (cvecSub x0.A x0.C).2.1] ⟨[(5, tP 5 0), (6, tP 6 0)], [(5, .cells (TPoint.c (FvecSub x1 x0.C)) 31), (6, .cells (TPoint.c (FvecSub x0.A x0.C)) 31)]⟩ (.cons (okvecSub x1 x0.C) (.cons (okvecSub x0.A x0.C) .nil)) (by kernel_rfl) (by kernel_rfl) (.cons rfl (.cons rfl .nil)) ?_
  refine ath_n ?_
  refine aw_seq ?_
  refine aw_draw mixed eqok [] [] [(18, cvecDot (FvecSub x1 x0.C) (FvecSub x1 x0.C)), (21, cvecDot (FvecSub x0.A x0.C) (FvecSub x0.A x0.C))] [4] [] [Same (cvecDot (FvecSub x1 x0.C) (FvecSub x1 x0.C)).2.1, Same (cvecDot (FvecSub x0.A x0.C) (FvecSub x0.A x0.C)).2.1] ⟨[(4, tI (W64 ((FvecDot (FvecSub x1 x0.C) (FvecSub x1 x0.C)) - (FvecDot (FvecSub x0.A x0.C) (FvecSub x0.A x0.C)))))], []⟩ (.cons (okvecDot (FvecSub x1 x0.C) (FvecSub x1 x0.C)) (.cons (okvecDot (FvecSub x0.A x0.C) (FvecSub x0.A x0.C)) .nil)) (by kernel_rfl) (by kernel_rfl) (.cons rfl (.cons rfl .nil)) ?_
  refine ath_n ?_
  refine aw_ret ?_
  exact ⟨_, Cv.refl _, .inl rfl, .av (.one (.i (W64 ((FvecDot (FvecSub x1 x0.C) (FvecSub x1 x0.C)) - (FvecDot (FvecSub x0.A x0.C) (FvecSub x0.A x0.C)))))), by kernel_rfl, tve_eq (by rfl)⟩
theorem okedgepower (x0 : TEdge) (x1 : TPoint) : CallOk Try.prog (cedgepower x0 x1).1 (cedgepower x0 x1).2.1 (cedgepower x0 x1).2.2 := callOk_pure (fun _ _ => by kernel_rfl) fun _ => pedgepower x0 x1 
def Fedgequarter (x0 : TEdge) (x1 : Int) : Bool := bif !((decide ((((FvecSub x0.A x0.C).X) : Int) = 0)) == (decide ((((FvecSub x0.A x0.C).Y) : Int) = 0))) then (decide (((FvecSub x0.B x0.C).X) = ((FvecApply (TMotion.mk (TPoint.mk 0 0) x1 false) (FvecSub x0.A x0.C)).X)) && (decide (((FvecSub x0.B x0.C).Y) = ((FvecApply (TMotion.mk (TPoint.mk 0 0) x1 false) (FvecSub x0.A x0.C)).Y)) && true)) else false
def cedgequarter (x0 : TEdge) (x1 : Int) : FuncId × List Av × Ef := (102, [.agg (TEdge.c x0), .one (.i x1)], .val [] (.av (.one (.b (Fedgequarter x0 x1)))))
set_option maxRecDepth 100000 in
theorem pedgequarter (x0 : TEdge) (x1 : Int) : Pure Try.prog 102 (cedgequarter x0 x1).2.1 (.av (.one (.b (Fedgequarter x0 x1)))) := by
  refine pure_of_awF Try.func102 rfl (by kernel_rfl) (by kernel_rfl) fun W0 M0 => ?_
  refine aw_seq ?_
  refine aw_region eqok [] [] [] [1, 2] [2] [] ⟨[(1, tI x1), (2, tP 2 0)], [(2, .cells (TEdge.c x0) 33)]⟩ .nil (by kernel_rfl) .nil ?_
  refine ath_n ?_
  refine aw_seq ?_
  refine aw_region eqok [] [] [(10, cvecSub x0.A x0.C)] [1, 2, 5] [2, 5] [Same (cvecSub x0.A x0.C).2.1] ⟨[(1, tI x1), (2, tP 2 0), (5, tP 5 0)], [(2, .cells (TEdge.c x0) 33), (5, .cells (TPoint.c (FvecSub x0.A x0.C)) 31)]⟩ (.cons (okvecSub x0.A x0.C) .nil) (by kernel_rfl) (.cons rfl .nil) ?_
  refine ath_n ?_
  refine aw_seq ?_
  refine aw_draw mixed eqok [] [] [(23, cvecSub x0.B x0.C), (27, cvecApply (TMotion.mk (TPoint.mk 0 0) x1 false) (FvecSub x0.A x0.C))] [4] [] [((!((decide ((((FvecSub x0.A x0.C).X) : Int) = 0)) == (decide ((((FvecSub x0.A x0.C).Y) : Int) = 0)))) = true) → ((!((decide ((((FvecSub x0.A x0.C).X) : Int) = 0)) == (decide ((((FvecSub x0.A x0.C).Y) : Int) = 0)))) = true), ((!((decide ((((FvecSub x0.A x0.C).X) : Int) = 0)) == (decide ((((FvecSub x0.A x0.C).Y) : Int) = 0)))) = true) → ((!((decide ((((FvecSub x0.A x0.C).X) : Int) = 0)) == (decide ((((FvecSub x0.A x0.C).Y) : Int) = 0)))) = true), ((!((decide ((((FvecSub x0.A x0.C).X) : Int) = 0)) == (decide ((((FvecSub x0.A x0.C).Y) : Int) = 0)))) = true) → ((!((decide ((((FvecSub x0.A x0.C).X) : Int) = 0)) == (decide ((((FvecSub x0.A x0.C).Y) : Int) = 0)))) = true), ((!((decide ((((FvecSub x0.A x0.C).X) : Int) = 0)) == (decide ((((FvecSub x0.A x0.C).Y) : Int) = 0)))) = true) → ((!((decide ((((FvecSub x0.A x0.C).X) : Int) = 0)) == (decide ((((FvecSub x0.A x0.C).Y) : Int) = 0)))) = true), ((!((decide ((((FvecSub x0.A x0.C).X) : Int) = 0)) == (decide ((((FvecSub x0.A x0.C).Y) : Int) = 0)))) = true) → (Same (cvecSub x0.B x0.C).2.1), ((!((decide ((((FvecSub x0.A x0.C).X) : Int) = 0)) == (decide ((((FvecSub x0.A x0.C).Y) : Int) = 0)))) = true) → ((!((decide ((((FvecSub x0.A x0.C).X) : Int) = 0)) == (decide ((((FvecSub x0.A x0.C).Y) : Int) = 0)))) = true), ((!((decide ((((FvecSub x0.A x0.C).X) : Int) = 0)) == (decide ((((FvecSub x0.A x0.C).Y) : Int) = 0)))) = true) → ((!((decide ((((FvecSub x0.A x0.C).X) : Int) = 0)) == (decide ((((FvecSub x0.A x0.C).Y) : Int) = 0)))) = true), ((!((decide ((((FvecSub x0.A x0.C).X) : Int) = 0)) == (decide ((((FvecSub x0.A x0.C).Y) : Int) = 0)))) = true) → ((!((decide ((((FvecSub x0.A x0.C).X) : Int) = 0)) == (decide ((((FvecSub x0.A x0.C).Y) : Int) = 0)))) = true), ((!((decide ((((FvecSub x0.A x0.C).X) : Int) = 0)) == (decide ((((FvecSub x0.A x0.C).Y) : Int) = 0)))) = true) → (Same (cvecApply (TMotion.mk (TPoint.mk 0 0) x1 false) (FvecSub x0.A x0.C)).2.1), ((!((decide ((((FvecSub x0.A x0.C).X) : Int) = 0)) == (decide ((((FvecSub x0.A x0.C).Y) : Int) = 0)))) = true) → ((!((decide ((((FvecSub x0.A x0.C).X) : Int) = 0)) == (decide ((((FvecSub x0.A x0.C).Y) : Int) = 0)))) = true), ((!((decide ((((FvecSub x0.A x0.C).X) : Int) = 0)) == (decide ((((FvecSub x0.A x0.C).Y) : Int) = 0)))) = true) → ((!((decide ((((FvecSub x0.A x0.C).X) : Int) = 0)) == (decide ((((FvecSub x0.A x0.C).Y) : Int) = 0)))) = true), (!((decide ((((FvecSub x0.A x0.C).X) : Int) = 0)) == (decide ((((FvecSub x0.A x0.C).Y) : Int) = 0)))) = true → ((!((decide ((((FvecSub x0.A x0.C).X) : Int) = 0)) == (decide ((((FvecSub x0.A x0.C).Y) : Int) = 0)))) = true)] ⟨[(4, tB (bif !((decide ((((FvecSub x0.A x0.C).X) : Int) = 0)) == (decide ((((FvecSub x0.A x0.C).Y) : Int) = 0))) then (decide (((FvecSub x0.B x0.C).X) = ((FvecApply (TMotion.mk (TPoint.mk 0 0) x1 false) (FvecSub x0.A x0.C)).X)) && (decide (((FvecSub x0.B x0.C).Y) = ((FvecApply (TMotion.mk (TPoint.mk 0 0) x1 false) (FvecSub x0.A x0.C)).Y)) && true)) else false))], []⟩ (.cons (okvecSub x0.B x0.C) (.cons (okvecApply (TMotion.mk (TPoint.mk 0 0) x1 false) (FvecSub x0.A x0.C)) .nil)) (by kernel_rfl) (by kernel_rfl) (.cons id (.cons id (.cons id (.cons id (.cons (fun _ => rfl) (.cons id (.cons id (.cons id (.cons (fun _ => rfl) (.cons id (.cons id (.cons id .nil)))))))))))) ?_
  refine ath_n ?_
  refine aw_ret ?_
  exact ⟨_, Cv.refl _, .inl rfl, .av (.one (.b (bif !((decide ((((FvecSub x0.A x0.C).X) : Int) = 0)) == (decide ((((FvecSub x0.A x0.C).Y) : Int) = 0))) then (decide (((FvecSub x0.B x0.C).X) = ((FvecApply (TMotion.mk (TPoint.mk 0 0) x1 false) (FvecSub x0.A x0.C)).X)) && (decide (((FvecSub x0.B x0.C).Y) = ((FvecApply (TMotion.mk (TPoint.mk 0 0) x1 false) (FvecSub x0.A x0.C)).Y)) && true)) else false))), by kernel_rfl, tve_eq (by rfl)⟩
theorem okedgequarter (x0 : TEdge) (x1 : Int) : CallOk Try.prog (cedgequarter x0 x1).1 (cedgequarter x0 x1).2.1 (cedgequarter x0 x1).2.2 := callOk_pure (fun _ _ => by kernel_rfl) fun _ => pedgequarter x0 x1 
def Fedgelone (x0 : TEdge) : Bool := (decide (x0.C.X = 0) && (decide (x0.C.Y = 0) && true))
def cedgelone (x0 : TEdge) : FuncId × List Av × Ef := (93, [.agg (TEdge.c x0)], .val [] (.av (.one (.b (Fedgelone x0)))))
set_option maxRecDepth 100000 in
theorem pedgelone (x0 : TEdge) : Pure Try.prog 93 (cedgelone x0).2.1 (.av (.one (.b (Fedgelone x0)))) := by
  refine pure_of_awF Try.func93 rfl (by kernel_rfl) (by kernel_rfl) fun W0 M0 => ?_
  refine aw_seq ?_
  refine aw_region eqok [] [] [] [1] [1] [] ⟨[(1, tP 1 0)], [(1, .cells (TEdge.c x0) 33)]⟩ .nil (by kernel_rfl) .nil ?_
  refine ath_n ?_
  refine aw_seq ?_
  refine aw_region eqok [] [] [] [2] [] [] ⟨[(2, tB ((decide (x0.C.X = 0) && (decide (x0.C.Y = 0) && true))))], []⟩ .nil (by kernel_rfl) .nil ?_
  refine ath_n ?_
  refine aw_ret ?_
  exact ⟨_, Cv.refl _, .inl rfl, .av (.one (.b ((decide (x0.C.X = 0) && (decide (x0.C.Y = 0) && true))))), by kernel_rfl, tve_eq (by rfl)⟩
theorem okedgelone (x0 : TEdge) : CallOk Try.prog (cedgelone x0).1 (cedgelone x0).2.1 (cedgelone x0).2.2 := callOk_pure (fun _ _ => by kernel_rfl) fun _ => pedgelone x0 
def Fedgeleftwards (x0 : TEdge) : Bool := Fedgequarter x0 1
def cedgeleftwards (x0 : TEdge) : FuncId × List Av × Ef := (96, [.agg (TEdge.c x0)], .val [] (.av (.one (.b (Fedgeleftwards x0)))))
set_option maxRecDepth 100000 in
theorem pedgeleftwards (x0 : TEdge) : Pure Try.prog 96 (cedgeleftwards x0).2.1 (.av (.one (.b (Fedgeleftwards x0)))) := by
  refine pure_of_awF Try.func96 rfl (by kernel_rfl) (by kernel_rfl) fun W0 M0 => ?_
  refine aw_seq ?_
  refine aw_region eqok [] [] [] [1] [1] [] ⟨[(1, tP 1 0)], [(1, .cells (TEdge.c x0) 33)]⟩ .nil (by kernel_rfl) .nil ?_
  refine ath_n ?_
  refine aw_seq ?_
  refine aw_region eqok [] [] [(4, cedgequarter x0 1)] [2] [] [Same (cedgequarter x0 1).2.1] ⟨[(2, tB (Fedgequarter x0 1))], []⟩ (.cons (okedgequarter x0 1) .nil) (by kernel_rfl) (.cons rfl .nil) ?_
  refine ath_n ?_
  refine aw_ret ?_
  exact ⟨_, Cv.refl _, .inl rfl, .av (.one (.b (Fedgequarter x0 1))), by kernel_rfl, tve_eq (by rfl)⟩
theorem okedgeleftwards (x0 : TEdge) : CallOk Try.prog (cedgeleftwards x0).1 (cedgeleftwards x0).2.1 (cedgeleftwards x0).2.2 := callOk_pure (fun _ _ => by kernel_rfl) fun _ => pedgeleftwards x0 
def Fedgerightwards (x0 : TEdge) : Bool := Fedgequarter x0 3
def cedgerightwards (x0 : TEdge) : FuncId × List Av × Ef := (99, [.agg (TEdge.c x0)], .val [] (.av (.one (.b (Fedgerightwards x0)))))
set_option maxRecDepth 100000 in
theorem pedgerightwards (x0 : TEdge) : Pure Try.prog 99 (cedgerightwards x0).2.1 (.av (.one (.b (Fedgerightwards x0)))) := by
  refine pure_of_awF Try.func99 rfl (by kernel_rfl) (by kernel_rfl) fun W0 M0 => ?_
  refine aw_seq ?_
  refine aw_region eqok [] [] [] [1] [1] [] ⟨[(1, tP 1 0)], [(1, .cells (TEdge.c x0) 33)]⟩ .nil (by kernel_rfl) .nil ?_
  refine ath_n ?_
  refine aw_seq ?_
  refine aw_region eqok [] [] [(4, cedgequarter x0 3)] [2] [] [Same (cedgequarter x0 3).2.1] ⟨[(2, tB (Fedgequarter x0 3))], []⟩ (.cons (okedgequarter x0 3) .nil) (by kernel_rfl) (.cons rfl .nil) ?_
  refine ath_n ?_
  refine aw_ret ?_
  exact ⟨_, Cv.refl _, .inl rfl, .av (.one (.b (Fedgequarter x0 3))), by kernel_rfl, tve_eq (by rfl)⟩
theorem okedgerightwards (x0 : TEdge) : CallOk Try.prog (cedgerightwards x0).1 (cedgerightwards x0).2.1 (cedgerightwards x0).2.2 := callOk_pure (fun _ _ => by kernel_rfl) fun _ => pedgerightwards x0 
def Fedgestraight (x0 : TEdge) (x1 : TPoint) : Bool := decide (((FvecSide x0.A x0.B x1) : Int) = 0)
def cedgestraight (x0 : TEdge) (x1 : TPoint) : FuncId × List Av × Ef := (94, [.agg (TEdge.c x0), .agg (TPoint.c x1)], .val [] (.av (.one (.b (Fedgestraight x0 x1)))))
set_option maxRecDepth 100000 in
theorem pedgestraight (x0 : TEdge) (x1 : TPoint) : Pure Try.prog 94 (cedgestraight x0 x1).2.1 (.av (.one (.b (Fedgestraight x0 x1)))) := by
  refine pure_of_awF Try.func94 rfl (by kernel_rfl) (by kernel_rfl) fun W0 M0 => ?_
  refine aw_seq ?_
  refine aw_region eqok [] [] [] [2, 3] [2, 3] [] ⟨[(2, tP 2 0), (3, tP 3 0)], [(2, .cells (TEdge.c x0) 33), (3, .cells (TPoint.c x1) 31)]⟩ .nil (by kernel_rfl) .nil ?_
  refine ath_n ?_
  refine aw_seq ?_
  refine aw_region eqok [] [] [(10, cvecSide x0.A x0.B x1)] [4] [] [Same (cvecSide x0.A x0.B x1).2.1] ⟨[(4, tB (decide (((FvecSide x0.A x0.B x1) : Int) = 0)))], []⟩ (.cons (okvecSide x0.A x0.B x1) .nil) (by kernel_rfl) (.cons rfl .nil) ?_
  refine ath_n ?_
  refine aw_ret ?_
  exact ⟨_, Cv.refl _, .inl rfl, .av (.one (.b (decide (((FvecSide x0.A x0.B x1) : Int) = 0)))), by kernel_rfl, tve_eq (by rfl)⟩
theorem okedgestraight (x0 : TEdge) (x1 : TPoint) : CallOk Try.prog (cedgestraight x0 x1).1 (cedgestraight x0 x1).2.1 (cedgestraight x0 x1).2.2 := callOk_pure (fun _ _ => by kernel_rfl) fun _ => pedgestraight x0 x1 
def Fedgeround (x0 : TEdge) (x1 : TPoint) : Bool := decide (((Fedgepower x0 x1) : Int) = 0)
def cedgeround (x0 : TEdge) (x1 : TPoint) : FuncId × List Av × Ef := (97, [.agg (TEdge.c x0), .agg (TPoint.c x1)], .val [] (.av (.one (.b (Fedgeround x0 x1)))))
set_option maxRecDepth 100000 in
theorem pedgeround (x0 : TEdge) (x1 : TPoint) : Pure Try.prog 97 (cedgeround x0 x1).2.1 (.av (.one (.b (Fedgeround x0 x1)))) := by
  refine pure_of_awF Try.func97 rfl (by kernel_rfl) (by kernel_rfl) fun W0 M0 => ?_
  refine aw_seq ?_
  refine aw_region eqok [] [] [] [2, 3] [2, 3] [] ⟨[(2, tP 2 0), (3, tP 3 0)], [(2, .cells (TEdge.c x0) 33), (3, .cells (TPoint.c x1) 31)]⟩ .nil (by kernel_rfl) .nil ?_
  refine ath_n ?_
  refine aw_seq ?_
  refine aw_region eqok [] [] [(7, cedgepower x0 x1)] [4] [] [Same (cedgepower x0 x1).2.1] ⟨[(4, tB (decide (((Fedgepower x0 x1) : Int) = 0)))], []⟩ (.cons (okedgepower x0 x1) .nil) (by kernel_rfl) (.cons rfl .nil) ?_
  refine ath_n ?_
  refine aw_ret ?_
  exact ⟨_, Cv.refl _, .inl rfl, .av (.one (.b (decide (((Fedgepower x0 x1) : Int) = 0)))), by kernel_rfl, tve_eq (by rfl)⟩
theorem okedgeround (x0 : TEdge) (x1 : TPoint) : CallOk Try.prog (cedgeround x0 x1).1 (cedgeround x0 x1).2.1 (cedgeround x0 x1).2.2 := callOk_pure (fun _ _ => by kernel_rfl) fun _ => pedgeround x0 x1 
def Fedgeabove (x0 : TEdge) (x1 : TPoint) : Bool := decide (((FvecSide x0.A x0.B x1) : Int) = (Fedgeupward x0))
def cedgeabove (x0 : TEdge) (x1 : TPoint) : FuncId × List Av × Ef := (95, [.agg (TEdge.c x0), .agg (TPoint.c x1)], .val [] (.av (.one (.b (Fedgeabove x0 x1)))))
set_option maxRecDepth 100000 in
theorem pedgeabove (x0 : TEdge) (x1 : TPoint) : Pure Try.prog 95 (cedgeabove x0 x1).2.1 (.av (.one (.b (Fedgeabove x0 x1)))) := by
  refine pure_of_awF Try.func95 rfl (by kernel_rfl) (by kernel_rfl) fun W0 M0 => ?_
  refine aw_seq ?_
  refine aw_region eqok [] [] [] [2, 3] [2, 3] [] ⟨[(2, tP 2 0), (3, tP 3 0)], [(2, .cells (TEdge.c x0) 33), (3, .cells (TPoint.c x1) 31)]⟩ .nil (by kernel_rfl) .nil ?_
  refine ath_n ?_
  refine aw_seq ?_
  refine aw_draw mixed eqok [] [] [(10, cvecSide x0.A x0.B x1), (12, cedgeupward x0)] [4] [] [Same (cvecSide x0.A x0.B x1).2.1, Same (cedgeupward x0).2.1] ⟨[(4, tB (decide (((FvecSide x0.A x0.B x1) : Int) = (Fedgeupward x0))))], []⟩ (.cons (okvecSide x0.A x0.B x1) (.cons (okedgeupward x0) .nil)) (by kernel_rfl) (by kernel_rfl) (.cons rfl (.cons rfl .nil)) ?_
  refine ath_n ?_
  refine aw_ret ?_
  exact ⟨_, Cv.refl _, .inl rfl, .av (.one (.b (decide (((FvecSide x0.A x0.B x1) : Int) = (Fedgeupward x0))))), by kernel_rfl, tve_eq (by rfl)⟩
theorem okedgeabove (x0 : TEdge) (x1 : TPoint) : CallOk Try.prog (cedgeabove x0 x1).1 (cedgeabove x0 x1).2.1 (cedgeabove x0 x1).2.2 := callOk_pure (fun _ _ => by kernel_rfl) fun _ => pedgeabove x0 x1 
def Fedgebeside (x0 : TEdge) (x1 : TPoint) : Bool := bif bif decide ((x0.C.X : Int) < x0.A.X) then true else decide ((x0.C.X : Int) < x0.B.X) then (bif decide ((x1.X : Int) < x0.C.X) then true else decide (((Fedgepower x0 x1) : Int) < 0)) else (bif decide ((x1.X : Int) < x0.C.X) then decide ((0 : Int) < (Fedgepower x0 x1)) else false)
def cedgebeside (x0 : TEdge) (x1 : TPoint) : FuncId × List Av × Ef := (98, [.agg (TEdge.c x0), .agg (TPoint.c x1)], .val [] (.av (.one (.b (Fedgebeside x0 x1)))))
set_option maxRecDepth 100000 in
theorem pedgebeside (x0 : TEdge) (x1 : TPoint) : Pure Try.prog 98 (cedgebeside x0 x1).2.1 (.av (.one (.b (Fedgebeside x0 x1)))) := by
  refine pure_of_awF Try.func98 rfl (by kernel_rfl) (by kernel_rfl) fun W0 M0 => ?_
  refine aw_seq ?_
  refine aw_region eqok [] [] [] [2, 3] [2, 3] [] ⟨[(2, tP 2 0), (3, tP 3 0)], [(2, .cells (TEdge.c x0) 33), (3, .cells (TPoint.c x1) 31)]⟩ .nil (by kernel_rfl) .nil ?_
  refine ath_n ?_
  refine aw_seq ?_
  refine aw_seq ?_
  refine aw_region eqok [] [] [] [2, 3, 20] [2, 3] [((decide ((x0.C.X : Int) < x0.A.X)) = false) → ((decide ((x0.C.X : Int) < x0.A.X)) = false), ((decide ((x0.C.X : Int) < x0.A.X)) = false) → ((decide ((x0.C.X : Int) < x0.A.X)) = false), ((decide ((x0.C.X : Int) < x0.A.X)) = false) → ((decide ((x0.C.X : Int) < x0.A.X)) = false), ((decide ((x0.C.X : Int) < x0.A.X)) = false) → ((decide ((x0.C.X : Int) < x0.A.X)) = false), ((decide ((x0.C.X : Int) < x0.A.X)) = false) → ((decide ((x0.C.X : Int) < x0.A.X)) = false), ((decide ((x0.C.X : Int) < x0.A.X)) = false) → ((decide ((x0.C.X : Int) < x0.A.X)) = false), (decide ((x0.C.X : Int) < x0.A.X)) = false → ((decide ((x0.C.X : Int) < x0.A.X)) = false)] ⟨[(2, tP 2 0), (3, tP 3 0), (20, tB (bif decide ((x0.C.X : Int) < x0.A.X) then true else decide ((x0.C.X : Int) < x0.B.X)))], [(2, .cells (TEdge.c x0) 33), (3, .cells (TPoint.c x1) 31)]⟩ .nil (by kernel_rfl) (.cons id (.cons id (.cons id (.cons id (.cons id (.cons id (.cons id .nil))))))) ?_
  refine ath_n ?_
  refine aw_cond (bif decide ((x0.C.X : Int) < x0.A.X) then true else decide ((x0.C.X : Int) < x0.B.X)) (by kernel_rfl) (fun h1 => ?_) (fun h1 => ?_)
  · refine aw_seq ?_
    refine aw_region eqok [] [] [(30, cedgepower x0 x1)] [4] [] [((decide ((x1.X : Int) < x0.C.X)) = false) → ((decide ((x1.X : Int) < x0.C.X)) = false), ((decide ((x1.X : Int) < x0.C.X)) = false) → ((decide ((x1.X : Int) < x0.C.X)) = false), ((decide ((x1.X : Int) < x0.C.X)) = false) → (Same (cedgepower x0 x1).2.1), ((decide ((x1.X : Int) < x0.C.X)) = false) → ((decide ((x1.X : Int) < x0.C.X)) = false), (decide ((x1.X : Int) < x0.C.X)) = false → ((decide ((x1.X : Int) < x0.C.X)) = false)] ⟨[(4, tB (bif decide ((x1.X : Int) < x0.C.X) then true else decide (((Fedgepower x0 x1) : Int) < 0)))], []⟩ (.cons (okedgepower x0 x1) .nil) (by kernel_rfl) (.cons id (.cons id (.cons (fun _ => rfl) (.cons id (.cons id .nil))))) ?_
    refine ath_n ?_
    refine aw_ret ?_
    refine ath_r ?_
    exact ⟨_, Cv.refl _, .inl rfl, .av (.one (.b (bif decide ((x1.X : Int) < x0.C.X) then true else decide (((Fedgepower x0 x1) : Int) < 0)))), by kernel_rfl, tve_eq (by first | (simp only [Fedgebeside, h1, cond_true, cond_false]; done) | (simp only [Fedgebeside, h1, cond_true, cond_false]; rfl))⟩
  · refine aw_skip ?_
    refine ath_n ?_
    refine aw_seq ?_
    refine aw_region eqok [] [] [(42, cedgepower x0 x1)] [4] [] [((decide ((x1.X : Int) < x0.C.X)) = true) → ((decide ((x1.X : Int) < x0.C.X)) = true), ((decide ((x1.X : Int) < x0.C.X)) = true) → ((decide ((x1.X : Int) < x0.C.X)) = true), ((decide ((x1.X : Int) < x0.C.X)) = true) → (Same (cedgepower x0 x1).2.1), ((decide ((x1.X : Int) < x0.C.X)) = true) → ((decide ((x1.X : Int) < x0.C.X)) = true), (decide ((x1.X : Int) < x0.C.X)) = true → ((decide ((x1.X : Int) < x0.C.X)) = true)] ⟨[(4, tB (bif decide ((x1.X : Int) < x0.C.X) then decide ((0 : Int) < (Fedgepower x0 x1)) else false))], []⟩ (.cons (okedgepower x0 x1) .nil) (by kernel_rfl) (.cons id (.cons id (.cons (fun _ => rfl) (.cons id (.cons id .nil))))) ?_
    refine ath_n ?_
    refine aw_ret ?_
    exact ⟨_, Cv.refl _, .inl rfl, .av (.one (.b (bif decide ((x1.X : Int) < x0.C.X) then decide ((0 : Int) < (Fedgepower x0 x1)) else false))), by kernel_rfl, tve_eq (by first | (simp only [Fedgebeside, h1, cond_true, cond_false]; done) | (simp only [Fedgebeside, h1, cond_true, cond_false]; rfl))⟩
theorem okedgebeside (x0 : TEdge) (x1 : TPoint) : CallOk Try.prog (cedgebeside x0 x1).1 (cedgebeside x0 x1).2.1 (cedgebeside x0 x1).2.2 := callOk_pure (fun _ _ => by kernel_rfl) fun _ => pedgebeside x0 x1 
def cfamilies1 : FuncId × List Av × Ef := (87, [.one (.i 1)], .val [] (.tup [.agg [.clo 93 0 (fun _ => default), .clo 94 0 (fun _ => default), .clo 95 0 (fun _ => default), .i 1], .one (.b true)]))
set_option maxRecDepth 100000 in
theorem pfamilies1  : Pure Try.prog 87 (cfamilies1 ).2.1 (.tup [.agg [.clo 93 0 (fun _ => default), .clo 94 0 (fun _ => default), .clo 95 0 (fun _ => default), .i 1], .one (.b true)]) := by
  refine pure_of_awF Try.func87 rfl (by kernel_rfl) (by kernel_rfl) fun W0 M0 => ?_
  refine aw_seq ?_
  refine aw_region eqok [] [] [] [0, 2] [2] [] ⟨[(0, tI 1), (2, tP 2 0)], [(2, .cells [.val .nilFunc, .val .nilFunc, .val .nilFunc, .i 0] 153)]⟩ .nil (by kernel_rfl) .nil ?_
  refine ath_n ?_
  refine aw_seq ?_
  refine aw_seq ?_
  refine aw_region eqok [] [] [] [0, 2, 4] [2] [] ⟨[(0, tI 1), (2, tP 2 0), (4, tI 1)], [(2, .cells [.val .nilFunc, .val .nilFunc, .val .nilFunc, .i 0] 153)]⟩ .nil (by kernel_rfl) .nil ?_
  refine ath_n ?_
  refine aw_block ?_
  refine aw_seq ?_
  refine aw_region eqok [] [] [] [0, 2, 4, 5] [2] [] ⟨[(0, tI 1), (2, tP 2 0), (4, tI 1), (5, tB true)], [(2, .cells [.val .nilFunc, .val .nilFunc, .val .nilFunc, .i 0] 153)]⟩ .nil (by kernel_rfl) .nil ?_
  refine ath_n ?_
  refine aw_cond_t (by kernel_rfl) ?_
  refine aw_seq ?_
  refine aw_region eqok [] [] [] [2, 3] [2] [] ⟨[(2, tP 2 0), (3, tB true)], [(2, .cells [.clo 93 0 (fun _ => default), .clo 94 0 (fun _ => default), .clo 95 0 (fun _ => default), .i 1] 153)]⟩ .nil (by kernel_rfl) .nil ?_
  refine ath_n ?_
  refine aw_ret ?_
  refine abl_r ?_
  refine ath_r ?_
  exact ⟨_, Cv.refl _, .inl rfl, .tup [.agg [.clo 93 0 (fun _ => default), .clo 94 0 (fun _ => default), .clo 95 0 (fun _ => default), .i 1], .one (.b true)], by kernel_rfl, tve_eq rfl⟩
theorem okfamilies1  : CallOk Try.prog (cfamilies1 ).1 (cfamilies1 ).2.1 (cfamilies1 ).2.2 := callOk_pure (fun _ _ => by kernel_rfl) fun _ => pfamilies1  
def cfamilies2 : FuncId × List Av × Ef := (87, [.one (.i 2)], .val [] (.tup [.agg [.clo 96 0 (fun _ => default), .clo 97 0 (fun _ => default), .clo 98 0 (fun _ => default), .i 3], .one (.b true)]))
set_option maxRecDepth 100000 in
theorem pfamilies2  : Pure Try.prog 87 (cfamilies2 ).2.1 (.tup [.agg [.clo 96 0 (fun _ => default), .clo 97 0 (fun _ => default), .clo 98 0 (fun _ => default), .i 3], .one (.b true)]) := by
  refine pure_of_awF Try.func87 rfl (by kernel_rfl) (by kernel_rfl) fun W0 M0 => ?_
  refine aw_seq ?_
  refine aw_region eqok [] [] [] [0, 2] [2] [] ⟨[(0, tI 2), (2, tP 2 0)], [(2, .cells [.val .nilFunc, .val .nilFunc, .val .nilFunc, .i 0] 153)]⟩ .nil (by kernel_rfl) .nil ?_
  refine ath_n ?_
  refine aw_seq ?_
  refine aw_seq ?_
  refine aw_region eqok [] [] [] [0, 2, 4] [2] [] ⟨[(0, tI 2), (2, tP 2 0), (4, tI 2)], [(2, .cells [.val .nilFunc, .val .nilFunc, .val .nilFunc, .i 0] 153)]⟩ .nil (by kernel_rfl) .nil ?_
  refine ath_n ?_
  refine aw_block ?_
  refine aw_seq ?_
  refine aw_region eqok [] [] [] [0, 2, 4, 5] [2] [] ⟨[(0, tI 2), (2, tP 2 0), (4, tI 2), (5, tB false)], [(2, .cells [.val .nilFunc, .val .nilFunc, .val .nilFunc, .i 0] 153)]⟩ .nil (by kernel_rfl) .nil ?_
  refine ath_n ?_
  refine aw_cond_f (by kernel_rfl) ?_
  refine aw_seq ?_
  refine aw_region eqok [] [] [] [0, 2, 4, 8] [2] [] ⟨[(0, tI 2), (2, tP 2 0), (4, tI 2), (8, tB true)], [(2, .cells [.val .nilFunc, .val .nilFunc, .val .nilFunc, .i 0] 153)]⟩ .nil (by kernel_rfl) .nil ?_
  refine ath_n ?_
  refine aw_cond_t (by kernel_rfl) ?_
  refine aw_seq ?_
  refine aw_region eqok [] [] [] [2, 3] [2] [] ⟨[(2, tP 2 0), (3, tB true)], [(2, .cells [.clo 96 0 (fun _ => default), .clo 97 0 (fun _ => default), .clo 98 0 (fun _ => default), .i 3] 153)]⟩ .nil (by kernel_rfl) .nil ?_
  refine ath_n ?_
  refine aw_ret ?_
  refine abl_r ?_
  refine ath_r ?_
  exact ⟨_, Cv.refl _, .inl rfl, .tup [.agg [.clo 96 0 (fun _ => default), .clo 97 0 (fun _ => default), .clo 98 0 (fun _ => default), .i 3], .one (.b true)], by kernel_rfl, tve_eq rfl⟩
theorem okfamilies2  : CallOk Try.prog (cfamilies2 ).1 (cfamilies2 ).2.1 (cfamilies2 ).2.2 := callOk_pure (fun _ _ => by kernel_rfl) fun _ => pfamilies2  
def cfamilies3 : FuncId × List Av × Ef := (87, [.one (.i 3)], .val [] (.tup [.agg [.clo 99 0 (fun _ => default), .clo 97 0 (fun _ => default), .clo 98 0 (fun _ => default), .i 2], .one (.b true)]))
set_option maxRecDepth 100000 in
theorem pfamilies3  : Pure Try.prog 87 (cfamilies3 ).2.1 (.tup [.agg [.clo 99 0 (fun _ => default), .clo 97 0 (fun _ => default), .clo 98 0 (fun _ => default), .i 2], .one (.b true)]) := by
  refine pure_of_awF Try.func87 rfl (by kernel_rfl) (by kernel_rfl) fun W0 M0 => ?_
  refine aw_seq ?_
  refine aw_region eqok [] [] [] [0, 2] [2] [] ⟨[(0, tI 3), (2, tP 2 0)], [(2, .cells [.val .nilFunc, .val .nilFunc, .val .nilFunc, .i 0] 153)]⟩ .nil (by kernel_rfl) .nil ?_
  refine ath_n ?_
  refine aw_seq ?_
  refine aw_seq ?_
  refine aw_region eqok [] [] [] [0, 2, 4] [2] [] ⟨[(0, tI 3), (2, tP 2 0), (4, tI 3)], [(2, .cells [.val .nilFunc, .val .nilFunc, .val .nilFunc, .i 0] 153)]⟩ .nil (by kernel_rfl) .nil ?_
  refine ath_n ?_
  refine aw_block ?_
  refine aw_seq ?_
  refine aw_region eqok [] [] [] [0, 2, 4, 5] [2] [] ⟨[(0, tI 3), (2, tP 2 0), (4, tI 3), (5, tB false)], [(2, .cells [.val .nilFunc, .val .nilFunc, .val .nilFunc, .i 0] 153)]⟩ .nil (by kernel_rfl) .nil ?_
  refine ath_n ?_
  refine aw_cond_f (by kernel_rfl) ?_
  refine aw_seq ?_
  refine aw_region eqok [] [] [] [0, 2, 4, 8] [2] [] ⟨[(0, tI 3), (2, tP 2 0), (4, tI 3), (8, tB false)], [(2, .cells [.val .nilFunc, .val .nilFunc, .val .nilFunc, .i 0] 153)]⟩ .nil (by kernel_rfl) .nil ?_
  refine ath_n ?_
  refine aw_cond_f (by kernel_rfl) ?_
  refine aw_seq ?_
  refine aw_region eqok [] [] [] [0, 2, 11] [2] [] ⟨[(0, tI 3), (2, tP 2 0), (11, tB true)], [(2, .cells [.val .nilFunc, .val .nilFunc, .val .nilFunc, .i 0] 153)]⟩ .nil (by kernel_rfl) .nil ?_
  refine ath_n ?_
  refine aw_cond_t (by kernel_rfl) ?_
  refine aw_seq ?_
  refine aw_region eqok [] [] [] [2, 3] [2] [] ⟨[(2, tP 2 0), (3, tB true)], [(2, .cells [.clo 99 0 (fun _ => default), .clo 97 0 (fun _ => default), .clo 98 0 (fun _ => default), .i 2] 153)]⟩ .nil (by kernel_rfl) .nil ?_
  refine ath_n ?_
  refine aw_ret ?_
  refine abl_r ?_
  refine ath_r ?_
  exact ⟨_, Cv.refl _, .inl rfl, .tup [.agg [.clo 99 0 (fun _ => default), .clo 97 0 (fun _ => default), .clo 98 0 (fun _ => default), .i 2], .one (.b true)], by kernel_rfl, tve_eq rfl⟩
theorem okfamilies3  : CallOk Try.prog (cfamilies3 ).1 (cfamilies3 ).2.1 (cfamilies3 ).2.2 := callOk_pure (fun _ _ => by kernel_rfl) fun _ => pfamilies3  
def cfamiliesN (k : Int) : FuncId × List Av × Ef := (87, [.one (.i k)], .val [] (.tup [.agg [.val .nilFunc, .val .nilFunc, .val .nilFunc, .i k], .one (.b false)]))
set_option maxRecDepth 100000 in
theorem pfamiliesN (k : Int) (k1 : ¬ k = 1) (k2 : ¬ k = 2) (k3 : ¬ k = 3) : Pure Try.prog 87 (cfamiliesN k).2.1 (.tup [.agg [.val .nilFunc, .val .nilFunc, .val .nilFunc, .i k], .one (.b false)]) := by
  refine pure_of_awF Try.func87 rfl (by kernel_rfl) (by kernel_rfl) fun W0 M0 => ?_
  refine aw_seq ?_
  refine aw_region eqok [] [] [] [0, 2] [2] [] ⟨[(0, tI k), (2, tP 2 0)], [(2, .cells [.val .nilFunc, .val .nilFunc, .val .nilFunc, .i 0] 153)]⟩ .nil (by kernel_rfl) .nil ?_
  refine ath_n ?_
  refine aw_seq ?_
  refine aw_seq ?_
  refine aw_region eqok [] [] [] [0, 2, 4] [2] [] ⟨[(0, tI k), (2, tP 2 0), (4, tI k)], [(2, .cells [.val .nilFunc, .val .nilFunc, .val .nilFunc, .i 0] 153)]⟩ .nil (by kernel_rfl) .nil ?_
  refine ath_n ?_
  refine aw_block ?_
  refine aw_seq ?_
  refine aw_region eqok [] [] [] [0, 2, 4, 5] [2] [] ⟨[(0, tI k), (2, tP 2 0), (4, tI k), (5, tB (decide ((k : Int) = 1)))], [(2, .cells [.val .nilFunc, .val .nilFunc, .val .nilFunc, .i 0] 153)]⟩ .nil (by kernel_rfl) .nil ?_
  refine ath_n ?_
  refine aw_cond (decide ((k : Int) = 1)) (by kernel_rfl) (fun h => absurd ((decide_eq_false k1).symm.trans h) (by decide)) (fun _ => ?_)
  refine aw_seq ?_
  refine aw_region eqok [] [] [] [0, 2, 4, 8] [2] [] ⟨[(0, tI k), (2, tP 2 0), (4, tI k), (8, tB (decide ((k : Int) = 2)))], [(2, .cells [.val .nilFunc, .val .nilFunc, .val .nilFunc, .i 0] 153)]⟩ .nil (by kernel_rfl) .nil ?_
  refine ath_n ?_
  refine aw_cond (decide ((k : Int) = 2)) (by kernel_rfl) (fun h => absurd ((decide_eq_false k2).symm.trans h) (by decide)) (fun _ => ?_)
  refine aw_seq ?_
  refine aw_region eqok [] [] [] [0, 2, 11] [2] [] ⟨[(0, tI k), (2, tP 2 0), (11, tB (decide ((k : Int) = 3)))], [(2, .cells [.val .nilFunc, .val .nilFunc, .val .nilFunc, .i 0] 153)]⟩ .nil (by kernel_rfl) .nil ?_
  refine ath_n ?_
  refine aw_cond (decide ((k : Int) = 3)) (by kernel_rfl) (fun h => absurd ((decide_eq_false k3).symm.trans h) (by decide)) (fun _ => ?_)
  refine aw_skip ?_
  refine abl_n ?_
  refine ath_n ?_
  refine aw_seq ?_
  refine aw_region eqok [] [] [] [2, 3] [2] [] ⟨[(2, tP 2 0), (3, tB false)], [(2, .cells [.val .nilFunc, .val .nilFunc, .val .nilFunc, .i k] 153)]⟩ .nil (by kernel_rfl) .nil ?_
  refine ath_n ?_
  refine aw_ret ?_
  exact ⟨_, Cv.refl _, .inl rfl, .tup [.agg [.val .nilFunc, .val .nilFunc, .val .nilFunc, .i k], .one (.b false)], by kernel_rfl, tve_eq rfl⟩
theorem okfamiliesN (k : Int) (k1 : ¬ k = 1) (k2 : ¬ k = 2) (k3 : ¬ k = 3) : CallOk Try.prog (cfamiliesN k).1 (cfamiliesN k).2.1 (cfamiliesN k).2.2 := callOk_pure (fun _ _ => by kernel_rfl) fun _ => pfamiliesN k k1 k2 k3
def wof1_0 (a0 : TPoint) (a1 : TPoint) : Bool := bif FvecRight a0 then FvecRight a1 else false
def wof1_1 (a0 : TPoint) (a1 : TPoint) (a2 : TPoint) : Bool := bif wof1_0 a0 a1 then FvecRight a2 else false
def wof1_2 (a0 : TPoint) (a1 : TPoint) (a2 : TPoint) : Bool := bif wof1_1 a0 a1 a2 then Fedgelone (TEdge.mk 1 a0 a1 a2) else false
def cof1 (a0 : TPoint) (a1 : TPoint) (a2 : TPoint) : FuncId × List Av × Ef := (64, [.agg [.i 1, .i a0.X, .i a0.Y, .i a1.X, .i a1.Y, .i a2.X, .i a2.Y]], .val [] (.tup [.agg [.clo 93 0 (fun _ => default), .clo 94 0 (fun _ => default), .clo 95 0 (fun _ => default), .i 1], .one (.b (wof1_2 a0 a1 a2))]))
set_option maxRecDepth 100000 in
theorem pof1 (a0 : TPoint) (a1 : TPoint) (a2 : TPoint) : Pure Try.prog 64 (cof1 a0 a1 a2).2.1 (.tup [.agg [.clo 93 0 (fun _ => default), .clo 94 0 (fun _ => default), .clo 95 0 (fun _ => default), .i 1], .one (.b (wof1_2 a0 a1 a2))]) := by
  refine pure_of_awF Try.func64 rfl (by kernel_rfl) (by kernel_rfl) fun W0 M0 => ?_
  refine aw_seq ?_
  refine aw_region eqok [] [] [] [1, 2] [1, 2] [] ⟨[(1, tP 1 0), (2, tP 2 0)], [(1, .cells [.i 1, .i a0.X, .i a0.Y, .i a1.X, .i a1.Y, .i a2.X, .i a2.Y] 33), (2, .cells [.val .nilFunc, .val .nilFunc, .val .nilFunc, .i 0] 153)]⟩ .nil (by kernel_rfl) .nil ?_
  refine ath_n ?_
  refine aw_seq ?_
  refine aw_region eqok [] [] [(9, cfamilies1)] [1, 2, 4, 5] [1, 2, 4] [Same (cfamilies1).2.1] ⟨[(1, tP 1 0), (2, tP 2 0), (4, tP 4 0), (5, tB true)], [(1, .cells [.i 1, .i a0.X, .i a0.Y, .i a1.X, .i a1.Y, .i a2.X, .i a2.Y] 33), (2, .cells [.val .nilFunc, .val .nilFunc, .val .nilFunc, .i 0] 153), (4, .cells [.clo 93 0 (fun _ => default), .clo 94 0 (fun _ => default), .clo 95 0 (fun _ => default), .i 1] 153)]⟩ (.cons (okfamilies1) .nil) (by kernel_rfl) (.cons rfl .nil) ?_
  refine ath_n ?_
  refine aw_seq ?_
  refine aw_draw mixed eqok [] [] [(17, cvecRight a0), (22, cvecRight a1), (27, cvecRight a2), (33, cedgelone (TEdge.mk 1 a0 a1 a2))] [2, 3] [2] [((true) = true) → ((true) = true), ((true) = true) → ((true) = true), ((true) = true) → (Same (cvecRight a0).2.1), (true) = true → ((true) = true), ((FvecRight a0) = true) → ((FvecRight a0) = true), ((FvecRight a0) = true) → ((FvecRight a0) = true), ((FvecRight a0) = true) → (Same (cvecRight a1).2.1), (FvecRight a0) = true → ((FvecRight a0) = true), ((wof1_0 a0 a1) = true) → ((wof1_0 a0 a1) = true), ((wof1_0 a0 a1) = true) → ((wof1_0 a0 a1) = true), ((wof1_0 a0 a1) = true) → (Same (cvecRight a2).2.1), (wof1_0 a0 a1) = true → ((wof1_0 a0 a1) = true), ((wof1_1 a0 a1 a2) = true) → ((wof1_1 a0 a1 a2) = true), ((wof1_1 a0 a1 a2) = true) → ((wof1_1 a0 a1 a2) = true), ((wof1_1 a0 a1 a2) = true) → ((wof1_1 a0 a1 a2) = true), ((wof1_1 a0 a1 a2) = true) → (Same (cedgelone (TEdge.mk 1 a0 a1 a2)).2.1), (wof1_1 a0 a1 a2) = true → ((wof1_1 a0 a1 a2) = true)] ⟨[(2, tP 2 0), (3, tB (wof1_2 a0 a1 a2))], [(2, .cells [.clo 93 0 (fun _ => default), .clo 94 0 (fun _ => default), .clo 95 0 (fun _ => default), .i 1] 153)]⟩ (.cons (okvecRight a0) (.cons (okvecRight a1) (.cons (okvecRight a2) (.cons (okedgelone (TEdge.mk 1 a0 a1 a2)) .nil)))) (by kernel_rfl) (by kernel_rfl) (.cons id (.cons id (.cons (fun _ => rfl) (.cons id (.cons id (.cons id (.cons (fun _ => rfl) (.cons id (.cons id (.cons id (.cons (fun _ => rfl) (.cons id (.cons id (.cons id (.cons id (.cons (fun _ => rfl) (.cons id .nil))))))))))))))))) ?_
  refine ath_n ?_
  refine aw_ret ?_
  exact ⟨_, Cv.refl _, .inl rfl, .tup [.agg [.clo 93 0 (fun _ => default), .clo 94 0 (fun _ => default), .clo 95 0 (fun _ => default), .i 1], .one (.b (wof1_2 a0 a1 a2))], by kernel_rfl, tve_eq rfl⟩
theorem okof1 (a0 : TPoint) (a1 : TPoint) (a2 : TPoint) : CallOk Try.prog (cof1 a0 a1 a2).1 (cof1 a0 a1 a2).2.1 (cof1 a0 a1 a2).2.2 := callOk_pure (fun _ _ => by kernel_rfl) fun _ => pof1 a0 a1 a2 
def wof2_0 (a0 : TPoint) (a1 : TPoint) : Bool := bif FvecRight a0 then FvecRight a1 else false
def wof2_1 (a0 : TPoint) (a1 : TPoint) (a2 : TPoint) : Bool := bif wof2_0 a0 a1 then FvecRight a2 else false
def wof2_2 (a0 : TPoint) (a1 : TPoint) (a2 : TPoint) : Bool := bif wof2_1 a0 a1 a2 then Fedgeleftwards (TEdge.mk 2 a0 a1 a2) else false
def cof2 (a0 : TPoint) (a1 : TPoint) (a2 : TPoint) : FuncId × List Av × Ef := (64, [.agg [.i 2, .i a0.X, .i a0.Y, .i a1.X, .i a1.Y, .i a2.X, .i a2.Y]], .val [] (.tup [.agg [.clo 96 0 (fun _ => default), .clo 97 0 (fun _ => default), .clo 98 0 (fun _ => default), .i 3], .one (.b (wof2_2 a0 a1 a2))]))
set_option maxRecDepth 100000 in
theorem pof2 (a0 : TPoint) (a1 : TPoint) (a2 : TPoint) : Pure Try.prog 64 (cof2 a0 a1 a2).2.1 (.tup [.agg [.clo 96 0 (fun _ => default), .clo 97 0 (fun _ => default), .clo 98 0 (fun _ => default), .i 3], .one (.b (wof2_2 a0 a1 a2))]) := by
  refine pure_of_awF Try.func64 rfl (by kernel_rfl) (by kernel_rfl) fun W0 M0 => ?_
  refine aw_seq ?_
  refine aw_region eqok [] [] [] [1, 2] [1, 2] [] ⟨[(1, tP 1 0), (2, tP 2 0)], [(1, .cells [.i 2, .i a0.X, .i a0.Y, .i a1.X, .i a1.Y, .i a2.X, .i a2.Y] 33), (2, .cells [.val .nilFunc, .val .nilFunc, .val .nilFunc, .i 0] 153)]⟩ .nil (by kernel_rfl) .nil ?_
  refine ath_n ?_
  refine aw_seq ?_
  refine aw_region eqok [] [] [(9, cfamilies2)] [1, 2, 4, 5] [1, 2, 4] [Same (cfamilies2).2.1] ⟨[(1, tP 1 0), (2, tP 2 0), (4, tP 4 0), (5, tB true)], [(1, .cells [.i 2, .i a0.X, .i a0.Y, .i a1.X, .i a1.Y, .i a2.X, .i a2.Y] 33), (2, .cells [.val .nilFunc, .val .nilFunc, .val .nilFunc, .i 0] 153), (4, .cells [.clo 96 0 (fun _ => default), .clo 97 0 (fun _ => default), .clo 98 0 (fun _ => default), .i 3] 153)]⟩ (.cons (okfamilies2) .nil) (by kernel_rfl) (.cons rfl .nil) ?_
  refine ath_n ?_
  refine aw_seq ?_
  refine aw_draw mixed eqok [] [] [(17, cvecRight a0), (22, cvecRight a1), (27, cvecRight a2), (33, cedgeleftwards (TEdge.mk 2 a0 a1 a2))] [2, 3] [2] [((true) = true) → ((true) = true), ((true) = true) → ((true) = true), ((true) = true) → (Same (cvecRight a0).2.1), (true) = true → ((true) = true), ((FvecRight a0) = true) → ((FvecRight a0) = true), ((FvecRight a0) = true) → ((FvecRight a0) = true), ((FvecRight a0) = true) → (Same (cvecRight a1).2.1), (FvecRight a0) = true → ((FvecRight a0) = true), ((wof2_0 a0 a1) = true) → ((wof2_0 a0 a1) = true), ((wof2_0 a0 a1) = true) → ((wof2_0 a0 a1) = true), ((wof2_0 a0 a1) = true) → (Same (cvecRight a2).2.1), (wof2_0 a0 a1) = true → ((wof2_0 a0 a1) = true), ((wof2_1 a0 a1 a2) = true) → ((wof2_1 a0 a1 a2) = true), ((wof2_1 a0 a1 a2) = true) → ((wof2_1 a0 a1 a2) = true), ((wof2_1 a0 a1 a2) = true) → ((wof2_1 a0 a1 a2) = true), ((wof2_1 a0 a1 a2) = true) → (Same (cedgeleftwards (TEdge.mk 2 a0 a1 a2)).2.1), (wof2_1 a0 a1 a2) = true → ((wof2_1 a0 a1 a2) = true)] ⟨[(2, tP 2 0), (3, tB (wof2_2 a0 a1 a2))], [(2, .cells [.clo 96 0 (fun _ => default), .clo 97 0 (fun _ => default), .clo 98 0 (fun _ => default), .i 3] 153)]⟩ (.cons (okvecRight a0) (.cons (okvecRight a1) (.cons (okvecRight a2) (.cons (okedgeleftwards (TEdge.mk 2 a0 a1 a2)) .nil)))) (by kernel_rfl) (by kernel_rfl) (.cons id (.cons id (.cons (fun _ => rfl) (.cons id (.cons id (.cons id (.cons (fun _ => rfl) (.cons id (.cons id (.cons id (.cons (fun _ => rfl) (.cons id (.cons id (.cons id (.cons id (.cons (fun _ => rfl) (.cons id .nil))))))))))))))))) ?_
  refine ath_n ?_
  refine aw_ret ?_
  exact ⟨_, Cv.refl _, .inl rfl, .tup [.agg [.clo 96 0 (fun _ => default), .clo 97 0 (fun _ => default), .clo 98 0 (fun _ => default), .i 3], .one (.b (wof2_2 a0 a1 a2))], by kernel_rfl, tve_eq rfl⟩
theorem okof2 (a0 : TPoint) (a1 : TPoint) (a2 : TPoint) : CallOk Try.prog (cof2 a0 a1 a2).1 (cof2 a0 a1 a2).2.1 (cof2 a0 a1 a2).2.2 := callOk_pure (fun _ _ => by kernel_rfl) fun _ => pof2 a0 a1 a2 
def wof3_0 (a0 : TPoint) (a1 : TPoint) : Bool := bif FvecRight a0 then FvecRight a1 else false
def wof3_1 (a0 : TPoint) (a1 : TPoint) (a2 : TPoint) : Bool := bif wof3_0 a0 a1 then FvecRight a2 else false
def wof3_2 (a0 : TPoint) (a1 : TPoint) (a2 : TPoint) : Bool := bif wof3_1 a0 a1 a2 then Fedgerightwards (TEdge.mk 3 a0 a1 a2) else false
def cof3 (a0 : TPoint) (a1 : TPoint) (a2 : TPoint) : FuncId × List Av × Ef := (64, [.agg [.i 3, .i a0.X, .i a0.Y, .i a1.X, .i a1.Y, .i a2.X, .i a2.Y]], .val [] (.tup [.agg [.clo 99 0 (fun _ => default), .clo 97 0 (fun _ => default), .clo 98 0 (fun _ => default), .i 2], .one (.b (wof3_2 a0 a1 a2))]))
set_option maxRecDepth 100000 in
theorem pof3 (a0 : TPoint) (a1 : TPoint) (a2 : TPoint) : Pure Try.prog 64 (cof3 a0 a1 a2).2.1 (.tup [.agg [.clo 99 0 (fun _ => default), .clo 97 0 (fun _ => default), .clo 98 0 (fun _ => default), .i 2], .one (.b (wof3_2 a0 a1 a2))]) := by
  refine pure_of_awF Try.func64 rfl (by kernel_rfl) (by kernel_rfl) fun W0 M0 => ?_
  refine aw_seq ?_
  refine aw_region eqok [] [] [] [1, 2] [1, 2] [] ⟨[(1, tP 1 0), (2, tP 2 0)], [(1, .cells [.i 3, .i a0.X, .i a0.Y, .i a1.X, .i a1.Y, .i a2.X, .i a2.Y] 33), (2, .cells [.val .nilFunc, .val .nilFunc, .val .nilFunc, .i 0] 153)]⟩ .nil (by kernel_rfl) .nil ?_
  refine ath_n ?_
  refine aw_seq ?_
  refine aw_region eqok [] [] [(9, cfamilies3)] [1, 2, 4, 5] [1, 2, 4] [Same (cfamilies3).2.1] ⟨[(1, tP 1 0), (2, tP 2 0), (4, tP 4 0), (5, tB true)], [(1, .cells [.i 3, .i a0.X, .i a0.Y, .i a1.X, .i a1.Y, .i a2.X, .i a2.Y] 33), (2, .cells [.val .nilFunc, .val .nilFunc, .val .nilFunc, .i 0] 153), (4, .cells [.clo 99 0 (fun _ => default), .clo 97 0 (fun _ => default), .clo 98 0 (fun _ => default), .i 2] 153)]⟩ (.cons (okfamilies3) .nil) (by kernel_rfl) (.cons rfl .nil) ?_
  refine ath_n ?_
  refine aw_seq ?_
  refine aw_draw mixed eqok [] [] [(17, cvecRight a0), (22, cvecRight a1), (27, cvecRight a2), (33, cedgerightwards (TEdge.mk 3 a0 a1 a2))] [2, 3] [2] [((true) = true) → ((true) = true), ((true) = true) → ((true) = true), ((true) = true) → (Same (cvecRight a0).2.1), (true) = true → ((true) = true), ((FvecRight a0) = true) → ((FvecRight a0) = true), ((FvecRight a0) = true) → ((FvecRight a0) = true), ((FvecRight a0) = true) → (Same (cvecRight a1).2.1), (FvecRight a0) = true → ((FvecRight a0) = true), ((wof3_0 a0 a1) = true) → ((wof3_0 a0 a1) = true), ((wof3_0 a0 a1) = true) → ((wof3_0 a0 a1) = true), ((wof3_0 a0 a1) = true) → (Same (cvecRight a2).2.1), (wof3_0 a0 a1) = true → ((wof3_0 a0 a1) = true), ((wof3_1 a0 a1 a2) = true) → ((wof3_1 a0 a1 a2) = true), ((wof3_1 a0 a1 a2) = true) → ((wof3_1 a0 a1 a2) = true), ((wof3_1 a0 a1 a2) = true) → ((wof3_1 a0 a1 a2) = true), ((wof3_1 a0 a1 a2) = true) → (Same (cedgerightwards (TEdge.mk 3 a0 a1 a2)).2.1), (wof3_1 a0 a1 a2) = true → ((wof3_1 a0 a1 a2) = true)] ⟨[(2, tP 2 0), (3, tB (wof3_2 a0 a1 a2))], [(2, .cells [.clo 99 0 (fun _ => default), .clo 97 0 (fun _ => default), .clo 98 0 (fun _ => default), .i 2] 153)]⟩ (.cons (okvecRight a0) (.cons (okvecRight a1) (.cons (okvecRight a2) (.cons (okedgerightwards (TEdge.mk 3 a0 a1 a2)) .nil)))) (by kernel_rfl) (by kernel_rfl) (.cons id (.cons id (.cons (fun _ => rfl) (.cons id (.cons id (.cons id (.cons (fun _ => rfl) (.cons id (.cons id (.cons id (.cons (fun _ => rfl) (.cons id (.cons id (.cons id (.cons id (.cons (fun _ => rfl) (.cons id .nil))))))))))))))))) ?_
  refine ath_n ?_
  refine aw_ret ?_
  exact ⟨_, Cv.refl _, .inl rfl, .tup [.agg [.clo 99 0 (fun _ => default), .clo 97 0 (fun _ => default), .clo 98 0 (fun _ => default), .i 2], .one (.b (wof3_2 a0 a1 a2))], by kernel_rfl, tve_eq rfl⟩
theorem okof3 (a0 : TPoint) (a1 : TPoint) (a2 : TPoint) : CallOk Try.prog (cof3 a0 a1 a2).1 (cof3 a0 a1 a2).2.1 (cof3 a0 a1 a2).2.2 := callOk_pure (fun _ _ => by kernel_rfl) fun _ => pof3 a0 a1 a2 
def cofN (e : TEdge) : FuncId × List Av × Ef := (64, [.agg (TEdge.c e)], .val [] (.tup [.agg [.val .nilFunc, .val .nilFunc, .val .nilFunc, .i e.Kind], .one (.b false)]))
set_option maxRecDepth 100000 in
theorem pofN (e : TEdge) (k1 : ¬ e.Kind = 1) (k2 : ¬ e.Kind = 2) (k3 : ¬ e.Kind = 3) : Pure Try.prog 64 (cofN e).2.1 (.tup [.agg [.val .nilFunc, .val .nilFunc, .val .nilFunc, .i e.Kind], .one (.b false)]) := by
  refine pure_of_awF Try.func64 rfl (by kernel_rfl) (by kernel_rfl) fun W0 M0 => ?_
  refine aw_seq ?_
  refine aw_region eqok [] [] [] [1, 2] [1, 2] [] ⟨[(1, tP 1 0), (2, tP 2 0)], [(1, .cells (TEdge.c e) 33), (2, .cells [.val .nilFunc, .val .nilFunc, .val .nilFunc, .i 0] 153)]⟩ .nil (by kernel_rfl) .nil ?_
  refine ath_n ?_
  refine aw_seq ?_
  refine aw_region eqok [] [] [(9, cfamiliesN e.Kind)] [1, 2, 4, 5] [1, 2, 4] [Same (cfamiliesN e.Kind).2.1] ⟨[(1, tP 1 0), (2, tP 2 0), (4, tP 4 0), (5, tB false)], [(1, .cells (TEdge.c e) 33), (2, .cells [.val .nilFunc, .val .nilFunc, .val .nilFunc, .i 0] 153), (4, .cells [.val .nilFunc, .val .nilFunc, .val .nilFunc, .i e.Kind] 153)]⟩ (.cons (okfamiliesN e.Kind k1 k2 k3) .nil) (by kernel_rfl) (.cons rfl .nil) ?_
  refine ath_n ?_
  refine aw_seq ?_
  refine aw_draw mixed eqok [] [] [(17, cvecRight e.A), (22, cvecRight e.B), (27, cvecRight e.C)] [2, 3] [2] [((false) = true) → ((false) = true), ((false) = true) → ((false) = true), ((false) = true) → (Same (cvecRight e.A).2.1), (false) = true → ((false) = true), ((false) = true) → ((false) = true), ((false) = true) → ((false) = true), ((false) = true) → (Same (cvecRight e.B).2.1), (false) = true → ((false) = true), ((false) = true) → ((false) = true), ((false) = true) → ((false) = true), ((false) = true) → (Same (cvecRight e.C).2.1), (false) = true → ((false) = true), ((false) = true) → ((false) = true), ¬ ((false) = true), (false) = true → ((false) = true)] ⟨[(2, tP 2 0), (3, tB false)], [(2, .cells [.val .nilFunc, .val .nilFunc, .val .nilFunc, .i e.Kind] 153)]⟩ (.cons (okvecRight e.A) (.cons (okvecRight e.B) (.cons (okvecRight e.C) .nil))) (by kernel_rfl) (by kernel_rfl) (.cons id (.cons id (.cons (fun _ => rfl) (.cons id (.cons id (.cons id (.cons (fun _ => rfl) (.cons id (.cons id (.cons id (.cons (fun _ => rfl) (.cons id (.cons id (.cons (by simp) (.cons id .nil))))))))))))))) ?_
  refine ath_n ?_
  refine aw_ret ?_
  exact ⟨_, Cv.refl _, .inl rfl, .tup [.agg [.val .nilFunc, .val .nilFunc, .val .nilFunc, .i e.Kind], .one (.b false)], by kernel_rfl, tve_eq rfl⟩
theorem okofN (e : TEdge) (k1 : ¬ e.Kind = 1) (k2 : ¬ e.Kind = 2) (k3 : ¬ e.Kind = 3) : CallOk Try.prog (cofN e).1 (cofN e).2.1 (cofN e).2.2 := callOk_pure (fun _ _ => by kernel_rfl) fun _ => pofN e k1 k2 k3
def wCheck1_0 (a0 : TPoint) (a1 : TPoint) (a2 : TPoint) : Bool := !(bif bif FvecRight a0 then FvecRight a1 else false then FvecRight a2 else false)
def FCheck1 (a0 : TPoint) (a1 : TPoint) (a2 : TPoint) : Int := bif wof1_2 a0 a1 a2 then (0) else (bif wCheck1_0 a0 a1 a2 then (10) else (11))
def cCheck1 (a0 : TPoint) (a1 : TPoint) (a2 : TPoint) : FuncId × List Av × Ef := (42, [.agg [.i 1, .i a0.X, .i a0.Y, .i a1.X, .i a1.Y, .i a2.X, .i a2.Y]], .val [] (.av (.one (.i (FCheck1 a0 a1 a2)))))
set_option maxRecDepth 100000 in
theorem pCheck1 (a0 : TPoint) (a1 : TPoint) (a2 : TPoint) : Pure Try.prog 42 (cCheck1 a0 a1 a2).2.1 (.av (.one (.i (FCheck1 a0 a1 a2)))) := by
  refine pure_of_awF Try.func42 rfl (by kernel_rfl) (by kernel_rfl) fun W0 M0 => ?_
  refine aw_seq ?_
  refine aw_region eqok [] [] [] [1] [1] [] ⟨[(1, tP 1 0)], [(1, .cells [.i 1, .i a0.X, .i a0.Y, .i a1.X, .i a1.Y, .i a2.X, .i a2.Y] 33)]⟩ .nil (by kernel_rfl) .nil ?_
  refine ath_n ?_
  refine aw_seq ?_
  refine aw_seq ?_
  refine aw_region eqok [] [] [(7, cof1 a0 a1 a2)] [1, 4] [1] [Same (cof1 a0 a1 a2).2.1] ⟨[(1, tP 1 0), (4, tB (wof1_2 a0 a1 a2))], [(1, .cells [.i 1, .i a0.X, .i a0.Y, .i a1.X, .i a1.Y, .i a2.X, .i a2.Y] 33)]⟩ (.cons (okof1 a0 a1 a2) .nil) (by kernel_rfl) (.cons rfl .nil) ?_
  refine ath_n ?_
  refine aw_block ?_
  refine aw_seq ?_
  refine aw_region eqok [] [] [] [1, 10] [1] [] ⟨[(1, tP 1 0), (10, tB (wof1_2 a0 a1 a2))], [(1, .cells [.i 1, .i a0.X, .i a0.Y, .i a1.X, .i a1.Y, .i a2.X, .i a2.Y] 33)]⟩ .nil (by kernel_rfl) .nil ?_
  refine ath_n ?_
  refine aw_cond (wof1_2 a0 a1 a2) (by kernel_rfl) (fun h1 => ?_) (fun h1 => ?_)
  · refine aw_seq ?_
    refine aw_region eqok [] [] [] [2] [] [] ⟨[(2, tI 0)], []⟩ .nil (by kernel_rfl) .nil ?_
    refine ath_n ?_
    refine aw_ret ?_
    refine abl_r ?_
    refine ath_r ?_
    exact ⟨_, Cv.refl _, .inl rfl, .av (.one (.i 0)), by kernel_rfl, tve_eq (by first | (simp only [FCheck1, h1, cond_true, cond_false]; done) | (simp only [FCheck1, h1, cond_true, cond_false]; rfl))⟩
  · refine aw_seq ?_
    refine aw_region eqok [] [] [(24, cvecRight a0), (28, cvecRight a1), (33, cvecRight a2)] [12] [] [((true) = true) → ((true) = true), ((true) = true) → ((true) = true), (true) = true → ((true) = true), ((true) = true) → ((true) = true), ((true) = true) → ((true) = true), ((true) = true) → (Same (cvecRight a0).2.1), ((true) = true) → ((true) = true), (((true) = true) ∧ (FvecRight a0) = true) → (((true) = true) ∧ (FvecRight a0) = true), (((true) = true) ∧ (FvecRight a0) = true) → (((true) = true) ∧ (FvecRight a0) = true), (((true) = true) ∧ (FvecRight a0) = true) → (Same (cvecRight a1).2.1), ((true) = true) → ((true) = true), ((true) = true) → ((FvecRight a0) = true → (((true) = true) ∧ (FvecRight a0) = true)), ((true) = true) → ((true) = true), (((true) = true) ∧ (bif FvecRight a0 then FvecRight a1 else false) = true) → (((true) = true) ∧ (bif FvecRight a0 then FvecRight a1 else false) = true), (((true) = true) ∧ (bif FvecRight a0 then FvecRight a1 else false) = true) → (((true) = true) ∧ (bif FvecRight a0 then FvecRight a1 else false) = true), (((true) = true) ∧ (bif FvecRight a0 then FvecRight a1 else false) = true) → (Same (cvecRight a2).2.1), ((true) = true) → ((true) = true), ((true) = true) → ((bif FvecRight a0 then FvecRight a1 else false) = true → (((true) = true) ∧ (bif FvecRight a0 then FvecRight a1 else false) = true)), ((true) = true) → ((true) = true), (true) = true → ((true) = true)] ⟨[(12, tB (wCheck1_0 a0 a1 a2))], []⟩ (.cons (okvecRight a0) (.cons (okvecRight a1) (.cons (okvecRight a2) .nil))) (by kernel_rfl) (.cons id (.cons id (.cons id (.cons id (.cons id (.cons (fun _ => rfl) (.cons id (.cons id (.cons id (.cons (fun _ => rfl) (.cons id (.cons (by intros; first | assumption | exact ⟨by assumption, by assumption⟩ | simp_all) (.cons id (.cons id (.cons id (.cons (fun _ => rfl) (.cons id (.cons (by intros; first | assumption | exact ⟨by assumption, by assumption⟩ | simp_all) (.cons id (.cons id .nil)))))))))))))))))))) ?_
    refine ath_n ?_
    refine aw_cond (wCheck1_0 a0 a1 a2) (by kernel_rfl) (fun h2 => ?_) (fun h2 => ?_)
    · refine aw_seq ?_
      refine aw_region eqok [] [] [] [2] [] [] ⟨[(2, tI 10)], []⟩ .nil (by kernel_rfl) .nil ?_
      refine ath_n ?_
      refine aw_ret ?_
      refine abl_r ?_
      refine ath_r ?_
      exact ⟨_, Cv.refl _, .inl rfl, .av (.one (.i 10)), by kernel_rfl, tve_eq (by first | (simp only [FCheck1, h1, h2, cond_true, cond_false]; done) | (simp only [FCheck1, h1, h2, cond_true, cond_false]; rfl))⟩
    · refine aw_skip ?_
      refine abl_n ?_
      refine ath_n ?_
      refine aw_seq ?_
      refine aw_region eqok [] [] [] [2] [] [] ⟨[(2, tI 11)], []⟩ .nil (by kernel_rfl) .nil ?_
      refine ath_n ?_
      refine aw_ret ?_
      exact ⟨_, Cv.refl _, .inl rfl, .av (.one (.i 11)), by kernel_rfl, tve_eq (by first | (simp only [FCheck1, h1, h2, cond_true, cond_false]; done) | (simp only [FCheck1, h1, h2, cond_true, cond_false]; rfl))⟩
theorem okCheck1 (a0 : TPoint) (a1 : TPoint) (a2 : TPoint) : CallOk Try.prog (cCheck1 a0 a1 a2).1 (cCheck1 a0 a1 a2).2.1 (cCheck1 a0 a1 a2).2.2 := callOk_pure (fun _ _ => by kernel_rfl) fun _ => pCheck1 a0 a1 a2 
def wCheck2_0 (a0 : TPoint) (a1 : TPoint) (a2 : TPoint) : Bool := !(bif bif FvecRight a0 then FvecRight a1 else false then FvecRight a2 else false)
def FCheck2 (a0 : TPoint) (a1 : TPoint) (a2 : TPoint) : Int := bif wof2_2 a0 a1 a2 then (0) else (bif wCheck2_0 a0 a1 a2 then (10) else (11))
def cCheck2 (a0 : TPoint) (a1 : TPoint) (a2 : TPoint) : FuncId × List Av × Ef := (42, [.agg [.i 2, .i a0.X, .i a0.Y, .i a1.X, .i a1.Y, .i a2.X, .i a2.Y]], .val [] (.av (.one (.i (FCheck2 a0 a1 a2)))))
set_option maxRecDepth 100000 in
theorem pCheck2 (a0 : TPoint) (a1 : TPoint) (a2 : TPoint) : Pure Try.prog 42 (cCheck2 a0 a1 a2).2.1 (.av (.one (.i (FCheck2 a0 a1 a2)))) := by
  refine pure_of_awF Try.func42 rfl (by kernel_rfl) (by kernel_rfl) fun W0 M0 => ?_
  refine aw_seq ?_
  refine aw_region eqok [] [] [] [1] [1] [] ⟨[(1, tP 1 0)], [(1, .cells [.i 2, .i a0.X, .i a0.Y, .i a1.X, .i a1.Y, .i a2.X, .i a2.Y] 33)]⟩ .nil (by kernel_rfl) .nil ?_
  refine ath_n ?_
  refine aw_seq ?_
  refine aw_seq ?_
  refine aw_region eqok [] [] [(7, cof2 a0 a1 a2)] [1, 4] [1] [Same (cof2 a0 a1 a2).2.1] ⟨[(1, tP 1 0), (4, tB (wof2_2 a0 a1 a2))], [(1, .cells [.i 2, .i a0.X, .i a0.Y, .i a1.X, .i a1.Y, .i a2.X, .i a2.Y] 33)]⟩ (.cons (okof2 a0 a1 a2) .nil) (by kernel_rfl) (.cons rfl .nil) ?_
  refine ath_n ?_
  refine aw_block ?_
  refine aw_seq ?_
  refine aw_region eqok [] [] [] [1, 10] [1] [] ⟨[(1, tP 1 0), (10, tB (wof2_2 a0 a1 a2))], [(1, .cells [.i 2, .i a0.X, .i a0.Y, .i a1.X, .i a1.Y, .i a2.X, .i a2.Y] 33)]⟩ .nil (by kernel_rfl) .nil ?_
  refine ath_n ?_
  refine aw_cond (wof2_2 a0 a1 a2) (by kernel_rfl) (fun h1 => ?_) (fun h1 => ?_)
  · refine aw_seq ?_
    refine aw_region eqok [] [] [] [2] [] [] ⟨[(2, tI 0)], []⟩ .nil (by kernel_rfl) .nil ?_
    refine ath_n ?_
    refine aw_ret ?_
    refine abl_r ?_
    refine ath_r ?_
    exact ⟨_, Cv.refl _, .inl rfl, .av (.one (.i 0)), by kernel_rfl, tve_eq (by first | (simp only [FCheck2, h1, cond_true, cond_false]; done) | (simp only [FCheck2, h1, cond_true, cond_false]; rfl))⟩
  · refine aw_seq ?_
    refine aw_region eqok [] [] [(24, cvecRight a0), (28, cvecRight a1), (33, cvecRight a2)] [12] [] [((true) = true) → ((true) = true), ((true) = true) → ((true) = true), (true) = true → ((true) = true), ((true) = true) → ((true) = true), ((true) = true) → ((true) = true), ((true) = true) → (Same (cvecRight a0).2.1), ((true) = true) → ((true) = true), (((true) = true) ∧ (FvecRight a0) = true) → (((true) = true) ∧ (FvecRight a0) = true), (((true) = true) ∧ (FvecRight a0) = true) → (((true) = true) ∧ (FvecRight a0) = true), (((true) = true) ∧ (FvecRight a0) = true) → (Same (cvecRight a1).2.1), ((true) = true) → ((true) = true), ((true) = true) → ((FvecRight a0) = true → (((true) = true) ∧ (FvecRight a0) = true)), ((true) = true) → ((true) = true), (((true) = true) ∧ (bif FvecRight a0 then FvecRight a1 else false) = true) → (((true) = true) ∧ (bif FvecRight a0 then FvecRight a1 else false) = true), (((true) = true) ∧ (bif FvecRight a0 then FvecRight a1 else false) = true) → (((true) = true) ∧ (bif FvecRight a0 then FvecRight a1 else false) = true), (((true) = true) ∧ (bif FvecRight a0 then FvecRight a1 else false) = true) → (Same (cvecRight a2).2.1), ((true) = true) → ((true) = true), ((true) = true) → ((bif FvecRight a0 then FvecRight a1 else false) = true → (((true) = true) ∧ (bif FvecRight a0 then FvecRight a1 else false) = true)), ((true) = true) → ((true) = true), (true) = true → ((true) = true)] ⟨[(12, tB (wCheck2_0 a0 a1 a2))], []⟩ (.cons (okvecRight a0) (.cons (okvecRight a1) (.cons (okvecRight a2) .nil))) (by kernel_rfl) (.cons id (.cons id (.cons id (.cons id (.cons id (.cons (fun _ => rfl) (.cons id (.cons id (.cons id (.cons (fun _ => rfl) (.cons id (.cons (by intros; first | assumption | exact ⟨by assumption, by assumption⟩ | simp_all) (.cons id (.cons id (.cons id (.cons (fun _ => rfl) (.cons id (.cons (by intros; first | assumption | exact ⟨by assumption, by assumption⟩ | simp_all) (.cons id (.cons id .nil)))))))))))))))))))) ?_
    refine ath_n ?_
    refine aw_cond (wCheck2_0 a0 a1 a2) (by kernel_rfl) (fun h2 => ?_) (fun h2 => ?_)
    · refine aw_seq ?_
      refine aw_region eqok [] [] [] [2] [] [] ⟨[(2, tI 10)], []⟩ .nil (by kernel_rfl) .nil ?_
      refine ath_n ?_
      refine aw_ret ?_
      refine abl_r ?_
      refine ath_r ?_
      exact ⟨_, Cv.refl _, .inl rfl, .av (.one (.i 10)), by kernel_rfl, tve_eq (by first | (simp only [FCheck2, h1, h2, cond_true, cond_false]; done) | (simp only [FCheck2, h1, h2, cond_true, cond_false]; rfl))⟩
    · refine aw_skip ?_
      refine abl_n ?_
      refine ath_n ?_
      refine aw_seq ?_
      refine aw_region eqok [] [] [] [2] [] [] ⟨[(2, tI 11)], []⟩ .nil (by kernel_rfl) .nil ?_
      refine ath_n ?_
      refine aw_ret ?_
      exact ⟨_, Cv.refl _, .inl rfl, .av (.one (.i 11)), by kernel_rfl, tve_eq (by first | (simp only [FCheck2, h1, h2, cond_true, cond_false]; done) | (simp only [FCheck2, h1, h2, cond_true, cond_false]; rfl))⟩
theorem okCheck2 (a0 : TPoint) (a1 : TPoint) (a2 : TPoint) : CallOk Try.prog (cCheck2 a0 a1 a2).1 (cCheck2 a0 a1 a2).2.1 (cCheck2 a0 a1 a2).2.2 := callOk_pure (fun _ _ => by kernel_rfl) fun _ => pCheck2 a0 a1 a2 
def wCheck3_0 (a0 : TPoint) (a1 : TPoint) (a2 : TPoint) : Bool := !(bif bif FvecRight a0 then FvecRight a1 else false then FvecRight a2 else false)
def FCheck3 (a0 : TPoint) (a1 : TPoint) (a2 : TPoint) : Int := bif wof3_2 a0 a1 a2 then (0) else (bif wCheck3_0 a0 a1 a2 then (10) else (11))
def cCheck3 (a0 : TPoint) (a1 : TPoint) (a2 : TPoint) : FuncId × List Av × Ef := (42, [.agg [.i 3, .i a0.X, .i a0.Y, .i a1.X, .i a1.Y, .i a2.X, .i a2.Y]], .val [] (.av (.one (.i (FCheck3 a0 a1 a2)))))
set_option maxRecDepth 100000 in
theorem pCheck3 (a0 : TPoint) (a1 : TPoint) (a2 : TPoint) : Pure Try.prog 42 (cCheck3 a0 a1 a2).2.1 (.av (.one (.i (FCheck3 a0 a1 a2)))) := by
  refine pure_of_awF Try.func42 rfl (by kernel_rfl) (by kernel_rfl) fun W0 M0 => ?_
  refine aw_seq ?_
  refine aw_region eqok [] [] [] [1] [1] [] ⟨[(1, tP 1 0)], [(1, .cells [.i 3, .i a0.X, .i a0.Y, .i a1.X, .i a1.Y, .i a2.X, .i a2.Y] 33)]⟩ .nil (by kernel_rfl) .nil ?_
  refine ath_n ?_
  refine aw_seq ?_
  refine aw_seq ?_
  refine aw_region eqok [] [] [(7, cof3 a0 a1 a2)] [1, 4] [1] [Same (cof3 a0 a1 a2).2.1] ⟨[(1, tP 1 0), (4, tB (wof3_2 a0 a1 a2))], [(1, .cells [.i 3, .i a0.X, .i a0.Y, .i a1.X, .i a1.Y, .i a2.X, .i a2.Y] 33)]⟩ (.cons (okof3 a0 a1 a2) .nil) (by kernel_rfl) (.cons rfl .nil) ?_
  refine ath_n ?_
  refine aw_block ?_
  refine aw_seq ?_
  refine aw_region eqok [] [] [] [1, 10] [1] [] ⟨[(1, tP 1 0), (10, tB (wof3_2 a0 a1 a2))], [(1, .cells [.i 3, .i a0.X, .i a0.Y, .i a1.X, .i a1.Y, .i a2.X, .i a2.Y] 33)]⟩ .nil (by kernel_rfl) .nil ?_
  refine ath_n ?_
  refine aw_cond (wof3_2 a0 a1 a2) (by kernel_rfl) (fun h1 => ?_) (fun h1 => ?_)
  · refine aw_seq ?_
    refine aw_region eqok [] [] [] [2] [] [] ⟨[(2, tI 0)], []⟩ .nil (by kernel_rfl) .nil ?_
    refine ath_n ?_
    refine aw_ret ?_
    refine abl_r ?_
    refine ath_r ?_
    exact ⟨_, Cv.refl _, .inl rfl, .av (.one (.i 0)), by kernel_rfl, tve_eq (by first | (simp only [FCheck3, h1, cond_true, cond_false]; done) | (simp only [FCheck3, h1, cond_true, cond_false]; rfl))⟩
  · refine aw_seq ?_
    refine aw_region eqok [] [] [(24, cvecRight a0), (28, cvecRight a1), (33, cvecRight a2)] [12] [] [((true) = true) → ((true) = true), ((true) = true) → ((true) = true), (true) = true → ((true) = true), ((true) = true) → ((true) = true), ((true) = true) → ((true) = true), ((true) = true) → (Same (cvecRight a0).2.1), ((true) = true) → ((true) = true), (((true) = true) ∧ (FvecRight a0) = true) → (((true) = true) ∧ (FvecRight a0) = true), (((true) = true) ∧ (FvecRight a0) = true) → (((true) = true) ∧ (FvecRight a0) = true), (((true) = true) ∧ (FvecRight a0) = true) → (Same (cvecRight a1).2.1), ((true) = true) → ((true) = true), ((true) = true) → ((FvecRight a0) = true → (((true) = true) ∧ (FvecRight a0) = true)), ((true) = true) → ((true) = true), (((true) = true) ∧ (bif FvecRight a0 then FvecRight a1 else false) = true) → (((true) = true) ∧ (bif FvecRight a0 then FvecRight a1 else false) = true), (((true) = true) ∧ (bif FvecRight a0 then FvecRight a1 else false) = true) → (((true) = true) ∧ (bif FvecRight a0 then FvecRight a1 else false) = true), (((true) = true) ∧ (bif FvecRight a0 then FvecRight a1 else false) = true) → (Same (cvecRight a2).2.1), ((true) = true) → ((true) = true), ((true) = true) → ((bif FvecRight a0 then FvecRight a1 else false) = true → (((true) = true) ∧ (bif FvecRight a0 then FvecRight a1 else false) = true)), ((true) = true) → ((true) = true), (true) = true → ((true) = true)] ⟨[(12, tB (wCheck3_0 a0 a1 a2))], []⟩ (.cons (okvecRight a0) (.cons (okvecRight a1) (.cons (okvecRight a2) .nil))) (by kernel_rfl) (.cons id (.cons id (.cons id (.cons id (.cons id (.cons (fun _ => rfl) (.cons id (.cons id (.cons id (.cons (fun _ => rfl) (.cons id (.cons (by intros; first | assumption | exact ⟨by assumption, by assumption⟩ | simp_all) (.cons id (.cons id (.cons id (.cons (fun _ => rfl) (.cons id (.cons (by intros; first | assumption | exact ⟨by assumption, by assumption⟩ | simp_all) (.cons id (.cons id .nil)))))))))))))))))))) ?_
    refine ath_n ?_
    refine aw_cond (wCheck3_0 a0 a1 a2) (by kernel_rfl) (fun h2 => ?_) (fun h2 => ?_)
    · refine aw_seq ?_
      refine aw_region eqok [] [] [] [2] [] [] ⟨[(2, tI 10)], []⟩ .nil (by kernel_rfl) .nil ?_
      refine ath_n ?_
      refine aw_ret ?_
      refine abl_r ?_
      refine ath_r ?_
      exact ⟨_, Cv.refl _, .inl rfl, .av (.one (.i 10)), by kernel_rfl, tve_eq (by first | (simp only [FCheck3, h1, h2, cond_true, cond_false]; done) | (simp only [FCheck3, h1, h2, cond_true, cond_false]; rfl))⟩
    · refine aw_skip ?_
      refine abl_n ?_
      refine ath_n ?_
      refine aw_seq ?_
      refine aw_region eqok [] [] [] [2] [] [] ⟨[(2, tI 11)], []⟩ .nil (by kernel_rfl) .nil ?_
      refine ath_n ?_
      refine aw_ret ?_
      exact ⟨_, Cv.refl _, .inl rfl, .av (.one (.i 11)), by kernel_rfl, tve_eq (by first | (simp only [FCheck3, h1, h2, cond_true, cond_false]; done) | (simp only [FCheck3, h1, h2, cond_true, cond_false]; rfl))⟩
theorem okCheck3 (a0 : TPoint) (a1 : TPoint) (a2 : TPoint) : CallOk Try.prog (cCheck3 a0 a1 a2).1 (cCheck3 a0 a1 a2).2.1 (cCheck3 a0 a1 a2).2.2 := callOk_pure (fun _ _ => by kernel_rfl) fun _ => pCheck3 a0 a1 a2 
def FCheckN (e : TEdge) : Int := bif bif bif decide ((1 : Int) ≤ e.Kind) then decide ((e.Kind : Int) ≤ 3) else false then !(bif bif FvecRight e.A then FvecRight e.B else false then FvecRight e.C else false) else false then (10) else (11)
def cCheckN (e : TEdge) : FuncId × List Av × Ef := (42, [.agg (TEdge.c e)], .val [] (.av (.one (.i (FCheckN e)))))
set_option maxRecDepth 100000 in
theorem pCheckN (e : TEdge) (k1 : ¬ e.Kind = 1) (k2 : ¬ e.Kind = 2) (k3 : ¬ e.Kind = 3) : Pure Try.prog 42 (cCheckN e).2.1 (.av (.one (.i (FCheckN e)))) := by
  refine pure_of_awF Try.func42 rfl (by kernel_rfl) (by kernel_rfl) fun W0 M0 => ?_
  refine aw_seq ?_
  refine aw_region eqok [] [] [] [1] [1] [] ⟨[(1, tP 1 0)], [(1, .cells (TEdge.c e) 33)]⟩ .nil (by kernel_rfl) .nil ?_
  refine ath_n ?_
  refine aw_seq ?_
  refine aw_seq ?_
  refine aw_region eqok [] [] [(7, cofN e)] [1, 4] [1] [Same (cofN e).2.1] ⟨[(1, tP 1 0), (4, tB false)], [(1, .cells (TEdge.c e) 33)]⟩ (.cons (okofN e k1 k2 k3) .nil) (by kernel_rfl) (.cons rfl .nil) ?_
  refine ath_n ?_
  refine aw_block ?_
  refine aw_seq ?_
  refine aw_region eqok [] [] [] [1, 10] [1] [] ⟨[(1, tP 1 0), (10, tB false)], [(1, .cells (TEdge.c e) 33)]⟩ .nil (by kernel_rfl) .nil ?_
  refine ath_n ?_
  refine aw_cond_f (by kernel_rfl) ?_
  refine aw_seq ?_
  refine aw_region eqok [] [] [(24, cvecRight e.A), (28, cvecRight e.B), (33, cvecRight e.C)] [12] [] [((decide ((1 : Int) ≤ e.Kind)) = true) → ((decide ((1 : Int) ≤ e.Kind)) = true), ((decide ((1 : Int) ≤ e.Kind)) = true) → ((decide ((1 : Int) ≤ e.Kind)) = true), (decide ((1 : Int) ≤ e.Kind)) = true → ((decide ((1 : Int) ≤ e.Kind)) = true), ((bif decide ((1 : Int) ≤ e.Kind) then decide ((e.Kind : Int) ≤ 3) else false) = true) → ((bif decide ((1 : Int) ≤ e.Kind) then decide ((e.Kind : Int) ≤ 3) else false) = true), ((bif decide ((1 : Int) ≤ e.Kind) then decide ((e.Kind : Int) ≤ 3) else false) = true) → ((bif decide ((1 : Int) ≤ e.Kind) then decide ((e.Kind : Int) ≤ 3) else false) = true), ((bif decide ((1 : Int) ≤ e.Kind) then decide ((e.Kind : Int) ≤ 3) else false) = true) → (Same (cvecRight e.A).2.1), ((bif decide ((1 : Int) ≤ e.Kind) then decide ((e.Kind : Int) ≤ 3) else false) = true) → ((bif decide ((1 : Int) ≤ e.Kind) then decide ((e.Kind : Int) ≤ 3) else false) = true), (((bif decide ((1 : Int) ≤ e.Kind) then decide ((e.Kind : Int) ≤ 3) else false) = true) ∧ (FvecRight e.A) = true) → (((bif decide ((1 : Int) ≤ e.Kind) then decide ((e.Kind : Int) ≤ 3) else false) = true) ∧ (FvecRight e.A) = true), (((bif decide ((1 : Int) ≤ e.Kind) then decide ((e.Kind : Int) ≤ 3) else false) = true) ∧ (FvecRight e.A) = true) → (((bif decide ((1 : Int) ≤ e.Kind) then decide ((e.Kind : Int) ≤ 3) else false) = true) ∧ (FvecRight e.A) = true), (((bif decide ((1 : Int) ≤ e.Kind) then decide ((e.Kind : Int) ≤ 3) else false) = true) ∧ (FvecRight e.A) = true) → (Same (cvecRight e.B).2.1), ((bif decide ((1 : Int) ≤ e.Kind) then decide ((e.Kind : Int) ≤ 3) else false) = true) → ((bif decide ((1 : Int) ≤ e.Kind) then decide ((e.Kind : Int) ≤ 3) else false) = true), ((bif decide ((1 : Int) ≤ e.Kind) then decide ((e.Kind : Int) ≤ 3) else false) = true) → ((FvecRight e.A) = true → (((bif decide ((1 : Int) ≤ e.Kind) then decide ((e.Kind : Int) ≤ 3) else false) = true) ∧ (FvecRight e.A) = true)), ((bif decide ((1 : Int) ≤ e.Kind) then decide ((e.Kind : Int) ≤ 3) else false) = true) → ((bif decide ((1 : Int) ≤ e.Kind) then decide ((e.Kind : Int) ≤ 3) else false) = true), (((bif decide ((1 : Int) ≤ e.Kind) then decide ((e.Kind : Int) ≤ 3) else false) = true) ∧ (bif FvecRight e.A then FvecRight e.B else false) = true) → (((bif decide ((1 : Int) ≤ e.Kind) then decide ((e.Kind : Int) ≤ 3) else false) = true) ∧ (bif FvecRight e.A then FvecRight e.B else false) = true), (((bif decide ((1 : Int) ≤ e.Kind) then decide ((e.Kind : Int) ≤ 3) else false) = true) ∧ (bif FvecRight e.A then FvecRight e.B else false) = true) → (((bif decide ((1 : Int) ≤ e.Kind) then decide ((e.Kind : Int) ≤ 3) else false) = true) ∧ (bif FvecRight e.A then FvecRight e.B else false) = true), (((bif decide ((1 : Int) ≤ e.Kind) then decide ((e.Kind : Int) ≤ 3) else false) = true) ∧ (bif FvecRight e.A then FvecRight e.B else false) = true) → (Same (cvecRight e.C).2.1), ((bif decide ((1 : Int) ≤ e.Kind) then decide ((e.Kind : Int) ≤ 3) else false) = true) → ((bif decide ((1 : Int) ≤ e.Kind) then decide ((e.Kind : Int) ≤ 3) else false) = true), ((bif decide ((1 : Int) ≤ e.Kind) then decide ((e.Kind : Int) ≤ 3) else false) = true) → ((bif FvecRight e.A then FvecRight e.B else false) = true → (((bif decide ((1 : Int) ≤ e.Kind) then decide ((e.Kind : Int) ≤ 3) else false) = true) ∧ (bif FvecRight e.A then FvecRight e.B else false) = true)), ((bif decide ((1 : Int) ≤ e.Kind) then decide ((e.Kind : Int) ≤ 3) else false) = true) → ((bif decide ((1 : Int) ≤ e.Kind) then decide ((e.Kind : Int) ≤ 3) else false) = true), (bif decide ((1 : Int) ≤ e.Kind) then decide ((e.Kind : Int) ≤ 3) else false) = true → ((bif decide ((1 : Int) ≤ e.Kind) then decide ((e.Kind : Int) ≤ 3) else false) = true)] ⟨[(12, tB (bif bif decide ((1 : Int) ≤ e.Kind) then decide ((e.Kind : Int) ≤ 3) else false then !(bif bif FvecRight e.A then FvecRight e.B else false then FvecRight e.C else false) else false))], []⟩ (.cons (okvecRight e.A) (.cons (okvecRight e.B) (.cons (okvecRight e.C) .nil))) (by kernel_rfl) (.cons id (.cons id (.cons id (.cons id (.cons id (.cons (fun _ => rfl) (.cons id (.cons id (.cons id (.cons (fun _ => rfl) (.cons id (.cons (by intros; first | assumption | exact ⟨by assumption, by assumption⟩ | simp_all) (.cons id (.cons id (.cons id (.cons (fun _ => rfl) (.cons id (.cons (by intros; first | assumption | exact ⟨by assumption, by assumption⟩ | simp_all) (.cons id (.cons id .nil)))))))))))))))))))) ?_
  refine ath_n ?_
  refine aw_cond (bif bif decide ((1 : Int) ≤ e.Kind) then decide ((e.Kind : Int) ≤ 3) else false then !(bif bif FvecRight e.A then FvecRight e.B else false then FvecRight e.C else false) else false) (by kernel_rfl) (fun h4 => ?_) (fun h4 => ?_)
  · refine aw_seq ?_
    refine aw_region eqok [] [] [] [2] [] [] ⟨[(2, tI 10)], []⟩ .nil (by kernel_rfl) .nil ?_
    refine ath_n ?_
    refine aw_ret ?_
    refine abl_r ?_
    refine ath_r ?_
    exact ⟨_, Cv.refl _, .inl rfl, .av (.one (.i 10)), by kernel_rfl, tve_eq (by first | (simp only [FCheckN, h4, cond_true, cond_false]; done) | (simp only [FCheckN, h4, cond_true, cond_false]; rfl))⟩
  · refine aw_skip ?_
    refine abl_n ?_
    refine ath_n ?_
    refine aw_seq ?_
    refine aw_region eqok [] [] [] [2] [] [] ⟨[(2, tI 11)], []⟩ .nil (by kernel_rfl) .nil ?_
    refine ath_n ?_
    refine aw_ret ?_
    exact ⟨_, Cv.refl _, .inl rfl, .av (.one (.i 11)), by kernel_rfl, tve_eq (by first | (simp only [FCheckN, h4, cond_true, cond_false]; done) | (simp only [FCheckN, h4, cond_true, cond_false]; rfl))⟩
theorem okCheckN (e : TEdge) (k1 : ¬ e.Kind = 1) (k2 : ¬ e.Kind = 2) (k3 : ¬ e.Kind = 3) : CallOk Try.prog (cCheckN e).1 (cCheckN e).2.1 (cCheckN e).2.2 := callOk_pure (fun _ _ => by kernel_rfl) fun _ => pCheckN e k1 k2 k3
def FCheck (e : TEdge)  : Int := if e.Kind = 1 then FCheck1 e.A e.B e.C  else if e.Kind = 2 then FCheck2 e.A e.B e.C  else if e.Kind = 3 then FCheck3 e.A e.B e.C  else FCheckN e 
def cCheck (e : TEdge)  : FuncId × List Av × Ef := (42, [.agg (TEdge.c e)], .val [] (.av (.one (.i (FCheck e )))))
theorem pCheck (e : TEdge)  : Pure Try.prog 42 (cCheck e ).2.1 (.av (.one (.i (FCheck e )))) := by
  by_cases k1 : e.Kind = 1
  · have hF : FCheck e  = FCheck1 e.A e.B e.C  := by unfold FCheck; rw [if_pos k1]
    rw [hF]; obtain ⟨k, a0, a1, a2⟩ := e; simp only at k1; subst k1; exact pCheck1 a0 a1 a2 
  by_cases k2 : e.Kind = 2
  · have hF : FCheck e  = FCheck2 e.A e.B e.C  := by unfold FCheck; rw [if_neg k1]; rw [if_pos k2]
    rw [hF]; obtain ⟨k, a0, a1, a2⟩ := e; simp only at k2; subst k2; exact pCheck2 a0 a1 a2 
  by_cases k3 : e.Kind = 3
  · have hF : FCheck e  = FCheck3 e.A e.B e.C  := by unfold FCheck; rw [if_neg k1]; rw [if_neg k2]; rw [if_pos k3]
    rw [hF]; obtain ⟨k, a0, a1, a2⟩ := e; simp only at k3; subst k3; exact pCheck3 a0 a1 a2 
  have hF : FCheck e  = FCheckN e  := by unfold FCheck; rw [if_neg k1, if_neg k2, if_neg k3]
  rw [hF]; exact pCheckN e  k1 k2 k3
theorem okCheck (e : TEdge)  : CallOk Try.prog (cCheck e ).1 (cCheck e ).2.1 (cCheck e ).2.2 := callOk_pure (fun _ _ => by kernel_rfl) fun _ => pCheck e 
def wRadius1_0 (a0 : TPoint) (a1 : TPoint) (a2 : TPoint) : Bool := bif !(wof1_2 a0 a1 a2) then true else true
def FRadius1 (a0 : TPoint) (a1 : TPoint) (a2 : TPoint) : Int := bif wRadius1_0 a0 a1 a2 then (0) else (max (max (max ((FvecSub a0 a2).X) (W64 (0 - ((FvecSub a0 a2).X)))) ((FvecSub a0 a2).Y)) (W64 (0 - ((FvecSub a0 a2).Y))))
def cRadius1 (a0 : TPoint) (a1 : TPoint) (a2 : TPoint) : FuncId × List Av × Ef := (43, [.agg [.i 1, .i a0.X, .i a0.Y, .i a1.X, .i a1.Y, .i a2.X, .i a2.Y]], .val [] (.av (.one (.i (FRadius1 a0 a1 a2)))))
set_option maxRecDepth 100000 in
theorem pRadius1 (a0 : TPoint) (a1 : TPoint) (a2 : TPoint) : Pure Try.prog 43 (cRadius1 a0 a1 a2).2.1 (.av (.one (.i (FRadius1 a0 a1 a2)))) := by
  refine pure_of_awF Try.func43 rfl (by kernel_rfl) (by kernel_rfl) fun W0 M0 => ?_
  refine aw_seq ?_
  refine aw_region eqok [] [] [] [1] [1] [] ⟨[(1, tP 1 0)], [(1, .cells [.i 1, .i a0.X, .i a0.Y, .i a1.X, .i a1.Y, .i a2.X, .i a2.Y] 33)]⟩ .nil (by kernel_rfl) .nil ?_
  refine ath_n ?_
  refine aw_seq ?_
  refine aw_seq ?_
  refine aw_region eqok [] [] [(8, cof1 a0 a1 a2)] [1, 4] [1] [Same (cof1 a0 a1 a2).2.1] ⟨[(1, tP 1 0), (4, tB (wof1_2 a0 a1 a2))], [(1, .cells [.i 1, .i a0.X, .i a0.Y, .i a1.X, .i a1.Y, .i a2.X, .i a2.Y] 33)]⟩ (.cons (okof1 a0 a1 a2) .nil) (by kernel_rfl) (.cons rfl .nil) ?_
  refine ath_n ?_
  refine aw_seq ?_
  refine aw_region eqok [] [] [] [1, 17] [1] [((!(wof1_2 a0 a1 a2)) = false) → ((!(wof1_2 a0 a1 a2)) = false), ((!(wof1_2 a0 a1 a2)) = false) → ((!(wof1_2 a0 a1 a2)) = false), (!(wof1_2 a0 a1 a2)) = false → ((!(wof1_2 a0 a1 a2)) = false)] ⟨[(1, tP 1 0), (17, tB (wRadius1_0 a0 a1 a2))], [(1, .cells [.i 1, .i a0.X, .i a0.Y, .i a1.X, .i a1.Y, .i a2.X, .i a2.Y] 33)]⟩ .nil (by kernel_rfl) (.cons id (.cons id (.cons id .nil))) ?_
  refine ath_n ?_
  refine aw_cond (wRadius1_0 a0 a1 a2) (by kernel_rfl) (fun h1 => ?_) (fun h1 => ?_)
  · refine aw_seq ?_
    refine aw_region eqok [] [] [] [2] [] [] ⟨[(2, tI 0)], []⟩ .nil (by kernel_rfl) .nil ?_
    refine ath_n ?_
    refine aw_ret ?_
    refine ath_r ?_
    exact ⟨_, Cv.refl _, .inl rfl, .av (.one (.i 0)), by kernel_rfl, tve_eq (by first | (simp only [FRadius1, h1, cond_true, cond_false]; done) | (simp only [FRadius1, h1, cond_true, cond_false]; rfl))⟩
  · refine aw_skip ?_
    refine ath_n ?_
    refine aw_seq ?_
    refine aw_region eqok [] [] [(22, cvecSub a0 a2)] [5] [5] [Same (cvecSub a0 a2).2.1] ⟨[(5, tP 5 0)], [(5, .cells (TPoint.c (FvecSub a0 a2)) 31)]⟩ (.cons (okvecSub a0 a2) .nil) (by kernel_rfl) (.cons rfl .nil) ?_
    refine ath_n ?_
    refine aw_seq ?_
    refine aw_region eqok [] [] [] [2] [] [] ⟨[(2, tI (max (max (max ((FvecSub a0 a2).X) (W64 (0 - ((FvecSub a0 a2).X)))) ((FvecSub a0 a2).Y)) (W64 (0 - ((FvecSub a0 a2).Y)))))], []⟩ .nil (by kernel_rfl) .nil ?_
    refine ath_n ?_
    refine aw_ret ?_
    exact ⟨_, Cv.refl _, .inl rfl, .av (.one (.i (max (max (max ((FvecSub a0 a2).X) (W64 (0 - ((FvecSub a0 a2).X)))) ((FvecSub a0 a2).Y)) (W64 (0 - ((FvecSub a0 a2).Y)))))), by kernel_rfl, tve_eq (by first | (simp only [FRadius1, h1, cond_true, cond_false]; done) | (simp only [FRadius1, h1, cond_true, cond_false]; rfl))⟩
theorem okRadius1 (a0 : TPoint) (a1 : TPoint) (a2 : TPoint) : CallOk Try.prog (cRadius1 a0 a1 a2).1 (cRadius1 a0 a1 a2).2.1 (cRadius1 a0 a1 a2).2.2 := callOk_pure (fun _ _ => by kernel_rfl) fun _ => pRadius1 a0 a1 a2 
def wRadius2_0 (a0 : TPoint) (a1 : TPoint) (a2 : TPoint) : Bool := bif !(wof2_2 a0 a1 a2) then true else false
def FRadius2 (a0 : TPoint) (a1 : TPoint) (a2 : TPoint) : Int := bif wRadius2_0 a0 a1 a2 then (0) else (max (max (max ((FvecSub a0 a2).X) (W64 (0 - ((FvecSub a0 a2).X)))) ((FvecSub a0 a2).Y)) (W64 (0 - ((FvecSub a0 a2).Y))))
def cRadius2 (a0 : TPoint) (a1 : TPoint) (a2 : TPoint) : FuncId × List Av × Ef := (43, [.agg [.i 2, .i a0.X, .i a0.Y, .i a1.X, .i a1.Y, .i a2.X, .i a2.Y]], .val [] (.av (.one (.i (FRadius2 a0 a1 a2)))))
set_option maxRecDepth 100000 in
theorem pRadius2 (a0 : TPoint) (a1 : TPoint) (a2 : TPoint) : Pure Try.prog 43 (cRadius2 a0 a1 a2).2.1 (.av (.one (.i (FRadius2 a0 a1 a2)))) := by
  refine pure_of_awF Try.func43 rfl (by kernel_rfl) (by kernel_rfl) fun W0 M0 => ?_
  refine aw_seq ?_
  refine aw_region eqok [] [] [] [1] [1] [] ⟨[(1, tP 1 0)], [(1, .cells [.i 2, .i a0.X, .i a0.Y, .i a1.X, .i a1.Y, .i a2.X, .i a2.Y] 33)]⟩ .nil (by kernel_rfl) .nil ?_
  refine ath_n ?_
  refine aw_seq ?_
  refine aw_seq ?_
  refine aw_region eqok [] [] [(8, cof2 a0 a1 a2)] [1, 4] [1] [Same (cof2 a0 a1 a2).2.1] ⟨[(1, tP 1 0), (4, tB (wof2_2 a0 a1 a2))], [(1, .cells [.i 2, .i a0.X, .i a0.Y, .i a1.X, .i a1.Y, .i a2.X, .i a2.Y] 33)]⟩ (.cons (okof2 a0 a1 a2) .nil) (by kernel_rfl) (.cons rfl .nil) ?_
  refine ath_n ?_
  refine aw_seq ?_
  refine aw_region eqok [] [] [] [1, 17] [1] [((!(wof2_2 a0 a1 a2)) = false) → ((!(wof2_2 a0 a1 a2)) = false), ((!(wof2_2 a0 a1 a2)) = false) → ((!(wof2_2 a0 a1 a2)) = false), (!(wof2_2 a0 a1 a2)) = false → ((!(wof2_2 a0 a1 a2)) = false)] ⟨[(1, tP 1 0), (17, tB (wRadius2_0 a0 a1 a2))], [(1, .cells [.i 2, .i a0.X, .i a0.Y, .i a1.X, .i a1.Y, .i a2.X, .i a2.Y] 33)]⟩ .nil (by kernel_rfl) (.cons id (.cons id (.cons id .nil))) ?_
  refine ath_n ?_
  refine aw_cond (wRadius2_0 a0 a1 a2) (by kernel_rfl) (fun h1 => ?_) (fun h1 => ?_)
  · refine aw_seq ?_
    refine aw_region eqok [] [] [] [2] [] [] ⟨[(2, tI 0)], []⟩ .nil (by kernel_rfl) .nil ?_
    refine ath_n ?_
    refine aw_ret ?_
    refine ath_r ?_
    exact ⟨_, Cv.refl _, .inl rfl, .av (.one (.i 0)), by kernel_rfl, tve_eq (by first | (simp only [FRadius2, h1, cond_true, cond_false]; done) | (simp only [FRadius2, h1, cond_true, cond_false]; rfl))⟩
  · refine aw_skip ?_
    refine ath_n ?_
    refine aw_seq ?_
    refine aw_region eqok [] [] [(22, cvecSub a0 a2)] [5] [5] [Same (cvecSub a0 a2).2.1] ⟨[(5, tP 5 0)], [(5, .cells (TPoint.c (FvecSub a0 a2)) 31)]⟩ (.cons (okvecSub a0 a2) .nil) (by kernel_rfl) (.cons rfl .nil) ?_
    refine ath_n ?_
    refine aw_seq ?_
    refine aw_region eqok [] [] [] [2] [] [] ⟨[(2, tI (max (max (max ((FvecSub a0 a2).X) (W64 (0 - ((FvecSub a0 a2).X)))) ((FvecSub a0 a2).Y)) (W64 (0 - ((FvecSub a0 a2).Y)))))], []⟩ .nil (by kernel_rfl) .nil ?_
    refine ath_n ?_
    refine aw_ret ?_
    exact ⟨_, Cv.refl _, .inl rfl, .av (.one (.i (max (max (max ((FvecSub a0 a2).X) (W64 (0 - ((FvecSub a0 a2).X)))) ((FvecSub a0 a2).Y)) (W64 (0 - ((FvecSub a0 a2).Y)))))), by kernel_rfl, tve_eq (by first | (simp only [FRadius2, h1, cond_true, cond_false]; done) | (simp only [FRadius2, h1, cond_true, cond_false]; rfl))⟩
theorem okRadius2 (a0 : TPoint) (a1 : TPoint) (a2 : TPoint) : CallOk Try.prog (cRadius2 a0 a1 a2).1 (cRadius2 a0 a1 a2).2.1 (cRadius2 a0 a1 a2).2.2 := callOk_pure (fun _ _ => by kernel_rfl) fun _ => pRadius2 a0 a1 a2 
def wRadius3_0 (a0 : TPoint) (a1 : TPoint) (a2 : TPoint) : Bool := bif !(wof3_2 a0 a1 a2) then true else false
def FRadius3 (a0 : TPoint) (a1 : TPoint) (a2 : TPoint) : Int := bif wRadius3_0 a0 a1 a2 then (0) else (max (max (max ((FvecSub a0 a2).X) (W64 (0 - ((FvecSub a0 a2).X)))) ((FvecSub a0 a2).Y)) (W64 (0 - ((FvecSub a0 a2).Y))))
def cRadius3 (a0 : TPoint) (a1 : TPoint) (a2 : TPoint) : FuncId × List Av × Ef := (43, [.agg [.i 3, .i a0.X, .i a0.Y, .i a1.X, .i a1.Y, .i a2.X, .i a2.Y]], .val [] (.av (.one (.i (FRadius3 a0 a1 a2)))))
set_option maxRecDepth 100000 in
theorem pRadius3 (a0 : TPoint) (a1 : TPoint) (a2 : TPoint) : Pure Try.prog 43 (cRadius3 a0 a1 a2).2.1 (.av (.one (.i (FRadius3 a0 a1 a2)))) := by
  refine pure_of_awF Try.func43 rfl (by kernel_rfl) (by kernel_rfl) fun W0 M0 => ?_
  refine aw_seq ?_
  refine aw_region eqok [] [] [] [1] [1] [] ⟨[(1, tP 1 0)], [(1, .cells [.i 3, .i a0.X, .i a0.Y, .i a1.X, .i a1.Y, .i a2.X, .i a2.Y] 33)]⟩ .nil (by kernel_rfl) .nil ?_
  refine ath_n ?_
  refine aw_seq ?_
  refine aw_seq ?_
  refine aw_region eqok [] [] [(8, cof3 a0 a1 a2)] [1, 4] [1] [Same (cof3 a0 a1 a2).2.1] ⟨[(1, tP 1 0), (4, tB (wof3_2 a0 a1 a2))], [(1, .cells [.i 3, .i a0.X, .i a0.Y, .i a1.X, .i a1.Y, .i a2.X, .i a2.Y] 33)]⟩ (.cons (okof3 a0 a1 a2) .nil) (by kernel_rfl) (.cons rfl .nil) ?_
  refine ath_n ?_
  refine aw_seq ?_
  refine aw_region eqok [] [] [] [1, 17] [1] [((!(wof3_2 a0 a1 a2)) = false) → ((!(wof3_2 a0 a1 a2)) = false), ((!(wof3_2 a0 a1 a2)) = false) → ((!(wof3_2 a0 a1 a2)) = false), (!(wof3_2 a0 a1 a2)) = false → ((!(wof3_2 a0 a1 a2)) = false)] ⟨[(1, tP 1 0), (17, tB (wRadius3_0 a0 a1 a2))], [(1, .cells [.i 3, .i a0.X, .i a0.Y, .i a1.X, .i a1.Y, .i a2.X, .i a2.Y] 33)]⟩ .nil (by kernel_rfl) (.cons id (.cons id (.cons id .nil))) ?_
  refine ath_n ?_
  refine aw_cond (wRadius3_0 a0 a1 a2) (by kernel_rfl) (fun h1 => ?_) (fun h1 => ?_)
  · refine aw_seq ?_
    refine aw_region eqok [] [] [] [2] [] [] ⟨[(2, tI 0)], []⟩ .nil (by kernel_rfl) .nil ?_
    refine ath_n ?_
    refine aw_ret ?_
    refine ath_r ?_
    exact ⟨_, Cv.refl _, .inl rfl, .av (.one (.i 0)), by kernel_rfl, tve_eq (by first | (simp only [FRadius3, h1, cond_true, cond_false]; done) | (simp only [FRadius3, h1, cond_true, cond_false]; rfl))⟩
  · refine aw_skip ?_
    refine ath_n ?_
    refine aw_seq ?_
    refine aw_region eqok [] [] [(22, cvecSub a0 a2)] [5] [5] [Same (cvecSub a0 a2).2.1] ⟨[(5, tP 5 0)], [(5, .cells (TPoint.c (FvecSub a0 a2)) 31)]⟩ (.cons (okvecSub a0 a2) .nil) (by kernel_rfl) (.cons rfl .nil) ?_
    refine ath_n ?_
    refine aw_seq ?_
    refine aw_region eqok [] [] [] [2] [] [] ⟨[(2, tI (max (max (max ((FvecSub a0 a2).X) (W64 (0 - ((FvecSub a0 a2).X)))) ((FvecSub a0 a2).Y)) (W64 (0 - ((FvecSub a0 a2).Y)))))], []⟩ .nil (by kernel_rfl) .nil ?_
    refine ath_n ?_
    refine aw_ret ?_
    exact ⟨_, Cv.refl _, .inl rfl, .av (.one (.i (max (max (max ((FvecSub a0 a2).X) (W64 (0 - ((FvecSub a0 a2).X)))) ((FvecSub a0 a2).Y)) (W64 (0 - ((FvecSub a0 a2).Y)))))), by kernel_rfl, tve_eq (by first | (simp only [FRadius3, h1, cond_true, cond_false]; done) | (simp only [FRadius3, h1, cond_true, cond_false]; rfl))⟩
theorem okRadius3 (a0 : TPoint) (a1 : TPoint) (a2 : TPoint) : CallOk Try.prog (cRadius3 a0 a1 a2).1 (cRadius3 a0 a1 a2).2.1 (cRadius3 a0 a1 a2).2.2 := callOk_pure (fun _ _ => by kernel_rfl) fun _ => pRadius3 a0 a1 a2 
def FRadiusN (e : TEdge) : Int := 0
def cRadiusN (e : TEdge) : FuncId × List Av × Ef := (43, [.agg (TEdge.c e)], .val [] (.av (.one (.i (FRadiusN e)))))
set_option maxRecDepth 100000 in
theorem pRadiusN (e : TEdge) (k1 : ¬ e.Kind = 1) (k2 : ¬ e.Kind = 2) (k3 : ¬ e.Kind = 3) : Pure Try.prog 43 (cRadiusN e).2.1 (.av (.one (.i (FRadiusN e)))) := by
  refine pure_of_awF Try.func43 rfl (by kernel_rfl) (by kernel_rfl) fun W0 M0 => ?_
  refine aw_seq ?_
  refine aw_region eqok [] [] [] [1] [1] [] ⟨[(1, tP 1 0)], [(1, .cells (TEdge.c e) 33)]⟩ .nil (by kernel_rfl) .nil ?_
  refine ath_n ?_
  refine aw_seq ?_
  refine aw_seq ?_
  refine aw_region eqok [] [] [(8, cofN e)] [1, 4] [1] [Same (cofN e).2.1] ⟨[(1, tP 1 0), (4, tB false)], [(1, .cells (TEdge.c e) 33)]⟩ (.cons (okofN e k1 k2 k3) .nil) (by kernel_rfl) (.cons rfl .nil) ?_
  refine ath_n ?_
  refine aw_seq ?_
  refine aw_region eqok [] [] [] [1, 17] [1] [((true) = false) → ((true) = false), ((true) = false) → ((true) = false), (true) = false → ((true) = false)] ⟨[(1, tP 1 0), (17, tB true)], [(1, .cells (TEdge.c e) 33)]⟩ .nil (by kernel_rfl) (.cons id (.cons id (.cons id .nil))) ?_
  refine ath_n ?_
  refine aw_cond_t (by kernel_rfl) ?_
  refine aw_seq ?_
  refine aw_region eqok [] [] [] [2] [] [] ⟨[(2, tI 0)], []⟩ .nil (by kernel_rfl) .nil ?_
  refine ath_n ?_
  refine aw_ret ?_
  refine ath_r ?_
  exact ⟨_, Cv.refl _, .inl rfl, .av (.one (.i 0)), by kernel_rfl, tve_eq (by rfl)⟩
theorem okRadiusN (e : TEdge) (k1 : ¬ e.Kind = 1) (k2 : ¬ e.Kind = 2) (k3 : ¬ e.Kind = 3) : CallOk Try.prog (cRadiusN e).1 (cRadiusN e).2.1 (cRadiusN e).2.2 := callOk_pure (fun _ _ => by kernel_rfl) fun _ => pRadiusN e k1 k2 k3
def FRadius (e : TEdge)  : Int := if e.Kind = 1 then FRadius1 e.A e.B e.C  else if e.Kind = 2 then FRadius2 e.A e.B e.C  else if e.Kind = 3 then FRadius3 e.A e.B e.C  else FRadiusN e 
def cRadius (e : TEdge)  : FuncId × List Av × Ef := (43, [.agg (TEdge.c e)], .val [] (.av (.one (.i (FRadius e )))))
theorem pRadius (e : TEdge)  : Pure Try.prog 43 (cRadius e ).2.1 (.av (.one (.i (FRadius e )))) := by
  by_cases k1 : e.Kind = 1
  · have hF : FRadius e  = FRadius1 e.A e.B e.C  := by unfold FRadius; rw [if_pos k1]
    rw [hF]; obtain ⟨k, a0, a1, a2⟩ := e; simp only at k1; subst k1; exact pRadius1 a0 a1 a2 
  by_cases k2 : e.Kind = 2
  · have hF : FRadius e  = FRadius2 e.A e.B e.C  := by unfold FRadius; rw [if_neg k1]; rw [if_pos k2]
    rw [hF]; obtain ⟨k, a0, a1, a2⟩ := e; simp only at k2; subst k2; exact pRadius2 a0 a1 a2 
  by_cases k3 : e.Kind = 3
  · have hF : FRadius e  = FRadius3 e.A e.B e.C  := by unfold FRadius; rw [if_neg k1]; rw [if_neg k2]; rw [if_pos k3]
    rw [hF]; obtain ⟨k, a0, a1, a2⟩ := e; simp only at k3; subst k3; exact pRadius3 a0 a1 a2 
  have hF : FRadius e  = FRadiusN e  := by unfold FRadius; rw [if_neg k1, if_neg k2, if_neg k3]
  rw [hF]; exact pRadiusN e  k1 k2 k3
theorem okRadius (e : TEdge)  : CallOk Try.prog (cRadius e ).1 (cRadius e ).2.1 (cRadius e ).2.2 := callOk_pure (fun _ _ => by kernel_rfl) fun _ => pRadius e 
def FReverse1 (a0 : TPoint) (a1 : TPoint) (a2 : TPoint) : TEdge := TEdge.mk 1 a1 a0 a2
def cReverse1 (a0 : TPoint) (a1 : TPoint) (a2 : TPoint) : FuncId × List Av × Ef := (29, [.agg [.i 1, .i a0.X, .i a0.Y, .i a1.X, .i a1.Y, .i a2.X, .i a2.Y]], .val [] (.av (.agg (TEdge.c (FReverse1 a0 a1 a2)))))
set_option maxRecDepth 100000 in
theorem pReverse1 (a0 : TPoint) (a1 : TPoint) (a2 : TPoint) : Pure Try.prog 29 (cReverse1 a0 a1 a2).2.1 (.av (.agg (TEdge.c (FReverse1 a0 a1 a2)))) := by
  refine pure_of_awF Try.func29 rfl (by kernel_rfl) (by kernel_rfl) fun W0 M0 => ?_
  refine aw_seq ?_
  refine aw_region eqok [] [] [] [1, 2] [1, 2] [] ⟨[(1, tP 1 0), (2, tP 2 0)], [(1, .cells [.i 1, .i a0.X, .i a0.Y, .i a1.X, .i a1.Y, .i a2.X, .i a2.Y] 33), (2, .cells [.i 0, .i 0, .i 0, .i 0, .i 0, .i 0, .i 0] 33)]⟩ .nil (by kernel_rfl) .nil ?_
  refine ath_n ?_
  refine aw_seq ?_
  refine aw_region eqok [] [] [(7, cof1 a0 a1 a2)] [1, 2, 3] [1, 2, 3] [Same (cof1 a0 a1 a2).2.1] ⟨[(1, tP 1 0), (2, tP 2 0), (3, tP 3 0)], [(1, .cells [.i 1, .i a0.X, .i a0.Y, .i a1.X, .i a1.Y, .i a2.X, .i a2.Y] 33), (2, .cells [.i 0, .i 0, .i 0, .i 0, .i 0, .i 0, .i 0] 33), (3, .cells [.clo 93 0 (fun _ => default), .clo 94 0 (fun _ => default), .clo 95 0 (fun _ => default), .i 1] 153)]⟩ (.cons (okof1 a0 a1 a2) .nil) (by kernel_rfl) (.cons rfl .nil) ?_
  refine ath_n ?_
  refine aw_seq ?_
  refine aw_region eqok [] [] [] [2] [2] [] ⟨[(2, tP 2 0)], [(2, .cells [.i 1, .i a1.X, .i a1.Y, .i a0.X, .i a0.Y, .i a2.X, .i a2.Y] 33)]⟩ .nil (by kernel_rfl) .nil ?_
  refine ath_n ?_
  refine aw_ret ?_
  exact ⟨_, Cv.refl _, .inl rfl, .av (.agg [.i 1, .i a1.X, .i a1.Y, .i a0.X, .i a0.Y, .i a2.X, .i a2.Y]), by kernel_rfl, tve_eq (by rfl)⟩
theorem okReverse1 (a0 : TPoint) (a1 : TPoint) (a2 : TPoint) : CallOk Try.prog (cReverse1 a0 a1 a2).1 (cReverse1 a0 a1 a2).2.1 (cReverse1 a0 a1 a2).2.2 := callOk_pure (fun _ _ => by kernel_rfl) fun _ => pReverse1 a0 a1 a2 
def FReverse2 (a0 : TPoint) (a1 : TPoint) (a2 : TPoint) : TEdge := TEdge.mk 3 a1 a0 a2
def cReverse2 (a0 : TPoint) (a1 : TPoint) (a2 : TPoint) : FuncId × List Av × Ef := (29, [.agg [.i 2, .i a0.X, .i a0.Y, .i a1.X, .i a1.Y, .i a2.X, .i a2.Y]], .val [] (.av (.agg (TEdge.c (FReverse2 a0 a1 a2)))))
set_option maxRecDepth 100000 in
theorem pReverse2 (a0 : TPoint) (a1 : TPoint) (a2 : TPoint) : Pure Try.prog 29 (cReverse2 a0 a1 a2).2.1 (.av (.agg (TEdge.c (FReverse2 a0 a1 a2)))) := by
  refine pure_of_awF Try.func29 rfl (by kernel_rfl) (by kernel_rfl) fun W0 M0 => ?_
  refine aw_seq ?_
  refine aw_region eqok [] [] [] [1, 2] [1, 2] [] ⟨[(1, tP 1 0), (2, tP 2 0)], [(1, .cells [.i 2, .i a0.X, .i a0.Y, .i a1.X, .i a1.Y, .i a2.X, .i a2.Y] 33), (2, .cells [.i 0, .i 0, .i 0, .i 0, .i 0, .i 0, .i 0] 33)]⟩ .nil (by kernel_rfl) .nil ?_
  refine ath_n ?_
  refine aw_seq ?_
  refine aw_region eqok [] [] [(7, cof2 a0 a1 a2)] [1, 2, 3] [1, 2, 3] [Same (cof2 a0 a1 a2).2.1] ⟨[(1, tP 1 0), (2, tP 2 0), (3, tP 3 0)], [(1, .cells [.i 2, .i a0.X, .i a0.Y, .i a1.X, .i a1.Y, .i a2.X, .i a2.Y] 33), (2, .cells [.i 0, .i 0, .i 0, .i 0, .i 0, .i 0, .i 0] 33), (3, .cells [.clo 96 0 (fun _ => default), .clo 97 0 (fun _ => default), .clo 98 0 (fun _ => default), .i 3] 153)]⟩ (.cons (okof2 a0 a1 a2) .nil) (by kernel_rfl) (.cons rfl .nil) ?_
  refine ath_n ?_
  refine aw_seq ?_
  refine aw_region eqok [] [] [] [2] [2] [] ⟨[(2, tP 2 0)], [(2, .cells [.i 3, .i a1.X, .i a1.Y, .i a0.X, .i a0.Y, .i a2.X, .i a2.Y] 33)]⟩ .nil (by kernel_rfl) .nil ?_
  refine ath_n ?_
  refine aw_ret ?_
  exact ⟨_, Cv.refl _, .inl rfl, .av (.agg [.i 3, .i a1.X, .i a1.Y, .i a0.X, .i a0.Y, .i a2.X, .i a2.Y]), by kernel_rfl, tve_eq (by rfl)⟩
theorem okReverse2 (a0 : TPoint) (a1 : TPoint) (a2 : TPoint) : CallOk Try.prog (cReverse2 a0 a1 a2).1 (cReverse2 a0 a1 a2).2.1 (cReverse2 a0 a1 a2).2.2 := callOk_pure (fun _ _ => by kernel_rfl) fun _ => pReverse2 a0 a1 a2 
def FReverse3 (a0 : TPoint) (a1 : TPoint) (a2 : TPoint) : TEdge := TEdge.mk 2 a1 a0 a2
def cReverse3 (a0 : TPoint) (a1 : TPoint) (a2 : TPoint) : FuncId × List Av × Ef := (29, [.agg [.i 3, .i a0.X, .i a0.Y, .i a1.X, .i a1.Y, .i a2.X, .i a2.Y]], .val [] (.av (.agg (TEdge.c (FReverse3 a0 a1 a2)))))
set_option maxRecDepth 100000 in
theorem pReverse3 (a0 : TPoint) (a1 : TPoint) (a2 : TPoint) : Pure Try.prog 29 (cReverse3 a0 a1 a2).2.1 (.av (.agg (TEdge.c (FReverse3 a0 a1 a2)))) := by
  refine pure_of_awF Try.func29 rfl (by kernel_rfl) (by kernel_rfl) fun W0 M0 => ?_
  refine aw_seq ?_
  refine aw_region eqok [] [] [] [1, 2] [1, 2] [] ⟨[(1, tP 1 0), (2, tP 2 0)], [(1, .cells [.i 3, .i a0.X, .i a0.Y, .i a1.X, .i a1.Y, .i a2.X, .i a2.Y] 33), (2, .cells [.i 0, .i 0, .i 0, .i 0, .i 0, .i 0, .i 0] 33)]⟩ .nil (by kernel_rfl) .nil ?_
  refine ath_n ?_
  refine aw_seq ?_
  refine aw_region eqok [] [] [(7, cof3 a0 a1 a2)] [1, 2, 3] [1, 2, 3] [Same (cof3 a0 a1 a2).2.1] ⟨[(1, tP 1 0), (2, tP 2 0), (3, tP 3 0)], [(1, .cells [.i 3, .i a0.X, .i a0.Y, .i a1.X, .i a1.Y, .i a2.X, .i a2.Y] 33), (2, .cells [.i 0, .i 0, .i 0, .i 0, .i 0, .i 0, .i 0] 33), (3, .cells [.clo 99 0 (fun _ => default), .clo 97 0 (fun _ => default), .clo 98 0 (fun _ => default), .i 2] 153)]⟩ (.cons (okof3 a0 a1 a2) .nil) (by kernel_rfl) (.cons rfl .nil) ?_
  refine ath_n ?_
  refine aw_seq ?_
  refine aw_region eqok [] [] [] [2] [2] [] ⟨[(2, tP 2 0)], [(2, .cells [.i 2, .i a1.X, .i a1.Y, .i a0.X, .i a0.Y, .i a2.X, .i a2.Y] 33)]⟩ .nil (by kernel_rfl) .nil ?_
  refine ath_n ?_
  refine aw_ret ?_
  exact ⟨_, Cv.refl _, .inl rfl, .av (.agg [.i 2, .i a1.X, .i a1.Y, .i a0.X, .i a0.Y, .i a2.X, .i a2.Y]), by kernel_rfl, tve_eq (by rfl)⟩
theorem okReverse3 (a0 : TPoint) (a1 : TPoint) (a2 : TPoint) : CallOk Try.prog (cReverse3 a0 a1 a2).1 (cReverse3 a0 a1 a2).2.1 (cReverse3 a0 a1 a2).2.2 := callOk_pure (fun _ _ => by kernel_rfl) fun _ => pReverse3 a0 a1 a2 
def FReverseN (e : TEdge) : TEdge := TEdge.mk e.Kind e.B e.A e.C
def cReverseN (e : TEdge) : FuncId × List Av × Ef := (29, [.agg (TEdge.c e)], .val [] (.av (.agg (TEdge.c (FReverseN e)))))
set_option maxRecDepth 100000 in
theorem pReverseN (e : TEdge) (k1 : ¬ e.Kind = 1) (k2 : ¬ e.Kind = 2) (k3 : ¬ e.Kind = 3) : Pure Try.prog 29 (cReverseN e).2.1 (.av (.agg (TEdge.c (FReverseN e)))) := by
  refine pure_of_awF Try.func29 rfl (by kernel_rfl) (by kernel_rfl) fun W0 M0 => ?_
  refine aw_seq ?_
  refine aw_region eqok [] [] [] [1, 2] [1, 2] [] ⟨[(1, tP 1 0), (2, tP 2 0)], [(1, .cells (TEdge.c e) 33), (2, .cells [.i 0, .i 0, .i 0, .i 0, .i 0, .i 0, .i 0] 33)]⟩ .nil (by kernel_rfl) .nil ?_
  refine ath_n ?_
  refine aw_seq ?_
  refine aw_region eqok [] [] [(7, cofN e)] [1, 2, 3] [1, 2, 3] [Same (cofN e).2.1] ⟨[(1, tP 1 0), (2, tP 2 0), (3, tP 3 0)], [(1, .cells (TEdge.c e) 33), (2, .cells [.i 0, .i 0, .i 0, .i 0, .i 0, .i 0, .i 0] 33), (3, .cells [.val .nilFunc, .val .nilFunc, .val .nilFunc, .i e.Kind] 153)]⟩ (.cons (okofN e k1 k2 k3) .nil) (by kernel_rfl) (.cons rfl .nil) ?_
  refine ath_n ?_
  refine aw_seq ?_
  refine aw_region eqok [] [] [] [2] [2] [] ⟨[(2, tP 2 0)], [(2, .cells [.i e.Kind, .i e.B.X, .i e.B.Y, .i e.A.X, .i e.A.Y, .i e.C.X, .i e.C.Y] 33)]⟩ .nil (by kernel_rfl) .nil ?_
  refine ath_n ?_
  refine aw_ret ?_
  exact ⟨_, Cv.refl _, .inl rfl, .av (.agg [.i e.Kind, .i e.B.X, .i e.B.Y, .i e.A.X, .i e.A.Y, .i e.C.X, .i e.C.Y]), by kernel_rfl, tve_eq (by rfl)⟩
theorem okReverseN (e : TEdge) (k1 : ¬ e.Kind = 1) (k2 : ¬ e.Kind = 2) (k3 : ¬ e.Kind = 3) : CallOk Try.prog (cReverseN e).1 (cReverseN e).2.1 (cReverseN e).2.2 := callOk_pure (fun _ _ => by kernel_rfl) fun _ => pReverseN e k1 k2 k3
def FReverse (e : TEdge)  : TEdge := if e.Kind = 1 then FReverse1 e.A e.B e.C  else if e.Kind = 2 then FReverse2 e.A e.B e.C  else if e.Kind = 3 then FReverse3 e.A e.B e.C  else FReverseN e 
def cReverse (e : TEdge)  : FuncId × List Av × Ef := (29, [.agg (TEdge.c e)], .val [] (.av (.agg (TEdge.c (FReverse e )))))
theorem pReverse (e : TEdge)  : Pure Try.prog 29 (cReverse e ).2.1 (.av (.agg (TEdge.c (FReverse e )))) := by
  by_cases k1 : e.Kind = 1
  · have hF : FReverse e  = FReverse1 e.A e.B e.C  := by unfold FReverse; rw [if_pos k1]
    rw [hF]; obtain ⟨k, a0, a1, a2⟩ := e; simp only at k1; subst k1; exact pReverse1 a0 a1 a2 
  by_cases k2 : e.Kind = 2
  · have hF : FReverse e  = FReverse2 e.A e.B e.C  := by unfold FReverse; rw [if_neg k1]; rw [if_pos k2]
    rw [hF]; obtain ⟨k, a0, a1, a2⟩ := e; simp only at k2; subst k2; exact pReverse2 a0 a1 a2 
  by_cases k3 : e.Kind = 3
  · have hF : FReverse e  = FReverse3 e.A e.B e.C  := by unfold FReverse; rw [if_neg k1]; rw [if_neg k2]; rw [if_pos k3]
    rw [hF]; obtain ⟨k, a0, a1, a2⟩ := e; simp only at k3; subst k3; exact pReverse3 a0 a1 a2 
  have hF : FReverse e  = FReverseN e  := by unfold FReverse; rw [if_neg k1, if_neg k2, if_neg k3]
  rw [hF]; exact pReverseN e  k1 k2 k3
theorem okReverse (e : TEdge)  : CallOk Try.prog (cReverse e ).1 (cReverse e ).2.1 (cReverse e ).2.2 := callOk_pure (fun _ _ => by kernel_rfl) fun _ => pReverse e 
def FMove1 (a0 : TPoint) (a1 : TPoint) (a2 : TPoint) (m : TMotion) : TEdge := TEdge.mk 1 (FvecApply m a0) (FvecApply m a1) a2
def cMove1 (a0 : TPoint) (a1 : TPoint) (a2 : TPoint) (m : TMotion) : FuncId × List Av × Ef := (30, [.agg [.i 1, .i a0.X, .i a0.Y, .i a1.X, .i a1.Y, .i a2.X, .i a2.Y], .agg (TMotion.c m)], .val [] (.av (.agg (TEdge.c (FMove1 a0 a1 a2 m)))))
set_option maxRecDepth 100000 in
theorem pMove1 (a0 : TPoint) (a1 : TPoint) (a2 : TPoint) (m : TMotion) : Pure Try.prog 30 (cMove1 a0 a1 a2 m).2.1 (.av (.agg (TEdge.c (FMove1 a0 a1 a2 m)))) := by
  refine pure_of_awF Try.func30 rfl (by kernel_rfl) (by kernel_rfl) fun W0 M0 => ?_
  refine aw_seq ?_
  refine aw_region eqok [] [] [] [2, 3, 4] [2, 3, 4] [] ⟨[(2, tP 2 0), (3, tP 3 0), (4, tP 4 0)], [(2, .cells [.i 1, .i a0.X, .i a0.Y, .i a1.X, .i a1.Y, .i a2.X, .i a2.Y] 33), (3, .cells (TMotion.c m) 84), (4, .cells [.i 0, .i 0, .i 0, .i 0, .i 0, .i 0, .i 0] 33)]⟩ .nil (by kernel_rfl) .nil ?_
  refine ath_n ?_
  refine aw_seq ?_
  refine aw_seq ?_
  refine aw_region eqok [] [] [(9, cof1 a0 a1 a2)] [2, 3, 4, 5] [2, 3, 4, 5] [Same (cof1 a0 a1 a2).2.1] ⟨[(2, tP 2 0), (3, tP 3 0), (4, tP 4 0), (5, tP 5 0)], [(2, .cells [.i 1, .i a0.X, .i a0.Y, .i a1.X, .i a1.Y, .i a2.X, .i a2.Y] 33), (3, .cells (TMotion.c m) 84), (4, .cells [.i 0, .i 0, .i 0, .i 0, .i 0, .i 0, .i 0] 33), (5, .cells [.clo 93 0 (fun _ => default), .clo 94 0 (fun _ => default), .clo 95 0 (fun _ => default), .i 1] 153)]⟩ (.cons (okof1 a0 a1 a2) .nil) (by kernel_rfl) (.cons rfl .nil) ?_
  refine ath_n ?_
  refine aw_seq ?_
  refine aw_region eqok [] [] [] [2, 3, 4, 5, 13] [2, 3, 4, 5] [] ⟨[(2, tP 2 0), (3, tP 3 0), (4, tP 4 0), (5, tP 5 0), (13, tB m.Mirror)], [(2, .cells [.i 1, .i a0.X, .i a0.Y, .i a1.X, .i a1.Y, .i a2.X, .i a2.Y] 33), (3, .cells (TMotion.c m) 84), (4, .cells [.i 0, .i 0, .i 0, .i 0, .i 0, .i 0, .i 0] 33), (5, .cells [.clo 93 0 (fun _ => default), .clo 94 0 (fun _ => default), .clo 95 0 (fun _ => default), .i 1] 153)]⟩ .nil (by kernel_rfl) .nil ?_
  refine ath_n ?_
  refine aw_joinC (⟨[(2, tP 2 0), (3, tP 3 0), (4, tP 4 0)], [(2, .cells [.i 1, .i a0.X, .i a0.Y, .i a1.X, .i a1.Y, .i a2.X, .i a2.Y] 33), (3, .cells (TMotion.c m) 84), (4, .cells [.i 0, .i 0, .i 0, .i 0, .i 0, .i 0, .i 0] 33)]⟩) ?_ ?_
  · refine aw_cond (m.Mirror) (by kernel_rfl) (fun h1 => ?_) (fun h1 => ?_)
    · refine aw_region eqok [] [] [] [2, 3, 4] [2, 3, 4] [] ⟨[(2, tP 2 0), (3, tP 3 0), (4, tP 4 0)], [(2, .cells [.i 1, .i a0.X, .i a0.Y, .i a1.X, .i a1.Y, .i a2.X, .i a2.Y] 33), (3, .cells (TMotion.c m) 84), (4, .cells [.i 0, .i 0, .i 0, .i 0, .i 0, .i 0, .i 0] 33)]⟩ .nil (by kernel_rfl) .nil ?_
      refine ath_n ?_
      refine cv_eq ?_
      first | rfl | (simp only [h1, cond_true, cond_false]; done) | (simp only [h1, cond_true, cond_false]; rfl)
    · refine aw_skip ?_
      refine ath_n ?_
      refine Cv.trans (cv_keep [2, 3, 4] [2, 3, 4] (⟨[(2, tP 2 0), (3, tP 3 0), (4, tP 4 0)], [(2, .cells [.i 1, .i a0.X, .i a0.Y, .i a1.X, .i a1.Y, .i a2.X, .i a2.Y] 33), (3, .cells (TMotion.c m) 84), (4, .cells [.i 0, .i 0, .i 0, .i 0, .i 0, .i 0, .i 0] 33)]⟩) (by kernel_rfl)) (cv_eq ?_)
      first | rfl | (simp only [h1, cond_true, cond_false]; done) | (simp only [h1, cond_true, cond_false]; rfl)
  refine aw_seq ?_
  refine aw_seq ?_
  refine aw_region eqok [] [] [] [2, 3, 4, 19] [2, 3, 4] [] ⟨[(2, tP 2 0), (3, tP 3 0), (4, tP 4 0), (19, tB false)], [(2, .cells [.i 1, .i a0.X, .i a0.Y, .i a1.X, .i a1.Y, .i a2.X, .i a2.Y] 33), (3, .cells (TMotion.c m) 84), (4, .cells [.i 0, .i 0, .i 0, .i 0, .i 0, .i 0, .i 0] 33)]⟩ .nil (by kernel_rfl) .nil ?_
  refine ath_n ?_
  refine aw_cond_f (by kernel_rfl) ?_
  refine aw_skip ?_
  refine ath_n ?_
  refine aw_seq ?_
  refine aw_draw mixed eqok [] [] [(28, cvecApply m a0), (32, cvecApply m a1)] [2, 4] [2, 4] [Same (cvecApply m a0).2.1, Same (cvecApply m a1).2.1] ⟨[(2, tP 2 0), (4, tP 4 0)], [(2, .cells [.i 1, .i ((FvecApply m a0).X), .i ((FvecApply m a0).Y), .i ((FvecApply m a1).X), .i ((FvecApply m a1).Y), .i a2.X, .i a2.Y] 33), (4, .cells [.i 0, .i 0, .i 0, .i 0, .i 0, .i 0, .i 0] 33)]⟩ (.cons (okvecApply m a0) (.cons (okvecApply m a1) .nil)) (by kernel_rfl) (by kernel_rfl) (.cons rfl (.cons rfl .nil)) ?_
  refine ath_n ?_
  refine aw_seq ?_
  refine aw_region eqok [] [] [] [4] [4] [] ⟨[(4, tP 4 0)], [(4, .cells [.i 1, .i ((FvecApply m a0).X), .i ((FvecApply m a0).Y), .i ((FvecApply m a1).X), .i ((FvecApply m a1).Y), .i a2.X, .i a2.Y] 33)]⟩ .nil (by kernel_rfl) .nil ?_
  refine ath_n ?_
  refine aw_ret ?_
  exact ⟨_, Cv.refl _, .inl rfl, .av (.agg [.i 1, .i ((FvecApply m a0).X), .i ((FvecApply m a0).Y), .i ((FvecApply m a1).X), .i ((FvecApply m a1).Y), .i a2.X, .i a2.Y]), by kernel_rfl, tve_eq (by rfl)⟩
theorem okMove1 (a0 : TPoint) (a1 : TPoint) (a2 : TPoint) (m : TMotion) : CallOk Try.prog (cMove1 a0 a1 a2 m).1 (cMove1 a0 a1 a2 m).2.1 (cMove1 a0 a1 a2 m).2.2 := callOk_pure (fun _ _ => by kernel_rfl) fun _ => pMove1 a0 a1 a2 m 
def FMove2 (a0 : TPoint) (a1 : TPoint) (a2 : TPoint) (m : TMotion) : TEdge := TEdge.mk (bif m.Mirror then 3 else 2) (FvecApply m a0) (FvecApply m a1) (TPoint.mk (bif !decide (((bif m.Mirror then 3 else 2) : Int) = 1) then ((FvecApply m a2).X) else a2.X) (bif !decide (((bif m.Mirror then 3 else 2) : Int) = 1) then ((FvecApply m a2).Y) else a2.Y))
def cMove2 (a0 : TPoint) (a1 : TPoint) (a2 : TPoint) (m : TMotion) : FuncId × List Av × Ef := (30, [.agg [.i 2, .i a0.X, .i a0.Y, .i a1.X, .i a1.Y, .i a2.X, .i a2.Y], .agg (TMotion.c m)], .val [] (.av (.agg (TEdge.c (FMove2 a0 a1 a2 m)))))
set_option maxRecDepth 100000 in
theorem pMove2 (a0 : TPoint) (a1 : TPoint) (a2 : TPoint) (m : TMotion) : Pure Try.prog 30 (cMove2 a0 a1 a2 m).2.1 (.av (.agg (TEdge.c (FMove2 a0 a1 a2 m)))) := by
  refine pure_of_awF Try.func30 rfl (by kernel_rfl) (by kernel_rfl) fun W0 M0 => ?_
  refine aw_seq ?_
  refine aw_region eqok [] [] [] [2, 3, 4] [2, 3, 4] [] ⟨[(2, tP 2 0), (3, tP 3 0), (4, tP 4 0)], [(2, .cells [.i 2, .i a0.X, .i a0.Y, .i a1.X, .i a1.Y, .i a2.X, .i a2.Y] 33), (3, .cells (TMotion.c m) 84), (4, .cells [.i 0, .i 0, .i 0, .i 0, .i 0, .i 0, .i 0] 33)]⟩ .nil (by kernel_rfl) .nil ?_
  refine ath_n ?_
  refine aw_seq ?_
  refine aw_seq ?_
  refine aw_region eqok [] [] [(9, cof2 a0 a1 a2)] [2, 3, 4, 5] [2, 3, 4, 5] [Same (cof2 a0 a1 a2).2.1] ⟨[(2, tP 2 0), (3, tP 3 0), (4, tP 4 0), (5, tP 5 0)], [(2, .cells [.i 2, .i a0.X, .i a0.Y, .i a1.X, .i a1.Y, .i a2.X, .i a2.Y] 33), (3, .cells (TMotion.c m) 84), (4, .cells [.i 0, .i 0, .i 0, .i 0, .i 0, .i 0, .i 0] 33), (5, .cells [.clo 96 0 (fun _ => default), .clo 97 0 (fun _ => default), .clo 98 0 (fun _ => default), .i 3] 153)]⟩ (.cons (okof2 a0 a1 a2) .nil) (by kernel_rfl) (.cons rfl .nil) ?_
  refine ath_n ?_
  refine aw_seq ?_
  refine aw_region eqok [] [] [] [2, 3, 4, 5, 13] [2, 3, 4, 5] [] ⟨[(2, tP 2 0), (3, tP 3 0), (4, tP 4 0), (5, tP 5 0), (13, tB m.Mirror)], [(2, .cells [.i 2, .i a0.X, .i a0.Y, .i a1.X, .i a1.Y, .i a2.X, .i a2.Y] 33), (3, .cells (TMotion.c m) 84), (4, .cells [.i 0, .i 0, .i 0, .i 0, .i 0, .i 0, .i 0] 33), (5, .cells [.clo 96 0 (fun _ => default), .clo 97 0 (fun _ => default), .clo 98 0 (fun _ => default), .i 3] 153)]⟩ .nil (by kernel_rfl) .nil ?_
  refine ath_n ?_
  refine aw_joinC (⟨[(2, tP 2 0), (3, tP 3 0), (4, tP 4 0)], [(2, .cells [.i (bif m.Mirror then 3 else 2), .i a0.X, .i a0.Y, .i a1.X, .i a1.Y, .i a2.X, .i a2.Y] 33), (3, .cells (TMotion.c m) 84), (4, .cells [.i 0, .i 0, .i 0, .i 0, .i 0, .i 0, .i 0] 33)]⟩) ?_ ?_
  · refine aw_cond (m.Mirror) (by kernel_rfl) (fun h1 => ?_) (fun h1 => ?_)
    · refine aw_region eqok [] [] [] [2, 3, 4] [2, 3, 4] [] ⟨[(2, tP 2 0), (3, tP 3 0), (4, tP 4 0)], [(2, .cells [.i 3, .i a0.X, .i a0.Y, .i a1.X, .i a1.Y, .i a2.X, .i a2.Y] 33), (3, .cells (TMotion.c m) 84), (4, .cells [.i 0, .i 0, .i 0, .i 0, .i 0, .i 0, .i 0] 33)]⟩ .nil (by kernel_rfl) .nil ?_
      refine ath_n ?_
      refine cv_eq ?_
      first | rfl | (simp only [h1, cond_true, cond_false]; done) | (simp only [h1, cond_true, cond_false]; rfl)
    · refine aw_skip ?_
      refine ath_n ?_
      refine Cv.trans (cv_keep [2, 3, 4] [2, 3, 4] (⟨[(2, tP 2 0), (3, tP 3 0), (4, tP 4 0)], [(2, .cells [.i 2, .i a0.X, .i a0.Y, .i a1.X, .i a1.Y, .i a2.X, .i a2.Y] 33), (3, .cells (TMotion.c m) 84), (4, .cells [.i 0, .i 0, .i 0, .i 0, .i 0, .i 0, .i 0] 33)]⟩) (by kernel_rfl)) (cv_eq ?_)
      first | rfl | (simp only [h1, cond_true, cond_false]; done) | (simp only [h1, cond_true, cond_false]; rfl)
  refine aw_seq ?_
  refine aw_seq ?_
  refine aw_region eqok [] [] [] [2, 3, 4, 19] [2, 3, 4] [] ⟨[(2, tP 2 0), (3, tP 3 0), (4, tP 4 0), (19, tB (!decide (((bif m.Mirror then 3 else 2) : Int) = 1)))], [(2, .cells [.i (bif m.Mirror then 3 else 2), .i a0.X, .i a0.Y, .i a1.X, .i a1.Y, .i a2.X, .i a2.Y] 33), (3, .cells (TMotion.c m) 84), (4, .cells [.i 0, .i 0, .i 0, .i 0, .i 0, .i 0, .i 0] 33)]⟩ .nil (by kernel_rfl) .nil ?_
  refine ath_n ?_
  refine aw_joinC (⟨[(2, tP 2 0), (3, tP 3 0), (4, tP 4 0)], [(2, .cells [.i (bif m.Mirror then 3 else 2), .i a0.X, .i a0.Y, .i a1.X, .i a1.Y, .i (bif !decide (((bif m.Mirror then 3 else 2) : Int) = 1) then ((FvecApply m a2).X) else a2.X), .i (bif !decide (((bif m.Mirror then 3 else 2) : Int) = 1) then ((FvecApply m a2).Y) else a2.Y)] 33), (3, .cells (TMotion.c m) 84), (4, .cells [.i 0, .i 0, .i 0, .i 0, .i 0, .i 0, .i 0] 33)]⟩) ?_ ?_
  · refine aw_cond (!decide (((bif m.Mirror then 3 else 2) : Int) = 1)) (by kernel_rfl) (fun h1 => ?_) (fun h1 => ?_)
    · have g1 := of_not_decide_true h1
      refine aw_region eqok [] [] [(23, cvecApply m a2)] [2, 3, 4] [2, 3, 4] [Same (cvecApply m a2).2.1] ⟨[(2, tP 2 0), (3, tP 3 0), (4, tP 4 0)], [(2, .cells [.i (bif m.Mirror then 3 else 2), .i a0.X, .i a0.Y, .i a1.X, .i a1.Y, .i ((FvecApply m a2).X), .i ((FvecApply m a2).Y)] 33), (3, .cells (TMotion.c m) 84), (4, .cells [.i 0, .i 0, .i 0, .i 0, .i 0, .i 0, .i 0] 33)]⟩ (.cons (okvecApply m a2) .nil) (by kernel_rfl) (.cons rfl .nil) ?_
      refine ath_n ?_
      refine cv_eq ?_
      first | rfl | (simp only [h1, cond_true, cond_false]; done) | (simp only [h1, cond_true, cond_false]; rfl)
    · have g1 := of_not_decide_false h1
      refine aw_skip ?_
      refine ath_n ?_
      refine Cv.trans (cv_keep [2, 3, 4] [2, 3, 4] (⟨[(2, tP 2 0), (3, tP 3 0), (4, tP 4 0)], [(2, .cells [.i (bif m.Mirror then 3 else 2), .i a0.X, .i a0.Y, .i a1.X, .i a1.Y, .i a2.X, .i a2.Y] 33), (3, .cells (TMotion.c m) 84), (4, .cells [.i 0, .i 0, .i 0, .i 0, .i 0, .i 0, .i 0] 33)]⟩) (by kernel_rfl)) (cv_eq ?_)
      first | rfl | (simp only [h1, cond_true, cond_false]; done) | (simp only [h1, cond_true, cond_false]; rfl)
  refine aw_seq ?_
  refine aw_draw mixed eqok [] [] [(28, cvecApply m a0), (32, cvecApply m a1)] [2, 4] [2, 4] [Same (cvecApply m a0).2.1, Same (cvecApply m a1).2.1] ⟨[(2, tP 2 0), (4, tP 4 0)], [(2, .cells [.i (bif m.Mirror then 3 else 2), .i ((FvecApply m a0).X), .i ((FvecApply m a0).Y), .i ((FvecApply m a1).X), .i ((FvecApply m a1).Y), .i (bif !decide (((bif m.Mirror then 3 else 2) : Int) = 1) then ((FvecApply m a2).X) else a2.X), .i (bif !decide (((bif m.Mirror then 3 else 2) : Int) = 1) then ((FvecApply m a2).Y) else a2.Y)] 33), (4, .cells [.i 0, .i 0, .i 0, .i 0, .i 0, .i 0, .i 0] 33)]⟩ (.cons (okvecApply m a0) (.cons (okvecApply m a1) .nil)) (by kernel_rfl) (by kernel_rfl) (.cons rfl (.cons rfl .nil)) ?_
  refine ath_n ?_
  refine aw_seq ?_
  refine aw_region eqok [] [] [] [4] [4] [] ⟨[(4, tP 4 0)], [(4, .cells [.i (bif m.Mirror then 3 else 2), .i ((FvecApply m a0).X), .i ((FvecApply m a0).Y), .i ((FvecApply m a1).X), .i ((FvecApply m a1).Y), .i (bif !decide (((bif m.Mirror then 3 else 2) : Int) = 1) then ((FvecApply m a2).X) else a2.X), .i (bif !decide (((bif m.Mirror then 3 else 2) : Int) = 1) then ((FvecApply m a2).Y) else a2.Y)] 33)]⟩ .nil (by kernel_rfl) .nil ?_
  refine ath_n ?_
  refine aw_ret ?_
  exact ⟨_, Cv.refl _, .inl rfl, .av (.agg [.i (bif m.Mirror then 3 else 2), .i ((FvecApply m a0).X), .i ((FvecApply m a0).Y), .i ((FvecApply m a1).X), .i ((FvecApply m a1).Y), .i (bif !decide (((bif m.Mirror then 3 else 2) : Int) = 1) then ((FvecApply m a2).X) else a2.X), .i (bif !decide (((bif m.Mirror then 3 else 2) : Int) = 1) then ((FvecApply m a2).Y) else a2.Y)]), by kernel_rfl, tve_eq (by rfl)⟩
theorem okMove2 (a0 : TPoint) (a1 : TPoint) (a2 : TPoint) (m : TMotion) : CallOk Try.prog (cMove2 a0 a1 a2 m).1 (cMove2 a0 a1 a2 m).2.1 (cMove2 a0 a1 a2 m).2.2 := callOk_pure (fun _ _ => by kernel_rfl) fun _ => pMove2 a0 a1 a2 m 
def FMove3 (a0 : TPoint) (a1 : TPoint) (a2 : TPoint) (m : TMotion) : TEdge := TEdge.mk (bif m.Mirror then 2 else 3) (FvecApply m a0) (FvecApply m a1) (TPoint.mk (bif !decide (((bif m.Mirror then 2 else 3) : Int) = 1) then ((FvecApply m a2).X) else a2.X) (bif !decide (((bif m.Mirror then 2 else 3) : Int) = 1) then ((FvecApply m a2).Y) else a2.Y))
def cMove3 (a0 : TPoint) (a1 : TPoint) (a2 : TPoint) (m : TMotion) : FuncId × List Av × Ef := (30, [.agg [.i 3, .i a0.X, .i a0.Y, .i a1.X, .i a1.Y, .i a2.X, .i a2.Y], .agg (TMotion.c m)], .val [] (.av (.agg (TEdge.c (FMove3 a0 a1 a2 m)))))
set_option maxRecDepth 100000 in
theorem pMove3 (a0 : TPoint) (a1 : TPoint) (a2 : TPoint) (m : TMotion) : Pure Try.prog 30 (cMove3 a0 a1 a2 m).2.1 (.av (.agg (TEdge.c (FMove3 a0 a1 a2 m)))) := by
  refine pure_of_awF Try.func30 rfl (by kernel_rfl) (by kernel_rfl) fun W0 M0 => ?_
  refine aw_seq ?_
  refine aw_region eqok [] [] [] [2, 3, 4] [2, 3, 4] [] ⟨[(2, tP 2 0), (3, tP 3 0), (4, tP 4 0)], [(2, .cells [.i 3, .i a0.X, .i a0.Y, .i a1.X, .i a1.Y, .i a2.X, .i a2.Y] 33), (3, .cells (TMotion.c m) 84), (4, .cells [.i 0, .i 0, .i 0, .i 0, .i 0, .i 0, .i 0] 33)]⟩ .nil (by kernel_rfl) .nil ?_
  refine ath_n ?_
  refine aw_seq ?_
  refine aw_seq ?_
  refine aw_region eqok [] [] [(9, cof3 a0 a1 a2)] [2, 3, 4, 5] [2, 3, 4, 5] [Same (cof3 a0 a1 a2).2.1] ⟨[(2, tP 2 0), (3, tP 3 0), (4, tP 4 0), (5, tP 5 0)], [(2, .cells [.i 3, .i a0.X, .i a0.Y, .i a1.X, .i a1.Y, .i a2.X, .i a2.Y] 33), (3, .cells (TMotion.c m) 84), (4, .cells [.i 0, .i 0, .i 0, .i 0, .i 0, .i 0, .i 0] 33), (5, .cells [.clo 99 0 (fun _ => default), .clo 97 0 (fun _ => default), .clo 98 0 (fun _ => default), .i 2] 153)]⟩ (.cons (okof3 a0 a1 a2) .nil) (by kernel_rfl) (.cons rfl .nil) ?_
  refine ath_n ?_
  refine aw_seq ?_
  refine aw_region eqok [] [] [] [2, 3, 4, 5, 13] [2, 3, 4, 5] [] ⟨[(2, tP 2 0), (3, tP 3 0), (4, tP 4 0), (5, tP 5 0), (13, tB m.Mirror)], [(2, .cells [.i 3, .i a0.X, .i a0.Y, .i a1.X, .i a1.Y, .i a2.X, .i a2.Y] 33), (3, .cells (TMotion.c m) 84), (4, .cells [.i 0, .i 0, .i 0, .i 0, .i 0, .i 0, .i 0] 33), (5, .cells [.clo 99 0 (fun _ => default), .clo 97 0 (fun _ => default), .clo 98 0 (fun _ => default), .i 2] 153)]⟩ .nil (by kernel_rfl) .nil ?_
  refine ath_n ?_
  refine aw_joinC (⟨[(2, tP 2 0), (3, tP 3 0), (4, tP 4 0)], [(2, .cells [.i (bif m.Mirror then 2 else 3), .i a0.X, .i a0.Y, .i a1.X, .i a1.Y, .i a2.X, .i a2.Y] 33), (3, .cells (TMotion.c m) 84), (4, .cells [.i 0, .i 0, .i 0, .i 0, .i 0, .i 0, .i 0] 33)]⟩) ?_ ?_
  · refine aw_cond (m.Mirror) (by kernel_rfl) (fun h1 => ?_) (fun h1 => ?_)
    · refine aw_region eqok [] [] [] [2, 3, 4] [2, 3, 4] [] ⟨[(2, tP 2 0), (3, tP 3 0), (4, tP 4 0)], [(2, .cells [.i 2, .i a0.X, .i a0.Y, .i a1.X, .i a1.Y, .i a2.X, .i a2.Y] 33), (3, .cells (TMotion.c m) 84), (4, .cells [.i 0, .i 0, .i 0, .i 0, .i 0, .i 0, .i 0] 33)]⟩ .nil (by kernel_rfl) .nil ?_
      refine ath_n ?_
      refine cv_eq ?_
      first | rfl | (simp only [h1, cond_true, cond_false]; done) | (simp only [h1, cond_true, cond_false]; rfl)
    · refine aw_skip ?_
      refine ath_n ?_
      refine Cv.trans (cv_keep [2, 3, 4] [2, 3, 4] (⟨[(2, tP 2 0), (3, tP 3 0), (4, tP 4 0)], [(2, .cells [.i 3, .i a0.X, .i a0.Y, .i a1.X, .i a1.Y, .i a2.X, .i a2.Y] 33), (3, .cells (TMotion.c m) 84), (4, .cells [.i 0, .i 0, .i 0, .i 0, .i 0, .i 0, .i 0] 33)]⟩) (by kernel_rfl)) (cv_eq ?_)
      first | rfl | (simp only [h1, cond_true, cond_false]; done) | (simp only [h1, cond_true, cond_false]; rfl)
  refine aw_seq ?_
  refine aw_seq ?_
  refine aw_region eqok [] [] [] [2, 3, 4, 19] [2, 3, 4] [] ⟨[(2, tP 2 0), (3, tP 3 0), (4, tP 4 0), (19, tB (!decide (((bif m.Mirror then 2 else 3) : Int) = 1)))], [(2, .cells [.i (bif m.Mirror then 2 else 3), .i a0.X, .i a0.Y, .i a1.X, .i a1.Y, .i a2.X, .i a2.Y] 33), (3, .cells (TMotion.c m) 84), (4, .cells [.i 0, .i 0, .i 0, .i 0, .i 0, .i 0, .i 0] 33)]⟩ .nil (by kernel_rfl) .nil ?_
  refine ath_n ?_
  refine aw_joinC (⟨[(2, tP 2 0), (3, tP 3 0), (4, tP 4 0)], [(2, .cells [.i (bif m.Mirror then 2 else 3), .i a0.X, .i a0.Y, .i a1.X, .i a1.Y, .i (bif !decide (((bif m.Mirror then 2 else 3) : Int) = 1) then ((FvecApply m a2).X) else a2.X), .i (bif !decide (((bif m.Mirror then 2 else 3) : Int) = 1) then ((FvecApply m a2).Y) else a2.Y)] 33), (3, .cells (TMotion.c m) 84), (4, .cells [.i 0, .i 0, .i 0, .i 0, .i 0, .i 0, .i 0] 33)]⟩) ?_ ?_
  · refine aw_cond (!decide (((bif m.Mirror then 2 else 3) : Int) = 1)) (by kernel_rfl) (fun h1 => ?_) (fun h1 => ?_)
    · have g1 := of_not_decide_true h1
      refine aw_region eqok [] [] [(23, cvecApply m a2)] [2, 3, 4] [2, 3, 4] [Same (cvecApply m a2).2.1] ⟨[(2, tP 2 0), (3, tP 3 0), (4, tP 4 0)], [(2, .cells [.i (bif m.Mirror then 2 else 3), .i a0.X, .i a0.Y, .i a1.X, .i a1.Y, .i ((FvecApply m a2).X), .i ((FvecApply m a2).Y)] 33), (3, .cells (TMotion.c m) 84), (4, .cells [.i 0, .i 0, .i 0, .i 0, .i 0, .i 0, .i 0] 33)]⟩ (.cons (okvecApply m a2) .nil) (by kernel_rfl) (.cons rfl .nil) ?_
      refine ath_n ?_
      refine cv_eq ?_
      first | rfl | (simp only [h1, cond_true, cond_false]; done) | (simp only [h1, cond_true, cond_false]; rfl)
    · have g1 := of_not_decide_false h1
      refine aw_skip ?_
      refine ath_n ?_
      refine Cv.trans (cv_keep [2, 3, 4] [2, 3, 4] (⟨[(2, tP 2 0), (3, tP 3 0), (4, tP 4 0)], [(2, .cells [.i (bif m.Mirror then 2 else 3), .i a0.X, .i a0.Y, .i a1.X, .i a1.Y, .i a2.X, .i a2.Y] 33), (3, .cells (TMotion.c m) 84), (4, .cells [.i 0, .i 0, .i 0, .i 0, .i 0, .i 0, .i 0] 33)]⟩) (by kernel_rfl)) (cv_eq ?_)
      first | rfl | (simp only [h1, cond_true, cond_false]; done) | (simp only [h1, cond_true, cond_false]; rfl)
  refine aw_seq ?_
  refine aw_draw mixed eqok [] [] [(28, cvecApply m a0), (32, cvecApply m a1)] [2, 4] [2, 4] [Same (cvecApply m a0).2.1, Same (cvecApply m a1).2.1] ⟨[(2, tP 2 0), (4, tP 4 0)], [(2, .cells [.i (bif m.Mirror then 2 else 3), .i ((FvecApply m a0).X), .i ((FvecApply m a0).Y), .i ((FvecApply m a1).X), .i ((FvecApply m a1).Y), .i (bif !decide (((bif m.Mirror then 2 else 3) : Int) = 1) then ((FvecApply m a2).X) else a2.X), .i (bif !decide (((bif m.Mirror then 2 else 3) : Int) = 1) then ((FvecApply m a2).Y) else a2.Y)] 33), (4, .cells [.i 0, .i 0, .i 0, .i 0, .i 0, .i 0, .i 0] 33)]⟩ (.cons (okvecApply m a0) (.cons (okvecApply m a1) .nil)) (by kernel_rfl) (by kernel_rfl) (.cons rfl (.cons rfl .nil)) ?_
  refine ath_n ?_
  refine aw_seq ?_
  refine aw_region eqok [] [] [] [4] [4] [] ⟨[(4, tP 4 0)], [(4, .cells [.i (bif m.Mirror then 2 else 3), .i ((FvecApply m a0).X), .i ((FvecApply m a0).Y), .i ((FvecApply m a1).X), .i ((FvecApply m a1).Y), .i (bif !decide (((bif m.Mirror then 2 else 3) : Int) = 1) then ((FvecApply m a2).X) else a2.X), .i (bif !decide (((bif m.Mirror then 2 else 3) : Int) = 1) then ((FvecApply m a2).Y) else a2.Y)] 33)]⟩ .nil (by kernel_rfl) .nil ?_
  refine ath_n ?_
  refine aw_ret ?_
  exact ⟨_, Cv.refl _, .inl rfl, .av (.agg [.i (bif m.Mirror then 2 else 3), .i ((FvecApply m a0).X), .i ((FvecApply m a0).Y), .i ((FvecApply m a1).X), .i ((FvecApply m a1).Y), .i (bif !decide (((bif m.Mirror then 2 else 3) : Int) = 1) then ((FvecApply m a2).X) else a2.X), .i (bif !decide (((bif m.Mirror then 2 else 3) : Int) = 1) then ((FvecApply m a2).Y) else a2.Y)]), by kernel_rfl, tve_eq (by rfl)⟩
theorem okMove3 (a0 : TPoint) (a1 : TPoint) (a2 : TPoint) (m : TMotion) : CallOk Try.prog (cMove3 a0 a1 a2 m).1 (cMove3 a0 a1 a2 m).2.1 (cMove3 a0 a1 a2 m).2.2 := callOk_pure (fun _ _ => by kernel_rfl) fun _ => pMove3 a0 a1 a2 m 
def FMoveN (e : TEdge) (m : TMotion) : TEdge := TEdge.mk e.Kind (FvecApply m e.A) (FvecApply m e.B) (TPoint.mk (bif !decide ((e.Kind : Int) = 1) then ((FvecApply m e.C).X) else e.C.X) (bif !decide ((e.Kind : Int) = 1) then ((FvecApply m e.C).Y) else e.C.Y))
def cMoveN (e : TEdge) (m : TMotion) : FuncId × List Av × Ef := (30, [.agg (TEdge.c e), .agg (TMotion.c m)], .val [] (.av (.agg (TEdge.c (FMoveN e m)))))
set_option maxRecDepth 100000 in
theorem pMoveN (e : TEdge) (m : TMotion) (k1 : ¬ e.Kind = 1) (k2 : ¬ e.Kind = 2) (k3 : ¬ e.Kind = 3) : Pure Try.prog 30 (cMoveN e m).2.1 (.av (.agg (TEdge.c (FMoveN e m)))) := by
  refine pure_of_awF Try.func30 rfl (by kernel_rfl) (by kernel_rfl) fun W0 M0 => ?_
  refine aw_seq ?_
  refine aw_region eqok [] [] [] [2, 3, 4] [2, 3, 4] [] ⟨[(2, tP 2 0), (3, tP 3 0), (4, tP 4 0)], [(2, .cells (TEdge.c e) 33), (3, .cells (TMotion.c m) 84), (4, .cells [.i 0, .i 0, .i 0, .i 0, .i 0, .i 0, .i 0] 33)]⟩ .nil (by kernel_rfl) .nil ?_
  refine ath_n ?_
  refine aw_seq ?_
  refine aw_seq ?_
  refine aw_region eqok [] [] [(9, cofN e)] [2, 3, 4, 5] [2, 3, 4, 5] [Same (cofN e).2.1] ⟨[(2, tP 2 0), (3, tP 3 0), (4, tP 4 0), (5, tP 5 0)], [(2, .cells (TEdge.c e) 33), (3, .cells (TMotion.c m) 84), (4, .cells [.i 0, .i 0, .i 0, .i 0, .i 0, .i 0, .i 0] 33), (5, .cells [.val .nilFunc, .val .nilFunc, .val .nilFunc, .i e.Kind] 153)]⟩ (.cons (okofN e k1 k2 k3) .nil) (by kernel_rfl) (.cons rfl .nil) ?_
  refine ath_n ?_
  refine aw_seq ?_
  refine aw_region eqok [] [] [] [2, 3, 4, 5, 13] [2, 3, 4, 5] [] ⟨[(2, tP 2 0), (3, tP 3 0), (4, tP 4 0), (5, tP 5 0), (13, tB m.Mirror)], [(2, .cells (TEdge.c e) 33), (3, .cells (TMotion.c m) 84), (4, .cells [.i 0, .i 0, .i 0, .i 0, .i 0, .i 0, .i 0] 33), (5, .cells [.val .nilFunc, .val .nilFunc, .val .nilFunc, .i e.Kind] 153)]⟩ .nil (by kernel_rfl) .nil ?_
  refine ath_n ?_
  refine aw_joinC (⟨[(2, tP 2 0), (3, tP 3 0), (4, tP 4 0)], [(2, .cells (TEdge.c e) 33), (3, .cells (TMotion.c m) 84), (4, .cells [.i 0, .i 0, .i 0, .i 0, .i 0, .i 0, .i 0] 33)]⟩) ?_ ?_
  · refine aw_cond (m.Mirror) (by kernel_rfl) (fun h4 => ?_) (fun h4 => ?_)
    · refine aw_region eqok [] [] [] [2, 3, 4] [2, 3, 4] [] ⟨[(2, tP 2 0), (3, tP 3 0), (4, tP 4 0)], [(2, .cells (TEdge.c e) 33), (3, .cells (TMotion.c m) 84), (4, .cells [.i 0, .i 0, .i 0, .i 0, .i 0, .i 0, .i 0] 33)]⟩ .nil (by kernel_rfl) .nil ?_
      refine ath_n ?_
      refine cv_eq ?_
      first | rfl | (simp only [h4, cond_true, cond_false]; done) | (simp only [h4, cond_true, cond_false]; rfl)
    · refine aw_skip ?_
      refine ath_n ?_
      refine Cv.trans (cv_keep [2, 3, 4] [2, 3, 4] (⟨[(2, tP 2 0), (3, tP 3 0), (4, tP 4 0)], [(2, .cells (TEdge.c e) 33), (3, .cells (TMotion.c m) 84), (4, .cells [.i 0, .i 0, .i 0, .i 0, .i 0, .i 0, .i 0] 33)]⟩) (by kernel_rfl)) (cv_eq ?_)
      first | rfl | (simp only [h4, cond_true, cond_false]; done) | (simp only [h4, cond_true, cond_false]; rfl)
  refine aw_seq ?_
  refine aw_seq ?_
  refine aw_region eqok [] [] [] [2, 3, 4, 19] [2, 3, 4] [] ⟨[(2, tP 2 0), (3, tP 3 0), (4, tP 4 0), (19, tB (!decide ((e.Kind : Int) = 1)))], [(2, .cells (TEdge.c e) 33), (3, .cells (TMotion.c m) 84), (4, .cells [.i 0, .i 0, .i 0, .i 0, .i 0, .i 0, .i 0] 33)]⟩ .nil (by kernel_rfl) .nil ?_
  refine ath_n ?_
  refine aw_joinC (⟨[(2, tP 2 0), (3, tP 3 0), (4, tP 4 0)], [(2, .cells [.i e.Kind, .i e.A.X, .i e.A.Y, .i e.B.X, .i e.B.Y, .i (bif !decide ((e.Kind : Int) = 1) then ((FvecApply m e.C).X) else e.C.X), .i (bif !decide ((e.Kind : Int) = 1) then ((FvecApply m e.C).Y) else e.C.Y)] 33), (3, .cells (TMotion.c m) 84), (4, .cells [.i 0, .i 0, .i 0, .i 0, .i 0, .i 0, .i 0] 33)]⟩) ?_ ?_
  · refine aw_cond (!decide ((e.Kind : Int) = 1)) (by kernel_rfl) (fun h4 => ?_) (fun h4 => ?_)
    · have g4 := of_not_decide_true h4
      refine aw_region eqok [] [] [(23, cvecApply m e.C)] [2, 3, 4] [2, 3, 4] [Same (cvecApply m e.C).2.1] ⟨[(2, tP 2 0), (3, tP 3 0), (4, tP 4 0)], [(2, .cells [.i e.Kind, .i e.A.X, .i e.A.Y, .i e.B.X, .i e.B.Y, .i ((FvecApply m e.C).X), .i ((FvecApply m e.C).Y)] 33), (3, .cells (TMotion.c m) 84), (4, .cells [.i 0, .i 0, .i 0, .i 0, .i 0, .i 0, .i 0] 33)]⟩ (.cons (okvecApply m e.C) .nil) (by kernel_rfl) (.cons rfl .nil) ?_
      refine ath_n ?_
      refine cv_eq ?_
      first | rfl | (simp only [h4, cond_true, cond_false]; done) | (simp only [h4, cond_true, cond_false]; rfl)
    · have g4 := of_not_decide_false h4
      refine aw_skip ?_
      refine ath_n ?_
      refine Cv.trans (cv_keep [2, 3, 4] [2, 3, 4] (⟨[(2, tP 2 0), (3, tP 3 0), (4, tP 4 0)], [(2, .cells (TEdge.c e) 33), (3, .cells (TMotion.c m) 84), (4, .cells [.i 0, .i 0, .i 0, .i 0, .i 0, .i 0, .i 0] 33)]⟩) (by kernel_rfl)) (cv_eq ?_)
      first | rfl | (simp only [h4, cond_true, cond_false]; done) | (simp only [h4, cond_true, cond_false]; rfl)
  refine aw_seq ?_
  refine aw_draw mixed eqok [] [] [(28, cvecApply m e.A), (32, cvecApply m e.B)] [2, 4] [2, 4] [Same (cvecApply m e.A).2.1, Same (cvecApply m e.B).2.1] ⟨[(2, tP 2 0), (4, tP 4 0)], [(2, .cells [.i e.Kind, .i ((FvecApply m e.A).X), .i ((FvecApply m e.A).Y), .i ((FvecApply m e.B).X), .i ((FvecApply m e.B).Y), .i (bif !decide ((e.Kind : Int) = 1) then ((FvecApply m e.C).X) else e.C.X), .i (bif !decide ((e.Kind : Int) = 1) then ((FvecApply m e.C).Y) else e.C.Y)] 33), (4, .cells [.i 0, .i 0, .i 0, .i 0, .i 0, .i 0, .i 0] 33)]⟩ (.cons (okvecApply m e.A) (.cons (okvecApply m e.B) .nil)) (by kernel_rfl) (by kernel_rfl) (.cons rfl (.cons rfl .nil)) ?_
  refine ath_n ?_
  refine aw_seq ?_
  refine aw_region eqok [] [] [] [4] [4] [] ⟨[(4, tP 4 0)], [(4, .cells [.i e.Kind, .i ((FvecApply m e.A).X), .i ((FvecApply m e.A).Y), .i ((FvecApply m e.B).X), .i ((FvecApply m e.B).Y), .i (bif !decide ((e.Kind : Int) = 1) then ((FvecApply m e.C).X) else e.C.X), .i (bif !decide ((e.Kind : Int) = 1) then ((FvecApply m e.C).Y) else e.C.Y)] 33)]⟩ .nil (by kernel_rfl) .nil ?_
  refine ath_n ?_
  refine aw_ret ?_
  exact ⟨_, Cv.refl _, .inl rfl, .av (.agg [.i e.Kind, .i ((FvecApply m e.A).X), .i ((FvecApply m e.A).Y), .i ((FvecApply m e.B).X), .i ((FvecApply m e.B).Y), .i (bif !decide ((e.Kind : Int) = 1) then ((FvecApply m e.C).X) else e.C.X), .i (bif !decide ((e.Kind : Int) = 1) then ((FvecApply m e.C).Y) else e.C.Y)]), by kernel_rfl, tve_eq (by rfl)⟩
theorem okMoveN (e : TEdge) (m : TMotion) (k1 : ¬ e.Kind = 1) (k2 : ¬ e.Kind = 2) (k3 : ¬ e.Kind = 3) : CallOk Try.prog (cMoveN e m).1 (cMoveN e m).2.1 (cMoveN e m).2.2 := callOk_pure (fun _ _ => by kernel_rfl) fun _ => pMoveN e m k1 k2 k3
def FMove (e : TEdge) (m : TMotion) : TEdge := if e.Kind = 1 then FMove1 e.A e.B e.C m else if e.Kind = 2 then FMove2 e.A e.B e.C m else if e.Kind = 3 then FMove3 e.A e.B e.C m else FMoveN e m
def cMove (e : TEdge) (m : TMotion) : FuncId × List Av × Ef := (30, [.agg (TEdge.c e), .agg (TMotion.c m)], .val [] (.av (.agg (TEdge.c (FMove e m)))))
theorem pMove (e : TEdge) (m : TMotion) : Pure Try.prog 30 (cMove e m).2.1 (.av (.agg (TEdge.c (FMove e m)))) := by
  by_cases k1 : e.Kind = 1
  · have hF : FMove e m = FMove1 e.A e.B e.C m := by unfold FMove; rw [if_pos k1]
    rw [hF]; obtain ⟨k, a0, a1, a2⟩ := e; simp only at k1; subst k1; exact pMove1 a0 a1 a2 m
  by_cases k2 : e.Kind = 2
  · have hF : FMove e m = FMove2 e.A e.B e.C m := by unfold FMove; rw [if_neg k1]; rw [if_pos k2]
    rw [hF]; obtain ⟨k, a0, a1, a2⟩ := e; simp only at k2; subst k2; exact pMove2 a0 a1 a2 m
  by_cases k3 : e.Kind = 3
  · have hF : FMove e m = FMove3 e.A e.B e.C m := by unfold FMove; rw [if_neg k1]; rw [if_neg k2]; rw [if_pos k3]
    rw [hF]; obtain ⟨k, a0, a1, a2⟩ := e; simp only at k3; subst k3; exact pMove3 a0 a1 a2 m
  have hF : FMove e m = FMoveN e m := by unfold FMove; rw [if_neg k1, if_neg k2, if_neg k3]
  rw [hF]; exact pMoveN e m k1 k2 k3
theorem okMove (e : TEdge) (m : TMotion) : CallOk Try.prog (cMove e m).1 (cMove e m).2.1 (cMove e m).2.2 := callOk_pure (fun _ _ => by kernel_rfl) fun _ => pMove e m
end Go.Proofs.Ytgmhnkoifdpemaa
