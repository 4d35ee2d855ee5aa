/-
  No statement is proved in this text. It holds what functions return.
-/
import Derived.Test.YtoojlpcimogehaaProg
import Derived.Test.YtoojlpcimogehaaS20
namespace Go.Proofs.Ytoojlpcimogehaa
open Go.RowKit
set_option linter.unusedVariables false
set_option linter.unusedSimpArgs false
theorem mixed : Try.prog.follows .mixedOrders = true := by kernel_rfl
structure TPoint where
  X : Int
  Y : Int
  deriving Inhabited
def TPoint.c (x : TPoint) : List Cl := [.i x.X, .i x.Y]

structure TEdge where
  Kind : Int
  A : TPoint
  B : TPoint
  C : TPoint
  deriving Inhabited
def TEdge.c (x : TEdge) : List Cl := [.i x.Kind, .i x.A.X, .i x.A.Y, .i x.B.X, .i x.B.Y, .i x.C.X, .i x.C.Y]

structure TRect where
  X0 : Int
  Y0 : Int
  X1 : Int
  Y1 : Int
  deriving Inhabited
def TRect.c (x : TRect) : List Cl := [.i x.X0, .i x.Y0, .i x.X1, .i x.Y1]

structure TMotion where
  At : TPoint
  Turn : Int
  Mirror : Bool
  deriving Inhabited
def TMotion.c (x : TMotion) : List Cl := [.i x.At.X, .i x.At.Y, .i x.Turn, .b x.Mirror]

structure TDraw where
  L : (List Int)
  At : Int
  deriving Inhabited
def TDraw.c (x : TDraw) : List Cl := [lst 1 (fun x => [.i x]) x.L, .i x.At]

structure TShape where
  Kind : Int
  Edges : (List TEdge)
  R : Int
  deriving Inhabited
def TShape.c (x : TShape) : List Cl := [.i x.Kind, lst 7 TEdge.c x.Edges, .i x.R]

structure TItem where
  Id : Int
  Pad : ByteArray
  Kind : Int
  Net : ByteArray
  From : Int
  To : Int
  Shape : TShape
  deriving Inhabited
def TItem.c (x : TItem) : List Cl := [.i x.Id, .s x.Pad, .i x.Kind, .s x.Net, .i x.From, .i x.To, .i x.Shape.Kind, lst 7 TEdge.c x.Shape.Edges, .i x.Shape.R]

structure TClass where
  Name : ByteArray
  Nets : (List ByteArray)
  deriving Inhabited
def TClass.c (x : TClass) : List Cl := [.s x.Name, lst 1 (fun x => [.s x]) x.Nets]

structure TPlaced where
  Id : Int
  Ref : ByteArray
  Type' : ByteArray
  At : TPoint
  Turn : Int
  Under : Bool
  deriving Inhabited
def TPlaced.c (x : TPlaced) : List Cl := [.i x.Id, .s x.Ref, .s x.Type', .i x.At.X, .i x.At.Y, .i x.Turn, .b x.Under]

structure TPin where
  Ref : ByteArray
  Pad : ByteArray
  deriving Inhabited
def TPin.c (x : TPin) : List Cl := [.s x.Ref, .s x.Pad]

structure TNet where
  Name : ByteArray
  Pins : (List TPin)
  deriving Inhabited
def TNet.c (x : TNet) : List Cl := [.s x.Name, lst 2 TPin.c x.Pins]

structure TTrack where
  Id : Int
  Net : ByteArray
  Layer : Int
  Shape : TShape
  deriving Inhabited
def TTrack.c (x : TTrack) : List Cl := [.i x.Id, .s x.Net, .i x.Layer, .i x.Shape.Kind, lst 7 TEdge.c x.Shape.Edges, .i x.Shape.R]

structure TVia where
  Id : Int
  Net : ByteArray
  At : TPoint
  R : Int
  Drill : Int
  From : Int
  To : Int
  deriving Inhabited
def TVia.c (x : TVia) : List Cl := [.i x.Id, .s x.Net, .i x.At.X, .i x.At.Y, .i x.R, .i x.Drill, .i x.From, .i x.To]

structure TPour where
  Id : Int
  Net : ByteArray
  Layer : Int
  Pitch : Int
  Priority : Int
  Relief : Int
  Spoke : Int
  Rects : (List TRect)
  deriving Inhabited
def TPour.c (x : TPour) : List Cl := [.i x.Id, .s x.Net, .i x.Layer, .i x.Pitch, .i x.Priority, .i x.Relief, .i x.Spoke, lst 4 TRect.c x.Rects]

structure TKeep where
  Id : Int
  Layer : Int
  Shape : TShape
  deriving Inhabited
def TKeep.c (x : TKeep) : List Cl := [.i x.Id, .i x.Layer, .i x.Shape.Kind, lst 7 TEdge.c x.Shape.Edges, .i x.Shape.R]

structure TSlot where
  Id : Int
  Shape : TShape
  deriving Inhabited
def TSlot.c (x : TSlot) : List Cl := [.i x.Id, .i x.Shape.Kind, lst 7 TEdge.c x.Shape.Edges, .i x.Shape.R]

structure TWaiver where
  A : Int
  B : Int
  Rule : ByteArray
  deriving Inhabited
def TWaiver.c (x : TWaiver) : List Cl := [.i x.A, .i x.B, .s x.Rule]

structure TMatch where
  Name : ByteArray
  Nets : (List ByteArray)
  Within : Int
  deriving Inhabited
def TMatch.c (x : TMatch) : List Cl := [.s x.Name, lst 1 (fun x => [.s x]) x.Nets, .i x.Within]

inductive TCond where
  | mk (Op : Int) (Text : ByteArray) (N : Int) (Box : TRect) (L : List TCond)
def TCond.Op : TCond → Int | .mk a _ _ _ _ => a
def TCond.Text : TCond → ByteArray | .mk _ a _ _ _ => a
def TCond.N : TCond → Int | .mk _ _ a _ _ => a
def TCond.Box : TCond → TRect | .mk _ _ _ a _ => a
def TCond.L : TCond → List TCond | .mk _ _ _ _ a => a
instance : Inhabited TCond := ⟨.mk 0 ⟨#[]⟩ 0 default []⟩

def condC (G : List TCond → Cl) (x : TCond) : List Cl := [.i x.Op, .s x.Text, .i x.N, .i x.Box.X0, .i x.Box.Y0, .i x.Box.X1, .i x.Box.Y1, G x.L]
def llLen : Nat → List TCond → Nat
  | 0, _ => 0
  | _ + 1, l => l.length
def llF : Nat → List TCond → Nat → Nat → Cl
  | 0, _, _, _ => default
  | n + 1, l, i, j => (condC (fun l' => .list false 8 (llLen n l') (llF n l')) (l.getD i default)).getD j default
def LL (n : Nat) (l : List TCond) : Cl := .list false 8 (llLen n l) (llF n l)
theorem cle_LL : ∀ n, ClE (.val (.slice none 0 0)) (LL n [])
  | 0 => .nil _ _
  | _ + 1 => .nil _ _

structure TRule where
  Name : ByteArray
  Priority : Int
  What : Int
  A : TCond
  B : TCond
  Value : Int
  deriving Inhabited
def ruleC (G : List TCond → Cl) (x : TRule) : List Cl := [.s x.Name, .i x.Priority, .i x.What, .i x.A.Op, .s x.A.Text, .i x.A.N, .i x.A.Box.X0, .i x.A.Box.Y0, .i x.A.Box.X1, .i x.A.Box.Y1, G x.A.L, .i x.B.Op, .s x.B.Text, .i x.B.N, .i x.B.Box.X0, .i x.B.Box.Y0, .i x.B.Box.X1, .i x.B.Box.Y1, G x.B.L, .i x.Value]

structure TBoard where
  Layers : Int
  Outline : TShape
  Parts : (List TPlaced)
  Nets : (List TNet)
  Tracks : (List TTrack)
  Vias : (List TVia)
  Pours : (List TPour)
  Keeps : (List TKeep)
  Slots : (List TSlot)
  Classes : (List TClass)
  Rules : (List TRule)
  Waivers : (List TWaiver)
  Matches : (List TMatch)
  deriving Inhabited
def boardC (G : List TCond → Cl) (x : TBoard) : List Cl := [.i x.Layers, .i x.Outline.Kind, lst 7 TEdge.c x.Outline.Edges, .i x.Outline.R, lst 7 TPlaced.c x.Parts, lst 2 TNet.c x.Nets, lst 6 TTrack.c x.Tracks, lst 8 TVia.c x.Vias, lst 8 TPour.c x.Pours, lst 5 TKeep.c x.Keeps, lst 4 TSlot.c x.Slots, lst 2 TClass.c x.Classes, lst 20 (ruleC G) x.Rules, lst 3 TWaiver.c x.Waivers, lst 3 TMatch.c x.Matches]

structure TAsked where
  b : TBoard
  x : TItem
  layer : Int
  deriving Inhabited
def askedC (G : List TCond → Cl) (x : TAsked) : List Cl := [.i x.b.Layers, .i x.b.Outline.Kind, lst 7 TEdge.c x.b.Outline.Edges, .i x.b.Outline.R, lst 7 TPlaced.c x.b.Parts, lst 2 TNet.c x.b.Nets, lst 6 TTrack.c x.b.Tracks, lst 8 TVia.c x.b.Vias, lst 8 TPour.c x.b.Pours, lst 5 TKeep.c x.b.Keeps, lst 4 TSlot.c x.b.Slots, lst 2 TClass.c x.b.Classes, lst 20 (ruleC G) x.b.Rules, lst 3 TWaiver.c x.b.Waivers, lst 3 TMatch.c x.b.Matches, .i x.x.Id, .s x.x.Pad, .i x.x.Kind, .s x.x.Net, .i x.x.From, .i x.x.To, .i x.x.Shape.Kind, lst 7 TEdge.c x.x.Shape.Edges, .i x.x.Shape.R, .i x.layer]

structure TA24 where
  e0 : (List Int)
  e1 : (List Int)
  deriving Inhabited
def TA24.c (x : TA24) : List Cl := [lst 1 (fun x => [.i x]) x.e0, lst 1 (fun x => [.i x]) x.e1]

structure TA71 where
  e0 : Int
  e1 : Int
  deriving Inhabited
def TA71.c (x : TA71) : List Cl := [.i x.e0, .i x.e1]
/-- Types that are compared cell by cell. -/
def eqE : TypeId → Option (List Kd) := fun T => get [(68, [.int .i64, .int .i64, .str])] T
set_option maxRecDepth 100000 in
theorem eqok : EqOk Try.prog ⟨fun _ => none, eqE, fun _ => false, fun _ => none⟩ := by
  intro T ks h
  have hm : (T, ks) ∈ _ := get_mem h
  simp only [List.mem_cons, Prod.mk.injEq, List.not_mem_nil, or_false] at hm
  obtain ⟨rfl, rfl⟩ := hm
  exact ⟨by kernel_rfl, by kernel_rfl, _, rfl, rfl⟩
def FedgeBox (x0 : TEdge) : TRect := TRect.mk (min x0.A.X x0.B.X) (min x0.A.Y x0.B.Y) (max x0.A.X x0.B.X) (max x0.A.Y x0.B.Y)
def cedgeBox (x0 : TEdge) : FuncId × List Av × Ef := (76, [.agg (TEdge.c x0)], .val [] (.av (.agg (TRect.c (FedgeBox x0)))))
set_option maxRecDepth 100000 in
theorem pedgeBox (x0 : TEdge) : Pure Try.prog 76 (cedgeBox x0).2.1 (.av (.agg (TRect.c (FedgeBox x0)))) := by
  refine pure_of_awF Try.func76 rfl (by kernel_rfl) (by kernel_rfl) fun W0 M0 => ?_
  refine aw_seq ?_
  refine aw_region eqok [] [] [] [1, 2] [1, 2] [] ⟨[(1, tP 1 0), (2, tP 2 0)], [(1, .cells (TEdge.c x0) 124), (2, .cells [.i 0, .i 0, .i 0, .i 0] 55)]⟩ .nil (by kernel_rfl) .nil ?_
  refine ath_n ?_
  refine aw_seq ?_
  refine aw_region eqok [] [] [] [2] [2] [] ⟨[(2, tP 2 0)], [(2, .cells [.i (min x0.A.X x0.B.X), .i (min x0.A.Y x0.B.Y), .i (max x0.A.X x0.B.X), .i (max x0.A.Y x0.B.Y)] 55)]⟩ .nil (by kernel_rfl) .nil ?_
  refine ath_n ?_
  refine aw_ret ?_
  exact ⟨_, Cv.refl _, .inl rfl, .av (.agg [.i (min x0.A.X x0.B.X), .i (min x0.A.Y x0.B.Y), .i (max x0.A.X x0.B.X), .i (max x0.A.Y x0.B.Y)]), by kernel_rfl, tve_eq (by rfl)⟩
theorem okedgeBox (x0 : TEdge) : CallOk Try.prog (cedgeBox x0).1 (cedgeBox x0).2.1 (cedgeBox x0).2.2 := callOk_pure (fun _ _ => by kernel_rfl) fun _ => pedgeBox x0 
end Go.Proofs.Ytoojlpcimogehaa
