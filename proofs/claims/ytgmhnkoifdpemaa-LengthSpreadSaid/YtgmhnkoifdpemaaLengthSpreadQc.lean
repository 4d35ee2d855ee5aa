/-
  No statement is proved in this text. It holds a part of what the proof of LengthSpread needs.
-/
import Derived.Test.YtgmhnkoifdpemaaLengthSpreadQb
namespace Go.Proofs.Ytgmhnkoifdpemaa
set_option maxRecDepth 100000
set_option linter.unusedVariables false
set_option linter.unusedSimpArgs false
section
open Go.RowKit Go.MapKept
section
variable {K V : Type} [Inhabited K] [Inhabited V]
def kfG (ck : K -> Value) (l : List (K × V)) : Nat -> Value := fun i => ck (l.getD i default).1
def vfG (c : V -> List Cl) (l : List (K × V)) : Nat -> Nat -> Cl := fun i j => (c (l.getD i default).2).getD j default
def mhas (eq : K -> K -> Bool) (l : List (K × V)) (k : K) : Bool := l.any fun e => eq e.1 k
def mfind (eq : K -> K -> Bool) (l : List (K × V)) (k : K) : Nat := l.findIdx fun e => eq e.1 k
def mput (eq : K -> K -> Bool) (l : List (K × V)) (k : K) (v : V) : List (K × V) := bif mhas eq l k then l.set (mfind eq l k) (k, v) else l ++ [(k, v)]
theorem mfind_lt {eq : K -> K -> Bool} {l : List (K × V)} {k : K} (h : mhas eq l k = true) : mfind eq l k < l.length /\ eq (l.getD (mfind eq l k) default).1 k = true /\ ∀ j, j < mfind eq l k -> eq (l.getD j default).1 k = false := by
 unfold mhas at h
 obtain ⟨x, hx, hxk⟩ := List.any_eq_true.1 h
 have hlt : l.findIdx (fun e => eq e.1 k) < l.length := List.findIdx_lt_length.2 ⟨x, hx, hxk⟩
 refine ⟨hlt, ?_, fun j hj => ?_⟩
 ·have := List.findIdx_getElem (w := hlt)
  unfold mfind
  rw [List.getD_eq_getElem?_getD, List.getElem?_eq_getElem hlt]
  exact this
 ·have := List.not_of_lt_findIdx hj
  have hj' : j < l.length := Nat.lt_trans hj hlt
  rw [List.getD_eq_getElem?_getD, List.getElem?_eq_getElem hj']
  exact this
theorem mhas_no {eq : K -> K -> Bool} {l : List (K × V)} {k : K} (h : mhas eq l k = false) : ∀ j, j < l.length -> eq (l.getD j default).1 k = false := by
 intro j hj
 unfold mhas at h
 have := (List.any_eq_false.1 h) l[j] (List.getElem_mem hj)
 rw [List.getD_eq_getElem?_getD, List.getElem?_eq_getElem hj]
 simpa using this
theorem lookK_of {P : Program} {E : TypeId -> Option (List Kd)} {kt : TypeId} {ck : K -> Value} {eq : K -> K -> Bool} (heq : ∀ a b, eq a b = true ↔ ck a = ck b) (hfit : ∀ k, KeyFit P E kt (ck k)) (l : List (K × V)) (k : K) :
  LookK P E kt l.length (kfG ck l) (ck k) (mhas eq l k) (mfind eq l k) := by
 refine ⟨hfit k, fun j _ => hfit _, fun h => ?_, fun h j hj => ?_⟩
 ·obtain ⟨h1, h2, h3⟩ := mfind_lt h
  refine ⟨h1, (heq _ _).1 h2, fun j hj e => ?_⟩
  have := (heq _ _).2 e
  rw [h3 j hj] at this
  cases this
 ·intro e
  have := (heq _ _).2 e
  rw [mhas_no h j hj] at this
  cases this
omit [Inhabited K] [Inhabited V] in
theorem mput_len (eq : K -> K -> Bool) (l : List (K × V)) (k : K) (v : V) : (bif mhas eq l k then l.length else l.length + 1) = (mput eq l k v).length := by
 unfold mput
 cases mhas eq l k <;> simp
theorem mput_get {eq : K -> K -> Bool} {l : List (K × V)} {k : K} {v : V} (j : Nat) (hj : j < (mput eq l k v).length) : (mput eq l k v).getD j default = bif Nat.beq j (bif mhas eq l k then mfind eq l k else l.length) then (k, v) else l.getD j default := by
 rw [<- mput_len] at hj
 unfold mput
 cases h : mhas eq l k with
 | true =>
  rw [h] at hj
  simp only [cond_true] at *
  have hlt := (mfind_lt h).1
  rw [List.getD_eq_getElem?_getD, List.getElem?_set, beqN]
  by_cases e : mfind eq l k = j
  ·subst e; simp [hlt]
  ·rw [if_neg e, decide_eq_false (Ne.symm e), cond_false, List.getD_eq_getElem?_getD]
 | false =>
  rw [h] at hj
  simp only [cond_false] at *
  rw [List.getD_eq_getElem?_getD, beqN]
  by_cases e : j = l.length
  ·subst e
   rw [decide_eq_true rfl, cond_true, List.getElem?_append_right (Nat.le_refl _), Nat.sub_self]
   rfl
  ·rw [decide_eq_false e, cond_false, List.getElem?_append_left (by omega), List.getD_eq_getElem?_getD]
theorem bke_mput {ck : K -> Value} {cv : V -> List Cl} {eq : K -> K -> Bool} {agg : Bool} {nv : Nat} (l : List (K × V)) (k : K) (v : V) (cells : List Cl) (hc : cells = cv v) :
  BlkE (.omap agg nv (bif mhas eq l k then l.length else l.length + 1) (fun j => bif Nat.beq j (bif mhas eq l k then mfind eq l k else l.length) then ck k else kfG ck l j) (fun j c => bif Nat.beq j (bif mhas eq l k then mfind eq l k else l.length) then cells.getD c default else vfG cv l j c))
   (.omap agg nv (mput eq l k v).length (kfG ck (mput eq l k v)) (vfG cv (mput eq l k v))) := by
 subst hc
 refine .omap agg nv (mput_len eq l k v) (fun j hj => ?_) (fun j c hj _ => ?_)
 ·unfold kfG
  rw [mput_get j hj]
  cases Nat.beq j (bif mhas eq l k then mfind eq l k else l.length) <;> rfl
 ·have : (bif Nat.beq j (bif mhas eq l k then mfind eq l k else l.length) then (cv v).getD c default else vfG cv l j c) = vfG cv (mput eq l k v) j c := by
   unfold vfG
   rw [mput_get j hj]
   cases Nat.beq j (bif mhas eq l k then mfind eq l k else l.length) <;> rfl
  rw [this]
  exact .refl _
theorem bke_mnew {ck : K -> Value} {cv : V -> List Cl} {agg : Bool} {nv : Nat} : BlkE (.omap agg nv 0 (fun _ => undef) (fun _ _ => default)) (.omap agg nv ([] : List (K × V)).length (kfG ck ([] : List (K × V))) (vfG cv ([] : List (K × V)))) :=
 .omap agg nv rfl (fun j hj => absurd hj (Nat.not_lt_zero _)) (fun j c hj _ => absurd hj (Nat.not_lt_zero _))
end
def eqS (a b : ByteArray) : Bool := a.toList == b.toList
theorem eqS_ok (a b : ByteArray) : eqS a b = true ↔ Value.string a = Value.string b := by
 unfold eqS
 rw [beq_iff_eq, Value.string.injEq]
 exact ⟨ba_inj, fun h => by rw [h]⟩
theorem fit_str {P : Program} {E : TypeId -> Option (List Kd)} {kt : TypeId} (h : P.underlying kt = some .string) (k : ByteArray) : KeyFit P E kt (.string k) := .inl ⟨_, h, trivial⟩
end
section
open Go.RowKit
theorem mixed : Try.prog.follows .mixedOrders = true := by kernel_rfl
structure TPoint where
 X : Int
 Y : Int
 deriving Inhabited
def TPoint.c (x : TPoint) : List Cl := [.i x.X, .i x.Y]
structure TMotion where
 At : TPoint
 Turn : Int
 Mirror : Bool
 deriving Inhabited
def TMotion.c (x : TMotion) : List Cl := [.i x.At.X, .i x.At.Y, .i x.Turn, .b x.Mirror]
structure TEdge where
 Kind : Int
 A : TPoint
 B : TPoint
 C : TPoint
 deriving Inhabited
def TEdge.c (x : TEdge) : List Cl := [.i x.Kind, .i x.A.X, .i x.A.Y, .i x.B.X, .i x.B.Y, .i x.C.X, .i x.C.Y]
structure TDraw where
 L : (List Int)
 At : Int
 deriving Inhabited
def TDraw.c (x : TDraw) : List Cl := [lst 1 (fun x => [.i x]) x.L, .i x.At]
structure OpL where
 len : Nat
 f : Nat -> Nat -> Cl
 deriving Inhabited
abbrev opL (x : OpL) : Cl := .list false 8 x.len x.f
structure TShape where
 Kind : Int
 Edges : (List TEdge)
 R : Int
 deriving Inhabited
def TShape.c (x : TShape) : List Cl := [.i x.Kind, lst 7 TEdge.c x.Edges, .i x.R]
structure TTrack where
 Id : Int
 Net : ByteArray
 Layer : Int
 Shape : TShape
 deriving Inhabited
def TTrack.c (x : TTrack) : List Cl := [.i x.Id, .s x.Net, .i x.Layer, .i x.Shape.Kind, lst 7 TEdge.c x.Shape.Edges, .i x.Shape.R]
structure TPlaced where
 Id : Int
 Ref : ByteArray
 Type' : ByteArray
 At : TPoint
 Turn : Int
 Under : Bool
 deriving Inhabited
def TPlaced.c (x : TPlaced) : List Cl := [.i x.Id, .s x.Ref, .s x.Type', .i x.At.X, .i x.At.Y, .i x.Turn, .b x.Under]
structure TPin where
 Ref : ByteArray
 Pad : ByteArray
 deriving Inhabited
def TPin.c (x : TPin) : List Cl := [.s x.Ref, .s x.Pad]
structure TNet where
 Name : ByteArray
 Pins : (List TPin)
 deriving Inhabited
def TNet.c (x : TNet) : List Cl := [.s x.Name, lst 2 TPin.c x.Pins]
structure TVia where
 Id : Int
 Net : ByteArray
 At : TPoint
 R : Int
 Drill : Int
 From : Int
 To : Int
 deriving Inhabited
def TVia.c (x : TVia) : List Cl := [.i x.Id, .s x.Net, .i x.At.X, .i x.At.Y, .i x.R, .i x.Drill, .i x.From, .i x.To]
structure TRect where
 X0 : Int
 Y0 : Int
 X1 : Int
 Y1 : Int
 deriving Inhabited
def TRect.c (x : TRect) : List Cl := [.i x.X0, .i x.Y0, .i x.X1, .i x.Y1]
structure TPour where
 Id : Int
 Net : ByteArray
 Layer : Int
 Pitch : Int
 Priority : Int
 Relief : Int
 Spoke : Int
 Rects : (List TRect)
 deriving Inhabited
def TPour.c (x : TPour) : List Cl := [.i x.Id, .s x.Net, .i x.Layer, .i x.Pitch, .i x.Priority, .i x.Relief, .i x.Spoke, lst 4 TRect.c x.Rects]
structure TKeep where
 Id : Int
 Layer : Int
 Shape : TShape
 deriving Inhabited
def TKeep.c (x : TKeep) : List Cl := [.i x.Id, .i x.Layer, .i x.Shape.Kind, lst 7 TEdge.c x.Shape.Edges, .i x.Shape.R]
structure TSlot where
 Id : Int
 Shape : TShape
 deriving Inhabited
def TSlot.c (x : TSlot) : List Cl := [.i x.Id, .i x.Shape.Kind, lst 7 TEdge.c x.Shape.Edges, .i x.Shape.R]
structure TClass where
 Name : ByteArray
 Nets : (List ByteArray)
 deriving Inhabited
def TClass.c (x : TClass) : List Cl := [.s x.Name, lst 1 (fun x => [.s x]) x.Nets]
structure TCond where
 Op : Int
 Text : ByteArray
 N : Int
 Box : TRect
 L : OpL
 deriving Inhabited
def TCond.c (x : TCond) : List Cl := [.i x.Op, .s x.Text, .i x.N, .i x.Box.X0, .i x.Box.Y0, .i x.Box.X1, .i x.Box.Y1, opL x.L]
structure TRule where
 Name : ByteArray
 Priority : Int
 What : Int
 A : TCond
 B : TCond
 Value : Int
 deriving Inhabited
def TRule.c (x : TRule) : List Cl := [.s x.Name, .i x.Priority, .i x.What, .i x.A.Op, .s x.A.Text, .i x.A.N, .i x.A.Box.X0, .i x.A.Box.Y0, .i x.A.Box.X1, .i x.A.Box.Y1, opL x.A.L, .i x.B.Op, .s x.B.Text, .i x.B.N, .i x.B.Box.X0, .i x.B.Box.Y0, .i x.B.Box.X1, .i x.B.Box.Y1, opL x.B.L, .i x.Value]
structure TWaiver where
 A : Int
 B : Int
 Rule : ByteArray
 deriving Inhabited
def TWaiver.c (x : TWaiver) : List Cl := [.i x.A, .i x.B, .s x.Rule]
structure TMatch where
 Name : ByteArray
 Nets : (List ByteArray)
 Within : Int
 deriving Inhabited
def TMatch.c (x : TMatch) : List Cl := [.s x.Name, lst 1 (fun x => [.s x]) x.Nets, .i x.Within]
structure TBoard where
 Layers : Int
 Outline : TShape
 Parts : (List TPlaced)
 Nets : (List TNet)
 Tracks : (List TTrack)
 Vias : (List TVia)
 Pours : (List TPour)
 Keeps : (List TKeep)
 Slots : (List TSlot)
 Classes : (List TClass)
 Rules : (List TRule)
 Waivers : (List TWaiver)
 Matches : (List TMatch)
 deriving Inhabited
def TBoard.c (x : TBoard) : List Cl := [.i x.Layers, .i x.Outline.Kind, lst 7 TEdge.c x.Outline.Edges, .i x.Outline.R, lst 7 TPlaced.c x.Parts, lst 2 TNet.c x.Nets, lst 6 TTrack.c x.Tracks, lst 8 TVia.c x.Vias, lst 8 TPour.c x.Pours, lst 5 TKeep.c x.Keeps, lst 4 TSlot.c x.Slots, lst 2 TClass.c x.Classes, lst 20 TRule.c x.Rules, lst 3 TWaiver.c x.Waivers, lst 3 TMatch.c x.Matches]
structure TA27 where
 e0 : Int
 e1 : Int
 e2 : Int
 deriving Inhabited
def TA27.c (x : TA27) : List Cl := [.i x.e0, .i x.e1, .i x.e2]
structure TCase where
 Shape : (List Int)
 Edge : (List Int)
 Board : (List (List Int))
 Odd : TA27
 deriving Inhabited
def TCase.c (x : TCase) : List Cl := [lst 1 (fun x => [.i x]) x.Shape, lst 1 (fun x => [.i x]) x.Edge, lst 1 (fun x => [lst 1 (fun x => [.i x]) x]) x.Board, .i x.Odd.e0, .i x.Odd.e1, .i x.Odd.e2]
structure TRaw where
 Edge : TEdge
 Shape : TShape
 deriving Inhabited
def TRaw.c (x : TRaw) : List Cl := [.i x.Edge.Kind, .i x.Edge.A.X, .i x.Edge.A.Y, .i x.Edge.B.X, .i x.Edge.B.Y, .i x.Edge.C.X, .i x.Edge.C.Y, .i x.Shape.Kind, lst 7 TEdge.c x.Shape.Edges, .i x.Shape.R]
structure TPad where
 Name : ByteArray
 Shape : TShape
 At : TPoint
 Drill : Int
 deriving Inhabited
def TPad.c (x : TPad) : List Cl := [.s x.Name, .i x.Shape.Kind, lst 7 TEdge.c x.Shape.Edges, .i x.Shape.R, .i x.At.X, .i x.At.Y, .i x.Drill]
structure TLeg where
 Pad : ByteArray
 Group : Int
 deriving Inhabited
def TLeg.c (x : TLeg) : List Cl := [.s x.Pad, .i x.Group]
structure TGate where
 Kind : Int
 Legs : (List TLeg)
 deriving Inhabited
def TGate.c (x : TGate) : List Cl := [.i x.Kind, lst 2 TLeg.c x.Legs]
structure TType where
 Name : ByteArray
 Pads : (List TPad)
 Gates : (List TGate)
 deriving Inhabited
def TType.c (x : TType) : List Cl := [.s x.Name, lst 7 TPad.c x.Pads, lst 2 TGate.c x.Gates]
def eqE : TypeId -> Option (List Kd) := fun T => get [(31, [.int .i64, .int .i64])] T
theorem eqok : EqOk Try.prog ⟨fun _ => none, eqE, fun _ => false, fun _ => none⟩ := by
 intro T ks h
 have hm : (T, ks) ∈ _ := get_mem h
 simp only [List.mem_cons, Prod.mk.injEq, List.not_mem_nil, or_false] at hm
 obtain ⟨rfl, rfl⟩ := hm
 exact ⟨by kernel_rfl, by kernel_rfl, _, rfl, rfl⟩
def FvecRight (x0 : TPoint) : Bool := bif decide (((max x0.X x0.Y) : Int) <= 67108864) then decide ((((-67108864)) : Int) <= (min x0.X x0.Y)) else false
def cvecRight (x0 : TPoint) : FuncId × List Av × Ef := (71, [.agg (TPoint.c x0)], .val [] (.av (.one (.b (FvecRight x0)))))
theorem kr {p : Prop} (h : p := by kernel_rfl) : p := h
theorem pvecRight (x0 : TPoint) : Pure Try.prog 71 (cvecRight x0).2.1 (.av (.one (.b (FvecRight x0)))) := by
 refine pure_of_awF Try.func71 rfl kr kr fun W0 M0 => ?_
 refine aw_seq ?_
 refine aw_region eqok [] [] [] [1] [1] [] ⟨[(1, tP 1 0)], [(1, .cells (TPoint.c x0) 31)]⟩ .nil kr .nil <| ath_n <| aw_seq ?_
 refine aw_region eqok [] [] [] [2] [] [((decide (((max x0.X x0.Y) : Int) <= 67108864)) = true) -> ((decide (((max x0.X x0.Y) : Int) <= 67108864)) = true), ((decide (((max x0.X x0.Y) : Int) <= 67108864)) = true) -> ((decide (((max x0.X x0.Y) : Int) <= 67108864)) = true), ((decide (((max x0.X x0.Y) : Int) <= 67108864)) = true) -> ((decide (((max x0.X x0.Y) : Int) <= 67108864)) = true), ((decide (((max x0.X x0.Y) : Int) <= 67108864)) = true) -> ((decide (((max x0.X x0.Y) : Int) <= 67108864)) = true), ((decide (((max x0.X x0.Y) : Int) <= 67108864)) = true) -> ((decide (((max x0.X x0.Y) : Int) <= 67108864)) = true), (decide (((max x0.X x0.Y) : Int) <= 67108864)) = true -> ((decide (((max x0.X x0.Y) : Int) <= 67108864)) = true)] ⟨[(2, tB (bif decide (((max x0.X x0.Y) : Int) <= 67108864) then decide ((((-67108864)) : Int) <= (min x0.X x0.Y)) else false))], []⟩ .nil kr (.cons id (.cons id (.cons id (.cons id (.cons id (.cons id .nil)))))) <| ath_n <| aw_ret ?_
 exact ⟨_, Cv.refl _, .inl rfl, .av (.one (.b (bif decide (((max x0.X x0.Y) : Int) <= 67108864) then decide ((((-67108864)) : Int) <= (min x0.X x0.Y)) else false))), by kernel_rfl, tve_eq (by rfl)⟩
theorem okvecRight (x0 : TPoint) : CallOk Try.prog (cvecRight x0).1 (cvecRight x0).2.1 (cvecRight x0).2.2 := callOk_pure (fun _ _ => by kernel_rfl) fun _ => pvecRight x0
def FvecSub (x0 : TPoint) (x1 : TPoint) : TPoint := TPoint.mk (W64 (x0.X - x1.X)) (W64 (x0.Y - x1.Y))
def cvecSub (x0 : TPoint) (x1 : TPoint) : FuncId × List Av × Ef := (44, [.agg (TPoint.c x0), .agg (TPoint.c x1)], .val [] (.av (.agg (TPoint.c (FvecSub x0 x1)))))
theorem pvecSub (x0 : TPoint) (x1 : TPoint) : Pure Try.prog 44 (cvecSub x0 x1).2.1 (.av (.agg (TPoint.c (FvecSub x0 x1)))) := by
 refine pure_of_awF Try.func44 rfl kr kr fun W0 M0 => ?_
 refine aw_seq ?_
 refine aw_region eqok [] [] [] [2, 3, 4] [2, 3, 4] [] ⟨[(2, tP 2 0), (3, tP 3 0), (4, tP 4 0)], [(2, .cells (TPoint.c x0) 31), (3, .cells (TPoint.c x1) 31), (4, .cells [.i 0, .i 0] 31)]⟩ .nil kr .nil <| ath_n <| aw_seq ?_
 refine aw_region eqok [] [] [] [4] [4] [] ⟨[(4, tP 4 0)], [(4, .cells [.i (W64 (x0.X - x1.X)), .i (W64 (x0.Y - x1.Y))] 31)]⟩ .nil kr .nil <| ath_n <| aw_ret ?_
 exact ⟨_, Cv.refl _, .inl rfl, .av (.agg [.i (W64 (x0.X - x1.X)), .i (W64 (x0.Y - x1.Y))]), by kernel_rfl, tve_eq (by rfl)⟩
theorem okvecSub (x0 : TPoint) (x1 : TPoint) : CallOk Try.prog (cvecSub x0 x1).1 (cvecSub x0 x1).2.1 (cvecSub x0 x1).2.2 := callOk_pure (fun _ _ => by kernel_rfl) fun _ => pvecSub x0 x1
def FvecAdd (x0 : TPoint) (x1 : TPoint) : TPoint := TPoint.mk (W64 (x0.X + x1.X)) (W64 (x0.Y + x1.Y))
def cvecAdd (x0 : TPoint) (x1 : TPoint) : FuncId × List Av × Ef := (89, [.agg (TPoint.c x0), .agg (TPoint.c x1)], .val [] (.av (.agg (TPoint.c (FvecAdd x0 x1)))))
theorem pvecAdd (x0 : TPoint) (x1 : TPoint) : Pure Try.prog 89 (cvecAdd x0 x1).2.1 (.av (.agg (TPoint.c (FvecAdd x0 x1)))) := by
 refine pure_of_awF Try.func89 rfl kr kr fun W0 M0 => ?_
 refine aw_seq ?_
 refine aw_region eqok [] [] [] [2, 3, 4] [2, 3, 4] [] ⟨[(2, tP 2 0), (3, tP 3 0), (4, tP 4 0)], [(2, .cells (TPoint.c x0) 31), (3, .cells (TPoint.c x1) 31), (4, .cells [.i 0, .i 0] 31)]⟩ .nil kr .nil <| ath_n <| aw_seq ?_
 refine aw_region eqok [] [] [] [4] [4] [] ⟨[(4, tP 4 0)], [(4, .cells [.i (W64 (x0.X + x1.X)), .i (W64 (x0.Y + x1.Y))] 31)]⟩ .nil kr .nil <| ath_n <| aw_ret ?_
 exact ⟨_, Cv.refl _, .inl rfl, .av (.agg [.i (W64 (x0.X + x1.X)), .i (W64 (x0.Y + x1.Y))]), by kernel_rfl, tve_eq (by rfl)⟩
theorem okvecAdd (x0 : TPoint) (x1 : TPoint) : CallOk Try.prog (cvecAdd x0 x1).1 (cvecAdd x0 x1).2.1 (cvecAdd x0 x1).2.2 := callOk_pure (fun _ _ => by kernel_rfl) fun _ => pvecAdd x0 x1
def FvecDot (x0 : TPoint) (x1 : TPoint) : Int := W64 ((W64 (x0.X * x1.X)) + (W64 (x0.Y * x1.Y)))
def cvecDot (x0 : TPoint) (x1 : TPoint) : FuncId × List Av × Ef := (45, [.agg (TPoint.c x0), .agg (TPoint.c x1)], .val [] (.av (.one (.i (FvecDot x0 x1)))))
theorem pvecDot (x0 : TPoint) (x1 : TPoint) : Pure Try.prog 45 (cvecDot x0 x1).2.1 (.av (.one (.i (FvecDot x0 x1)))) := by
 refine pure_of_awF Try.func45 rfl kr kr fun W0 M0 => ?_
 refine aw_seq ?_
 refine aw_region eqok [] [] [] [2, 3] [2, 3] [] ⟨[(2, tP 2 0), (3, tP 3 0)], [(2, .cells (TPoint.c x0) 31), (3, .cells (TPoint.c x1) 31)]⟩ .nil kr .nil <| ath_n <| aw_seq ?_
 refine aw_region eqok [] [] [] [4] [] [] ⟨[(4, tI (W64 ((W64 (x0.X * x1.X)) + (W64 (x0.Y * x1.Y)))))], []⟩ .nil kr .nil <| ath_n <| aw_ret ?_
 exact ⟨_, Cv.refl _, .inl rfl, .av (.one (.i (W64 ((W64 (x0.X * x1.X)) + (W64 (x0.Y * x1.Y)))))), by kernel_rfl, tve_eq (by rfl)⟩
theorem okvecDot (x0 : TPoint) (x1 : TPoint) : CallOk Try.prog (cvecDot x0 x1).1 (cvecDot x0 x1).2.1 (cvecDot x0 x1).2.2 := callOk_pure (fun _ _ => by kernel_rfl) fun _ => pvecDot x0 x1
def FvecTurns (m : TMotion) : Int := A64 m.Turn 3
def cvecTurns (m : TMotion) : FuncId × List Av × Ef := (88, [.agg (TMotion.c m)], .val [] (.av (.one (.i (FvecTurns m)))))
theorem pvecTurns (m : TMotion) : Pure Try.prog 88 (cvecTurns m).2.1 (.av (.one (.i (FvecTurns m)))) := by
 refine pure_of_awF Try.func88 rfl kr kr fun W0 M0 => ?_
 refine aw_seq ?_
 refine aw_region eqok [] [] [] [1] [1] [] ⟨[(1, tP 1 0)], [(1, .cells (TMotion.c m) 84)]⟩ .nil kr .nil <| ath_n <| aw_seq ?_
 refine aw_region eqok [] [] [] [2] [] [] ⟨[(2, tI (A64 m.Turn 3))], []⟩ .nil kr .nil <| ath_n <| aw_ret ?_
 exact ⟨_, Cv.refl _, .inl rfl, .av (.one (.i (A64 m.Turn 3))), by kernel_rfl, tve_eq (by rfl)⟩
theorem okvecTurns (m : TMotion) : CallOk Try.prog (cvecTurns m).1 (cvecTurns m).2.1 (cvecTurns m).2.2 := callOk_pure (fun _ _ => by kernel_rfl) fun _ => pvecTurns m
theorem A64_3 (t : Int) : 0 <= A64 t 3 /\ A64 t 3 <= 3 := by
 unfold A64
 rw [IntKind.wrap_i64]
 have h : ((BitVec.ofInt 64 t &&& BitVec.ofInt 64 3).toNat) <= 3 := by
  rw [BitVec.toNat_and]
  exact Nat.le_trans Nat.and_le_right (by decide)
 generalize (BitVec.ofInt 64 t &&& BitVec.ofInt 64 3).toNat = n at *
 omega
theorem turns_b (m : TMotion) : 0 <= FvecTurns m /\ FvecTurns m <= 3 := A64_3 m.Turn
def FvecApply_l0 (m : TMotion) (p : TPoint) : Nat -> TPoint -> Int -> TPoint
 | 0, _, _ => default
 | n0 + 1, p', v13 => bif decide ((v13 : Int) < (FvecTurns m)) then ((FvecApply_l0 m p n0) (TPoint.mk (W64 (0 - p'.Y)) p'.X) (v13 + 1)) else (FvecAdd p' m.At)
def FvecApply (m : TMotion) (p : TPoint) : TPoint := FvecApply_l0 m p ((((FvecTurns m)) - 0).toNat + 1) (TPoint.mk (bif m.Mirror then (W64 (0 - p.X)) else p.X) p.Y) 0
def cvecApply (m : TMotion) (p : TPoint) : FuncId × List Av × Ef := (65, [.agg (TMotion.c m), .agg (TPoint.c p)], .val [] (.av (.agg (TPoint.c (FvecApply m p)))))
theorem at0 {p : Prop} (h : p := by simp only [List.length_append, List.length_cons, List.length_nil]; omega) : p := h
theorem at1 {p : Prop} (h : p := by simp only [List.length_set, List.length_append, List.length_cons, List.length_nil]; omega) : p := h
theorem at2 {p : Prop} (h : p := by simp only [W64_def]; omega) : p := h
theorem pvecApply (m : TMotion) (p : TPoint) : Pure Try.prog 65 (cvecApply m p).2.1 (.av (.agg (TPoint.c (FvecApply m p)))) := by
 refine pure_of_awF Try.func65 rfl kr kr fun W0 M0 => ?_
 refine aw_seq ?_
 refine aw_region eqok [] [] [] [2, 3, 4] [2, 3, 4] [] ⟨[(2, tP 2 0), (3, tP 3 0), (4, tP 4 0)], [(2, .cells (TMotion.c m) 84), (3, .cells (TPoint.c p) 31), (4, .cells [.i 0, .i 0] 31)]⟩ .nil kr .nil <| ath_n ?_
 refine aw_seq <| aw_seq ?_
 refine aw_region eqok [] [] [] [2, 3, 4, 6] [2, 3, 4] [] ⟨[(2, tP 2 0), (3, tP 3 0), (4, tP 4 0), (6, tB m.Mirror)], [(2, .cells (TMotion.c m) 84), (3, .cells (TPoint.c p) 31), (4, .cells [.i 0, .i 0] 31)]⟩ .nil kr .nil <| ath_n ?_
 refine aw_joinC (⟨[(2, tP 2 0), (3, tP 3 0), (4, tP 4 0)], [(2, .cells (TMotion.c m) 84), (3, .cells [.i (bif m.Mirror then (W64 (0 - p.X)) else p.X), .i p.Y] 31), (4, .cells [.i 0, .i 0] 31)]⟩) ?_ ?_
 ·refine aw_cond (m.Mirror) kr (fun h1 => ?_) (fun h1 => ?_)
  ·refine aw_region eqok [] [] [] [2, 3, 4] [2, 3, 4] [] ⟨[(2, tP 2 0), (3, tP 3 0), (4, tP 4 0)], [(2, .cells (TMotion.c m) 84), (3, .cells [.i (W64 (0 - p.X)), .i p.Y] 31), (4, .cells [.i 0, .i 0] 31)]⟩ .nil kr .nil <| ath_n ?_
   refine cv_eq ?_
   first | rfl | (simp only [h1, cond_true, cond_false] <;> rfl)
  ·refine aw_skip <| ath_n ?_
   refine Cv.trans (cv_keep [2, 3, 4] [2, 3, 4] (⟨[(2, tP 2 0), (3, tP 3 0), (4, tP 4 0)], [(2, .cells (TMotion.c m) 84), (3, .cells (TPoint.c p) 31), (4, .cells [.i 0, .i 0] 31)]⟩) kr) (cv_eq ?_)
   first | rfl | (simp only [h1, cond_true, cond_false] <;> rfl)
 refine aw_seq <| aw_seq ?_
 refine aw_region eqok [] [] [(12, cvecTurns m)] [2, 3, 4, 12, 13] [2, 3, 4] [Same (cvecTurns m).2.1] ⟨[(2, tP 2 0), (3, tP 3 0), (4, tP 4 0), (12, tI (FvecTurns m)), (13, tI 0)], [(2, .cells (TMotion.c m) 84), (3, .cells [.i (bif m.Mirror then (W64 (0 - p.X)) else p.X), .i p.Y] 31), (4, .cells [.i 0, .i 0] 31)]⟩ (.cons (okvecTurns m) .nil) kr (.cons rfl .nil) <| ath_n <| aw_block ?_
 refine aw_loopC (ι := Nat × TPoint × Int) (fun x => ⟨[(2, tP 2 0), (3, tP 3 0), (4, tP 4 0), (12, tI (FvecTurns m)), (13, tI x.2.2)], [(2, .cells (TMotion.c m) 84), (3, .cells (TPoint.c x.2.1) 31), (4, .cells [.i 0, .i 0] 31)]⟩) (fun x => (((FvecTurns m)) - x.2.2).toNat < x.1 /\ (0 <= x.2.2 /\ x.2.2 <= FvecTurns m) /\ FvecApply_l0 m p x.1 x.2.1 x.2.2 = FvecApply m p) (fun x => x.1) ?_ ((((FvecTurns m)) - 0).toNat + 1, TPoint.mk (bif m.Mirror then (W64 (0 - p.X)) else p.X) p.Y, 0) ⟨Nat.lt_succ_self _, (by show 0 <= 0 /\ 0 <= FvecTurns m; (have := turns_b m; omega)), (by simp only [FvecApply, cond_true, cond_false])⟩
 rintro ⟨n0, p', v13⟩ ⟨hn, hinv, hF⟩
 have hm0 : (((FvecTurns m)) - v13).toNat < n0 := hn; have hinv0 : 0 <= v13 /\ v13 <= FvecTurns m := hinv; have hF0 : FvecApply_l0 m p n0 p' v13 = FvecApply m p := hF; clear hn hinv hF
 cases n0 with
 | zero => exact absurd hm0 (Nat.not_lt_zero _)
 | succ n0 =>
  have ht := turns_b m
  have e1 : W64 (v13 + 1) = v13 + 1 := W64_id (by omega) (by omega)
  refine aw_seq ?_
  refine aw_region eqok [] [] [] [2, 3, 4, 12, 13, 14] [2, 3, 4] [] ⟨[(2, tP 2 0), (3, tP 3 0), (4, tP 4 0), (12, tI (FvecTurns m)), (13, tI v13), (14, tB (decide ((v13 : Int) < (FvecTurns m))))], [(2, .cells (TMotion.c m) 84), (3, .cells (TPoint.c p') 31), (4, .cells [.i 0, .i 0] 31)]⟩ .nil kr .nil <| ath_n <| aw_seq ?_
  refine aw_cond (decide ((v13 : Int) < (FvecTurns m))) kr (fun h1 => ?_) (fun h1 => ?_)
  ·have g1 := of_decide_eq_true h1
   refine aw_skip <| ath_n ?_
   refine aw_seq <| aw_block ?_
   refine aw_region eqok [] [] [] [2, 3, 4, 12, 13] [2, 3, 4] [] ⟨[(2, tP 2 0), (3, tP 3 0), (4, tP 4 0), (12, tI (FvecTurns m)), (13, tI v13)], [(2, .cells (TMotion.c m) 84), (3, .cells [.i (W64 (0 - p'.Y)), .i p'.X] 31), (4, .cells [.i 0, .i 0] 31)]⟩ .nil kr .nil <| abl_n <| ath_n ?_
   refine aw_region eqok [] [] [] [2, 3, 4, 12, 13] [2, 3, 4] [] ⟨[(2, tP 2 0), (3, tP 3 0), (4, tP 4 0), (12, tI (FvecTurns m)), (13, tI (W64 (v13 + 1)))], [(2, .cells (TMotion.c m) 84), (3, .cells [.i (W64 (0 - p'.Y)), .i p'.X] 31), (4, .cells [.i 0, .i 0] 31)]⟩ .nil kr .nil ?_
   (try rw [e1])
   refine ath_n ?_
   refine ⟨(n0, TPoint.mk (W64 (0 - p'.Y)) p'.X, v13 + 1), ⟨?_, ?_, (by rw [<- hF0]; simp only [FvecApply_l0, h1, cond_true, cond_false])⟩, Nat.lt_succ_self _, cv_eq kr⟩
   ·show (((FvecTurns m)) - (v13 + 1)).toNat < n0; omega
   ·exact (by show 0 <= (v13 + 1) /\ (v13 + 1) <= FvecTurns m; first | trivial | omega | exact at0 | exact at1 | exact at2 | (simp; omega) | simp)
  ·have g1 := of_decide_eq_false h1
   refine aw_exit <| ath_e ?_
   refine ath_e <| abl_hit ?_
   refine ath_n <| aw_seq ?_
   refine aw_region eqok [] [] [(25, cvecAdd p' m.At)] [4] [4] [Same (cvecAdd p' m.At).2.1] ⟨[(4, tP 4 0)], [(4, .cells (TPoint.c (FvecAdd p' m.At)) 31)]⟩ (.cons (okvecAdd p' m.At) .nil) kr (.cons rfl .nil) <| ath_n <| aw_ret ?_
   exact ⟨_, Cv.refl _, .inl rfl, .av (.agg (TPoint.c (FvecAdd p' m.At))), by kernel_rfl, tve_eq (by rw [<- hF0]; first | (simp only [FvecApply_l0, h1, cond_true, cond_false] <;> rfl))⟩
theorem okvecApply (m : TMotion) (p : TPoint) : CallOk Try.prog (cvecApply m p).1 (cvecApply m p).2.1 (cvecApply m p).2.2 := callOk_pure (fun _ _ => by kernel_rfl) fun _ => pvecApply m p
def Fedgequarter (x0 : TEdge) (x1 : Int) : Bool := bif !((decide ((((FvecSub x0.A x0.C).X) : Int) = 0)) == (decide ((((FvecSub x0.A x0.C).Y) : Int) = 0))) then (decide (((FvecSub x0.B x0.C).X) = ((FvecApply (TMotion.mk (TPoint.mk 0 0) x1 false) (FvecSub x0.A x0.C)).X)) && (decide (((FvecSub x0.B x0.C).Y) = ((FvecApply (TMotion.mk (TPoint.mk 0 0) x1 false) (FvecSub x0.A x0.C)).Y)) && true)) else false
def cedgequarter (x0 : TEdge) (x1 : Int) : FuncId × List Av × Ef := (102, [.agg (TEdge.c x0), .one (.i x1)], .val [] (.av (.one (.b (Fedgequarter x0 x1)))))
theorem pedgequarter (x0 : TEdge) (x1 : Int) : Pure Try.prog 102 (cedgequarter x0 x1).2.1 (.av (.one (.b (Fedgequarter x0 x1)))) := by
 refine pure_of_awF Try.func102 rfl kr kr fun W0 M0 => ?_
 refine aw_seq ?_
 refine aw_region eqok [] [] [] [1, 2] [2] [] ⟨[(1, tI x1), (2, tP 2 0)], [(2, .cells (TEdge.c x0) 33)]⟩ .nil kr .nil <| ath_n <| aw_seq ?_
 refine aw_region eqok [] [] [(10, cvecSub x0.A x0.C)] [1, 2, 5] [2, 5] [Same (cvecSub x0.A x0.C).2.1] ⟨[(1, tI x1), (2, tP 2 0), (5, tP 5 0)], [(2, .cells (TEdge.c x0) 33), (5, .cells (TPoint.c (FvecSub x0.A x0.C)) 31)]⟩ (.cons (okvecSub x0.A x0.C) .nil) kr (.cons rfl .nil) <| ath_n <| aw_seq ?_
 refine aw_draw mixed eqok [] [] [(23, cvecSub x0.B x0.C), (27, cvecApply (TMotion.mk (TPoint.mk 0 0) x1 false) (FvecSub x0.A x0.C))] [4] [] [((!((decide ((((FvecSub x0.A x0.C).X) : Int) = 0)) == (decide ((((FvecSub x0.A x0.C).Y) : Int) = 0)))) = true) -> ((!((decide ((((FvecSub x0.A x0.C).X) : Int) = 0)) == (decide ((((FvecSub x0.A x0.C).Y) : Int) = 0)))) = true), ((!((decide ((((FvecSub x0.A x0.C).X) : Int) = 0)) == (decide ((((FvecSub x0.A x0.C).Y) : Int) = 0)))) = true) -> ((!((decide ((((FvecSub x0.A x0.C).X) : Int) = 0)) == (decide ((((FvecSub x0.A x0.C).Y) : Int) = 0)))) = true), ((!((decide ((((FvecSub x0.A x0.C).X) : Int) = 0)) == (decide ((((FvecSub x0.A x0.C).Y) : Int) = 0)))) = true) -> ((!((decide ((((FvecSub x0.A x0.C).X) : Int) = 0)) == (decide ((((FvecSub x0.A x0.C).Y) : Int) = 0)))) = true), ((!((decide ((((FvecSub x0.A x0.C).X) : Int) = 0)) == (decide ((((FvecSub x0.A x0.C).Y) : Int) = 0)))) = true) -> ((!((decide ((((FvecSub x0.A x0.C).X) : Int) = 0)) == (decide ((((FvecSub x0.A x0.C).Y) : Int) = 0)))) = true), ((!((decide ((((FvecSub x0.A x0.C).X) : Int) = 0)) == (decide ((((FvecSub x0.A x0.C).Y) : Int) = 0)))) = true) -> (Same (cvecSub x0.B x0.C).2.1), ((!((decide ((((FvecSub x0.A x0.C).X) : Int) = 0)) == (decide ((((FvecSub x0.A x0.C).Y) : Int) = 0)))) = true) -> ((!((decide ((((FvecSub x0.A x0.C).X) : Int) = 0)) == (decide ((((FvecSub x0.A x0.C).Y) : Int) = 0)))) = true), ((!((decide ((((FvecSub x0.A x0.C).X) : Int) = 0)) == (decide ((((FvecSub x0.A x0.C).Y) : Int) = 0)))) = true) -> ((!((decide ((((FvecSub x0.A x0.C).X) : Int) = 0)) == (decide ((((FvecSub x0.A x0.C).Y) : Int) = 0)))) = true), ((!((decide ((((FvecSub x0.A x0.C).X) : Int) = 0)) == (decide ((((FvecSub x0.A x0.C).Y) : Int) = 0)))) = true) -> ((!((decide ((((FvecSub x0.A x0.C).X) : Int) = 0)) == (decide ((((FvecSub x0.A x0.C).Y) : Int) = 0)))) = true), ((!((decide ((((FvecSub x0.A x0.C).X) : Int) = 0)) == (decide ((((FvecSub x0.A x0.C).Y) : Int) = 0)))) = true) -> (Same (cvecApply (TMotion.mk (TPoint.mk 0 0) x1 false) (FvecSub x0.A x0.C)).2.1), ((!((decide ((((FvecSub x0.A x0.C).X) : Int) = 0)) == (decide ((((FvecSub x0.A x0.C).Y) : Int) = 0)))) = true) -> ((!((decide ((((FvecSub x0.A x0.C).X) : Int) = 0)) == (decide ((((FvecSub x0.A x0.C).Y) : Int) = 0)))) = true), ((!((decide ((((FvecSub x0.A x0.C).X) : Int) = 0)) == (decide ((((FvecSub x0.A x0.C).Y) : Int) = 0)))) = true) -> ((!((decide ((((FvecSub x0.A x0.C).X) : Int) = 0)) == (decide ((((FvecSub x0.A x0.C).Y) : Int) = 0)))) = true), (!((decide ((((FvecSub x0.A x0.C).X) : Int) = 0)) == (decide ((((FvecSub x0.A x0.C).Y) : Int) = 0)))) = true -> ((!((decide ((((FvecSub x0.A x0.C).X) : Int) = 0)) == (decide ((((FvecSub x0.A x0.C).Y) : Int) = 0)))) = true)] ⟨[(4, tB (bif !((decide ((((FvecSub x0.A x0.C).X) : Int) = 0)) == (decide ((((FvecSub x0.A x0.C).Y) : Int) = 0))) then (decide (((FvecSub x0.B x0.C).X) = ((FvecApply (TMotion.mk (TPoint.mk 0 0) x1 false) (FvecSub x0.A x0.C)).X)) && (decide (((FvecSub x0.B x0.C).Y) = ((FvecApply (TMotion.mk (TPoint.mk 0 0) x1 false) (FvecSub x0.A x0.C)).Y)) && true)) else false))], []⟩ (.cons (okvecSub x0.B x0.C) (.cons (okvecApply (TMotion.mk (TPoint.mk 0 0) x1 false) (FvecSub x0.A x0.C)) .nil)) kr kr (.cons id (.cons id (.cons id (.cons id (.cons (fun _ => rfl) (.cons id (.cons id (.cons id (.cons (fun _ => rfl) (.cons id (.cons id (.cons id .nil)))))))))))) <| ath_n <| aw_ret ?_
 exact ⟨_, Cv.refl _, .inl rfl, .av (.one (.b (bif !((decide ((((FvecSub x0.A x0.C).X) : Int) = 0)) == (decide ((((FvecSub x0.A x0.C).Y) : Int) = 0))) then (decide (((FvecSub x0.B x0.C).X) = ((FvecApply (TMotion.mk (TPoint.mk 0 0) x1 false) (FvecSub x0.A x0.C)).X)) && (decide (((FvecSub x0.B x0.C).Y) = ((FvecApply (TMotion.mk (TPoint.mk 0 0) x1 false) (FvecSub x0.A x0.C)).Y)) && true)) else false))), by kernel_rfl, tve_eq (by rfl)⟩
theorem okedgequarter (x0 : TEdge) (x1 : Int) : CallOk Try.prog (cedgequarter x0 x1).1 (cedgequarter x0 x1).2.1 (cedgequarter x0 x1).2.2 := callOk_pure (fun _ _ => by kernel_rfl) fun _ => pedgequarter x0 x1
def Fedgelone (x0 : TEdge) : Bool := (decide (x0.C.X = 0) && (decide (x0.C.Y = 0) && true))
def cedgelone (x0 : TEdge) : FuncId × List Av × Ef := (93, [.agg (TEdge.c x0)], .val [] (.av (.one (.b (Fedgelone x0)))))
theorem pedgelone (x0 : TEdge) : Pure Try.prog 93 (cedgelone x0).2.1 (.av (.one (.b (Fedgelone x0)))) := by
 refine pure_of_awF Try.func93 rfl kr kr fun W0 M0 => ?_
 refine aw_seq ?_
 refine aw_region eqok [] [] [] [1] [1] [] ⟨[(1, tP 1 0)], [(1, .cells (TEdge.c x0) 33)]⟩ .nil kr .nil <| ath_n <| aw_seq ?_
 refine aw_region eqok [] [] [] [2] [] [] ⟨[(2, tB ((decide (x0.C.X = 0) && (decide (x0.C.Y = 0) && true))))], []⟩ .nil kr .nil <| ath_n <| aw_ret ?_
 exact ⟨_, Cv.refl _, .inl rfl, .av (.one (.b ((decide (x0.C.X = 0) && (decide (x0.C.Y = 0) && true))))), by kernel_rfl, tve_eq (by rfl)⟩
theorem okedgelone (x0 : TEdge) : CallOk Try.prog (cedgelone x0).1 (cedgelone x0).2.1 (cedgelone x0).2.2 := callOk_pure (fun _ _ => by kernel_rfl) fun _ => pedgelone x0
def Fedgeleftwards (x0 : TEdge) : Bool := Fedgequarter x0 1
def cedgeleftwards (x0 : TEdge) : FuncId × List Av × Ef := (96, [.agg (TEdge.c x0)], .val [] (.av (.one (.b (Fedgeleftwards x0)))))
theorem pedgeleftwards (x0 : TEdge) : Pure Try.prog 96 (cedgeleftwards x0).2.1 (.av (.one (.b (Fedgeleftwards x0)))) := by
 refine pure_of_awF Try.func96 rfl kr kr fun W0 M0 => ?_
 refine aw_seq ?_
 refine aw_region eqok [] [] [] [1] [1] [] ⟨[(1, tP 1 0)], [(1, .cells (TEdge.c x0) 33)]⟩ .nil kr .nil <| ath_n <| aw_seq ?_
 refine aw_region eqok [] [] [(4, cedgequarter x0 1)] [2] [] [Same (cedgequarter x0 1).2.1] ⟨[(2, tB (Fedgequarter x0 1))], []⟩ (.cons (okedgequarter x0 1) .nil) kr (.cons rfl .nil) <| ath_n <| aw_ret ?_
 exact ⟨_, Cv.refl _, .inl rfl, .av (.one (.b (Fedgequarter x0 1))), by kernel_rfl, tve_eq (by rfl)⟩
theorem okedgeleftwards (x0 : TEdge) : CallOk Try.prog (cedgeleftwards x0).1 (cedgeleftwards x0).2.1 (cedgeleftwards x0).2.2 := callOk_pure (fun _ _ => by kernel_rfl) fun _ => pedgeleftwards x0
def Fedgerightwards (x0 : TEdge) : Bool := Fedgequarter x0 3
def cedgerightwards (x0 : TEdge) : FuncId × List Av × Ef := (99, [.agg (TEdge.c x0)], .val [] (.av (.one (.b (Fedgerightwards x0)))))
theorem pedgerightwards (x0 : TEdge) : Pure Try.prog 99 (cedgerightwards x0).2.1 (.av (.one (.b (Fedgerightwards x0)))) := by
 refine pure_of_awF Try.func99 rfl kr kr fun W0 M0 => ?_
 refine aw_seq ?_
 refine aw_region eqok [] [] [] [1] [1] [] ⟨[(1, tP 1 0)], [(1, .cells (TEdge.c x0) 33)]⟩ .nil kr .nil <| ath_n <| aw_seq ?_
 refine aw_region eqok [] [] [(4, cedgequarter x0 3)] [2] [] [Same (cedgequarter x0 3).2.1] ⟨[(2, tB (Fedgequarter x0 3))], []⟩ (.cons (okedgequarter x0 3) .nil) kr (.cons rfl .nil) <| ath_n <| aw_ret ?_
 exact ⟨_, Cv.refl _, .inl rfl, .av (.one (.b (Fedgequarter x0 3))), by kernel_rfl, tve_eq (by rfl)⟩
theorem okedgerightwards (x0 : TEdge) : CallOk Try.prog (cedgerightwards x0).1 (cedgerightwards x0).2.1 (cedgerightwards x0).2.2 := callOk_pure (fun _ _ => by kernel_rfl) fun _ => pedgerightwards x0
def cfamilies1 : FuncId × List Av × Ef := (87, [.one (.i 1)], .val [] (.tup [.agg [.clo 93 0 (fun _ => default), .clo 94 0 (fun _ => default), .clo 95 0 (fun _ => default), .i 1], .one (.b true)]))
theorem pfamilies1  : Pure Try.prog 87 (cfamilies1 ).2.1 (.tup [.agg [.clo 93 0 (fun _ => default), .clo 94 0 (fun _ => default), .clo 95 0 (fun _ => default), .i 1], .one (.b true)]) := by
 refine pure_of_awF Try.func87 rfl kr kr fun W0 M0 => ?_
 refine aw_seq ?_
 refine aw_region eqok [] [] [] [0, 2] [2] [] ⟨[(0, tI 1), (2, tP 2 0)], [(2, .cells [.val .nilFunc, .val .nilFunc, .val .nilFunc, .i 0] 153)]⟩ .nil kr .nil <| ath_n ?_
 refine aw_seq <| aw_seq ?_
 refine aw_region eqok [] [] [] [0, 2, 4] [2] [] ⟨[(0, tI 1), (2, tP 2 0), (4, tI 1)], [(2, .cells [.val .nilFunc, .val .nilFunc, .val .nilFunc, .i 0] 153)]⟩ .nil kr .nil <| ath_n ?_
 refine aw_block <| aw_seq ?_
 refine aw_region eqok [] [] [] [0, 2, 4, 5] [2] [] ⟨[(0, tI 1), (2, tP 2 0), (4, tI 1), (5, tB true)], [(2, .cells [.val .nilFunc, .val .nilFunc, .val .nilFunc, .i 0] 153)]⟩ .nil kr .nil <| ath_n ?_
 refine aw_cond_t kr <| aw_seq ?_
 refine aw_region eqok [] [] [] [2, 3] [2] [] ⟨[(2, tP 2 0), (3, tB true)], [(2, .cells [.clo 93 0 (fun _ => default), .clo 94 0 (fun _ => default), .clo 95 0 (fun _ => default), .i 1] 153)]⟩ .nil kr .nil <| ath_n ?_
 refine aw_ret <| abl_r <| ath_r ?_
 exact ⟨_, Cv.refl _, .inl rfl, .tup [.agg [.clo 93 0 (fun _ => default), .clo 94 0 (fun _ => default), .clo 95 0 (fun _ => default), .i 1], .one (.b true)], by kernel_rfl, tve_eq rfl⟩
theorem okfamilies1  : CallOk Try.prog (cfamilies1 ).1 (cfamilies1 ).2.1 (cfamilies1 ).2.2 := callOk_pure (fun _ _ => by kernel_rfl) fun _ => pfamilies1
def cfamilies2 : FuncId × List Av × Ef := (87, [.one (.i 2)], .val [] (.tup [.agg [.clo 96 0 (fun _ => default), .clo 97 0 (fun _ => default), .clo 98 0 (fun _ => default), .i 3], .one (.b true)]))
theorem pfamilies2  : Pure Try.prog 87 (cfamilies2 ).2.1 (.tup [.agg [.clo 96 0 (fun _ => default), .clo 97 0 (fun _ => default), .clo 98 0 (fun _ => default), .i 3], .one (.b true)]) := by
 refine pure_of_awF Try.func87 rfl kr kr fun W0 M0 => ?_
 refine aw_seq ?_
 refine aw_region eqok [] [] [] [0, 2] [2] [] ⟨[(0, tI 2), (2, tP 2 0)], [(2, .cells [.val .nilFunc, .val .nilFunc, .val .nilFunc, .i 0] 153)]⟩ .nil kr .nil <| ath_n ?_
 refine aw_seq <| aw_seq ?_
 refine aw_region eqok [] [] [] [0, 2, 4] [2] [] ⟨[(0, tI 2), (2, tP 2 0), (4, tI 2)], [(2, .cells [.val .nilFunc, .val .nilFunc, .val .nilFunc, .i 0] 153)]⟩ .nil kr .nil <| ath_n ?_
 refine aw_block <| aw_seq ?_
 refine aw_region eqok [] [] [] [0, 2, 4, 5] [2] [] ⟨[(0, tI 2), (2, tP 2 0), (4, tI 2), (5, tB false)], [(2, .cells [.val .nilFunc, .val .nilFunc, .val .nilFunc, .i 0] 153)]⟩ .nil kr .nil <| ath_n ?_
 refine aw_cond_f kr <| aw_seq ?_
 refine aw_region eqok [] [] [] [0, 2, 4, 8] [2] [] ⟨[(0, tI 2), (2, tP 2 0), (4, tI 2), (8, tB true)], [(2, .cells [.val .nilFunc, .val .nilFunc, .val .nilFunc, .i 0] 153)]⟩ .nil kr .nil <| ath_n ?_
 refine aw_cond_t kr <| aw_seq ?_
 refine aw_region eqok [] [] [] [2, 3] [2] [] ⟨[(2, tP 2 0), (3, tB true)], [(2, .cells [.clo 96 0 (fun _ => default), .clo 97 0 (fun _ => default), .clo 98 0 (fun _ => default), .i 3] 153)]⟩ .nil kr .nil <| ath_n ?_
 refine aw_ret <| abl_r <| ath_r ?_
 exact ⟨_, Cv.refl _, .inl rfl, .tup [.agg [.clo 96 0 (fun _ => default), .clo 97 0 (fun _ => default), .clo 98 0 (fun _ => default), .i 3], .one (.b true)], by kernel_rfl, tve_eq rfl⟩
theorem okfamilies2  : CallOk Try.prog (cfamilies2 ).1 (cfamilies2 ).2.1 (cfamilies2 ).2.2 := callOk_pure (fun _ _ => by kernel_rfl) fun _ => pfamilies2
def cfamilies3 : FuncId × List Av × Ef := (87, [.one (.i 3)], .val [] (.tup [.agg [.clo 99 0 (fun _ => default), .clo 97 0 (fun _ => default), .clo 98 0 (fun _ => default), .i 2], .one (.b true)]))
theorem pfamilies3  : Pure Try.prog 87 (cfamilies3 ).2.1 (.tup [.agg [.clo 99 0 (fun _ => default), .clo 97 0 (fun _ => default), .clo 98 0 (fun _ => default), .i 2], .one (.b true)]) := by
 refine pure_of_awF Try.func87 rfl kr kr fun W0 M0 => ?_
 refine aw_seq ?_
 refine aw_region eqok [] [] [] [0, 2] [2] [] ⟨[(0, tI 3), (2, tP 2 0)], [(2, .cells [.val .nilFunc, .val .nilFunc, .val .nilFunc, .i 0] 153)]⟩ .nil kr .nil <| ath_n ?_
 refine aw_seq <| aw_seq ?_
 refine aw_region eqok [] [] [] [0, 2, 4] [2] [] ⟨[(0, tI 3), (2, tP 2 0), (4, tI 3)], [(2, .cells [.val .nilFunc, .val .nilFunc, .val .nilFunc, .i 0] 153)]⟩ .nil kr .nil <| ath_n ?_
 refine aw_block <| aw_seq ?_
 refine aw_region eqok [] [] [] [0, 2, 4, 5] [2] [] ⟨[(0, tI 3), (2, tP 2 0), (4, tI 3), (5, tB false)], [(2, .cells [.val .nilFunc, .val .nilFunc, .val .nilFunc, .i 0] 153)]⟩ .nil kr .nil <| ath_n ?_
 refine aw_cond_f kr <| aw_seq ?_
 refine aw_region eqok [] [] [] [0, 2, 4, 8] [2] [] ⟨[(0, tI 3), (2, tP 2 0), (4, tI 3), (8, tB false)], [(2, .cells [.val .nilFunc, .val .nilFunc, .val .nilFunc, .i 0] 153)]⟩ .nil kr .nil <| ath_n ?_
 refine aw_cond_f kr <| aw_seq ?_
 refine aw_region eqok [] [] [] [0, 2, 11] [2] [] ⟨[(0, tI 3), (2, tP 2 0), (11, tB true)], [(2, .cells [.val .nilFunc, .val .nilFunc, .val .nilFunc, .i 0] 153)]⟩ .nil kr .nil <| ath_n ?_
 refine aw_cond_t kr <| aw_seq ?_
 refine aw_region eqok [] [] [] [2, 3] [2] [] ⟨[(2, tP 2 0), (3, tB true)], [(2, .cells [.clo 99 0 (fun _ => default), .clo 97 0 (fun _ => default), .clo 98 0 (fun _ => default), .i 2] 153)]⟩ .nil kr .nil <| ath_n ?_
 refine aw_ret <| abl_r <| ath_r ?_
 exact ⟨_, Cv.refl _, .inl rfl, .tup [.agg [.clo 99 0 (fun _ => default), .clo 97 0 (fun _ => default), .clo 98 0 (fun _ => default), .i 2], .one (.b true)], by kernel_rfl, tve_eq rfl⟩
theorem okfamilies3  : CallOk Try.prog (cfamilies3 ).1 (cfamilies3 ).2.1 (cfamilies3 ).2.2 := callOk_pure (fun _ _ => by kernel_rfl) fun _ => pfamilies3
def cfamiliesN (k : Int) : FuncId × List Av × Ef := (87, [.one (.i k)], .val [] (.tup [.agg [.val .nilFunc, .val .nilFunc, .val .nilFunc, .i k], .one (.b false)]))
theorem pfamiliesN (k : Int) (k1 : ¬ k = 1) (k2 : ¬ k = 2) (k3 : ¬ k = 3) : Pure Try.prog 87 (cfamiliesN k).2.1 (.tup [.agg [.val .nilFunc, .val .nilFunc, .val .nilFunc, .i k], .one (.b false)]) := by
 refine pure_of_awF Try.func87 rfl kr kr fun W0 M0 => ?_
 refine aw_seq ?_
 refine aw_region eqok [] [] [] [0, 2] [2] [] ⟨[(0, tI k), (2, tP 2 0)], [(2, .cells [.val .nilFunc, .val .nilFunc, .val .nilFunc, .i 0] 153)]⟩ .nil kr .nil <| ath_n ?_
 refine aw_seq <| aw_seq ?_
 refine aw_region eqok [] [] [] [0, 2, 4] [2] [] ⟨[(0, tI k), (2, tP 2 0), (4, tI k)], [(2, .cells [.val .nilFunc, .val .nilFunc, .val .nilFunc, .i 0] 153)]⟩ .nil kr .nil <| ath_n ?_
 refine aw_block <| aw_seq ?_
 refine aw_region eqok [] [] [] [0, 2, 4, 5] [2] [] ⟨[(0, tI k), (2, tP 2 0), (4, tI k), (5, tB (decide ((k : Int) = 1)))], [(2, .cells [.val .nilFunc, .val .nilFunc, .val .nilFunc, .i 0] 153)]⟩ .nil kr .nil <| ath_n ?_
 refine aw_cond (decide ((k : Int) = 1)) kr (fun h => absurd ((decide_eq_false k1).symm.trans h) (by decide)) (fun _ => ?_)
 refine aw_seq ?_
 refine aw_region eqok [] [] [] [0, 2, 4, 8] [2] [] ⟨[(0, tI k), (2, tP 2 0), (4, tI k), (8, tB (decide ((k : Int) = 2)))], [(2, .cells [.val .nilFunc, .val .nilFunc, .val .nilFunc, .i 0] 153)]⟩ .nil kr .nil <| ath_n ?_
 refine aw_cond (decide ((k : Int) = 2)) kr (fun h => absurd ((decide_eq_false k2).symm.trans h) (by decide)) (fun _ => ?_)
 refine aw_seq ?_
 refine aw_region eqok [] [] [] [0, 2, 11] [2] [] ⟨[(0, tI k), (2, tP 2 0), (11, tB (decide ((k : Int) = 3)))], [(2, .cells [.val .nilFunc, .val .nilFunc, .val .nilFunc, .i 0] 153)]⟩ .nil kr .nil <| ath_n ?_
 refine aw_cond (decide ((k : Int) = 3)) kr (fun h => absurd ((decide_eq_false k3).symm.trans h) (by decide)) (fun _ => ?_)
 refine aw_skip <| abl_n ?_
 refine ath_n <| aw_seq ?_
 refine aw_region eqok [] [] [] [2, 3] [2] [] ⟨[(2, tP 2 0), (3, tB false)], [(2, .cells [.val .nilFunc, .val .nilFunc, .val .nilFunc, .i k] 153)]⟩ .nil kr .nil <| ath_n <| aw_ret ?_
 exact ⟨_, Cv.refl _, .inl rfl, .tup [.agg [.val .nilFunc, .val .nilFunc, .val .nilFunc, .i k], .one (.b false)], by kernel_rfl, tve_eq rfl⟩
theorem okfamiliesN (k : Int) (k1 : ¬ k = 1) (k2 : ¬ k = 2) (k3 : ¬ k = 3) : CallOk Try.prog (cfamiliesN k).1 (cfamiliesN k).2.1 (cfamiliesN k).2.2 := callOk_pure (fun _ _ => by kernel_rfl) fun _ => pfamiliesN k k1 k2 k3
def Z00 (a0 : TPoint) (a1 : TPoint) : Bool := bif FvecRight a0 then FvecRight a1 else false
def Z01 (a0 : TPoint) (a1 : TPoint) (a2 : TPoint) : Bool := bif Z00 a0 a1 then FvecRight a2 else false
def Z02 (a0 : TPoint) (a1 : TPoint) (a2 : TPoint) : Bool := bif Z01 a0 a1 a2 then Fedgelone (TEdge.mk 1 a0 a1 a2) else false
def cof1 (a0 : TPoint) (a1 : TPoint) (a2 : TPoint) : FuncId × List Av × Ef := (64, [.agg [.i 1, .i a0.X, .i a0.Y, .i a1.X, .i a1.Y, .i a2.X, .i a2.Y]], .val [] (.tup [.agg [.clo 93 0 (fun _ => default), .clo 94 0 (fun _ => default), .clo 95 0 (fun _ => default), .i 1], .one (.b (Z02 a0 a1 a2))]))
theorem pof1 (a0 : TPoint) (a1 : TPoint) (a2 : TPoint) : Pure Try.prog 64 (cof1 a0 a1 a2).2.1 (.tup [.agg [.clo 93 0 (fun _ => default), .clo 94 0 (fun _ => default), .clo 95 0 (fun _ => default), .i 1], .one (.b (Z02 a0 a1 a2))]) := by
 refine pure_of_awF Try.func64 rfl kr kr fun W0 M0 => ?_
 refine aw_seq ?_
 refine aw_region eqok [] [] [] [1, 2] [1, 2] [] ⟨[(1, tP 1 0), (2, tP 2 0)], [(1, .cells [.i 1, .i a0.X, .i a0.Y, .i a1.X, .i a1.Y, .i a2.X, .i a2.Y] 33), (2, .cells [.val .nilFunc, .val .nilFunc, .val .nilFunc, .i 0] 153)]⟩ .nil kr .nil <| ath_n <| aw_seq ?_
 refine aw_region eqok [] [] [(9, cfamilies1)] [1, 2, 4, 5] [1, 2, 4] [Same (cfamilies1).2.1] ⟨[(1, tP 1 0), (2, tP 2 0), (4, tP 4 0), (5, tB true)], [(1, .cells [.i 1, .i a0.X, .i a0.Y, .i a1.X, .i a1.Y, .i a2.X, .i a2.Y] 33), (2, .cells [.val .nilFunc, .val .nilFunc, .val .nilFunc, .i 0] 153), (4, .cells [.clo 93 0 (fun _ => default), .clo 94 0 (fun _ => default), .clo 95 0 (fun _ => default), .i 1] 153)]⟩ (.cons (okfamilies1) .nil) kr (.cons rfl .nil) <| ath_n <| aw_seq ?_
 refine aw_draw mixed eqok [] [] [(17, cvecRight a0), (22, cvecRight a1), (27, cvecRight a2), (33, cedgelone (TEdge.mk 1 a0 a1 a2))] [2, 3] [2] [((true) = true) -> ((true) = true), ((true) = true) -> ((true) = true), ((true) = true) -> (Same (cvecRight a0).2.1), (true) = true -> ((true) = true), ((FvecRight a0) = true) -> ((FvecRight a0) = true), ((FvecRight a0) = true) -> ((FvecRight a0) = true), ((FvecRight a0) = true) -> (Same (cvecRight a1).2.1), (FvecRight a0) = true -> ((FvecRight a0) = true), ((Z00 a0 a1) = true) -> ((Z00 a0 a1) = true), ((Z00 a0 a1) = true) -> ((Z00 a0 a1) = true), ((Z00 a0 a1) = true) -> (Same (cvecRight a2).2.1), (Z00 a0 a1) = true -> ((Z00 a0 a1) = true), ((Z01 a0 a1 a2) = true) -> ((Z01 a0 a1 a2) = true), ((Z01 a0 a1 a2) = true) -> ((Z01 a0 a1 a2) = true), ((Z01 a0 a1 a2) = true) -> ((Z01 a0 a1 a2) = true), ((Z01 a0 a1 a2) = true) -> (Same (cedgelone (TEdge.mk 1 a0 a1 a2)).2.1), (Z01 a0 a1 a2) = true -> ((Z01 a0 a1 a2) = true)] ⟨[(2, tP 2 0), (3, tB (Z02 a0 a1 a2))], [(2, .cells [.clo 93 0 (fun _ => default), .clo 94 0 (fun _ => default), .clo 95 0 (fun _ => default), .i 1] 153)]⟩ (.cons (okvecRight a0) (.cons (okvecRight a1) (.cons (okvecRight a2) (.cons (okedgelone (TEdge.mk 1 a0 a1 a2)) .nil)))) kr kr (.cons id (.cons id (.cons (fun _ => rfl) (.cons id (.cons id (.cons id (.cons (fun _ => rfl) (.cons id (.cons id (.cons id (.cons (fun _ => rfl) (.cons id (.cons id (.cons id (.cons id (.cons (fun _ => rfl) (.cons id .nil))))))))))))))))) <| ath_n <| aw_ret ?_
 exact ⟨_, Cv.refl _, .inl rfl, .tup [.agg [.clo 93 0 (fun _ => default), .clo 94 0 (fun _ => default), .clo 95 0 (fun _ => default), .i 1], .one (.b (Z02 a0 a1 a2))], by kernel_rfl, tve_eq rfl⟩
theorem okof1 (a0 : TPoint) (a1 : TPoint) (a2 : TPoint) : CallOk Try.prog (cof1 a0 a1 a2).1 (cof1 a0 a1 a2).2.1 (cof1 a0 a1 a2).2.2 := callOk_pure (fun _ _ => by kernel_rfl) fun _ => pof1 a0 a1 a2
def Z03 (a0 : TPoint) (a1 : TPoint) : Bool := bif FvecRight a0 then FvecRight a1 else false
def Z04 (a0 : TPoint) (a1 : TPoint) (a2 : TPoint) : Bool := bif Z03 a0 a1 then FvecRight a2 else false
def Z05 (a0 : TPoint) (a1 : TPoint) (a2 : TPoint) : Bool := bif Z04 a0 a1 a2 then Fedgeleftwards (TEdge.mk 2 a0 a1 a2) else false
def cof2 (a0 : TPoint) (a1 : TPoint) (a2 : TPoint) : FuncId × List Av × Ef := (64, [.agg [.i 2, .i a0.X, .i a0.Y, .i a1.X, .i a1.Y, .i a2.X, .i a2.Y]], .val [] (.tup [.agg [.clo 96 0 (fun _ => default), .clo 97 0 (fun _ => default), .clo 98 0 (fun _ => default), .i 3], .one (.b (Z05 a0 a1 a2))]))
theorem pof2 (a0 : TPoint) (a1 : TPoint) (a2 : TPoint) : Pure Try.prog 64 (cof2 a0 a1 a2).2.1 (.tup [.agg [.clo 96 0 (fun _ => default), .clo 97 0 (fun _ => default), .clo 98 0 (fun _ => default), .i 3], .one (.b (Z05 a0 a1 a2))]) := by
 refine pure_of_awF Try.func64 rfl kr kr fun W0 M0 => ?_
 refine aw_seq ?_
 refine aw_region eqok [] [] [] [1, 2] [1, 2] [] ⟨[(1, tP 1 0), (2, tP 2 0)], [(1, .cells [.i 2, .i a0.X, .i a0.Y, .i a1.X, .i a1.Y, .i a2.X, .i a2.Y] 33), (2, .cells [.val .nilFunc, .val .nilFunc, .val .nilFunc, .i 0] 153)]⟩ .nil kr .nil <| ath_n <| aw_seq ?_
 refine aw_region eqok [] [] [(9, cfamilies2)] [1, 2, 4, 5] [1, 2, 4] [Same (cfamilies2).2.1] ⟨[(1, tP 1 0), (2, tP 2 0), (4, tP 4 0), (5, tB true)], [(1, .cells [.i 2, .i a0.X, .i a0.Y, .i a1.X, .i a1.Y, .i a2.X, .i a2.Y] 33), (2, .cells [.val .nilFunc, .val .nilFunc, .val .nilFunc, .i 0] 153), (4, .cells [.clo 96 0 (fun _ => default), .clo 97 0 (fun _ => default), .clo 98 0 (fun _ => default), .i 3] 153)]⟩ (.cons (okfamilies2) .nil) kr (.cons rfl .nil) <| ath_n <| aw_seq ?_
 refine aw_draw mixed eqok [] [] [(17, cvecRight a0), (22, cvecRight a1), (27, cvecRight a2), (33, cedgeleftwards (TEdge.mk 2 a0 a1 a2))] [2, 3] [2] [((true) = true) -> ((true) = true), ((true) = true) -> ((true) = true), ((true) = true) -> (Same (cvecRight a0).2.1), (true) = true -> ((true) = true), ((FvecRight a0) = true) -> ((FvecRight a0) = true), ((FvecRight a0) = true) -> ((FvecRight a0) = true), ((FvecRight a0) = true) -> (Same (cvecRight a1).2.1), (FvecRight a0) = true -> ((FvecRight a0) = true), ((Z03 a0 a1) = true) -> ((Z03 a0 a1) = true), ((Z03 a0 a1) = true) -> ((Z03 a0 a1) = true), ((Z03 a0 a1) = true) -> (Same (cvecRight a2).2.1), (Z03 a0 a1) = true -> ((Z03 a0 a1) = true), ((Z04 a0 a1 a2) = true) -> ((Z04 a0 a1 a2) = true), ((Z04 a0 a1 a2) = true) -> ((Z04 a0 a1 a2) = true), ((Z04 a0 a1 a2) = true) -> ((Z04 a0 a1 a2) = true), ((Z04 a0 a1 a2) = true) -> (Same (cedgeleftwards (TEdge.mk 2 a0 a1 a2)).2.1), (Z04 a0 a1 a2) = true -> ((Z04 a0 a1 a2) = true)] ⟨[(2, tP 2 0), (3, tB (Z05 a0 a1 a2))], [(2, .cells [.clo 96 0 (fun _ => default), .clo 97 0 (fun _ => default), .clo 98 0 (fun _ => default), .i 3] 153)]⟩ (.cons (okvecRight a0) (.cons (okvecRight a1) (.cons (okvecRight a2) (.cons (okedgeleftwards (TEdge.mk 2 a0 a1 a2)) .nil)))) kr kr (.cons id (.cons id (.cons (fun _ => rfl) (.cons id (.cons id (.cons id (.cons (fun _ => rfl) (.cons id (.cons id (.cons id (.cons (fun _ => rfl) (.cons id (.cons id (.cons id (.cons id (.cons (fun _ => rfl) (.cons id .nil))))))))))))))))) <| ath_n <| aw_ret ?_
 exact ⟨_, Cv.refl _, .inl rfl, .tup [.agg [.clo 96 0 (fun _ => default), .clo 97 0 (fun _ => default), .clo 98 0 (fun _ => default), .i 3], .one (.b (Z05 a0 a1 a2))], by kernel_rfl, tve_eq rfl⟩
theorem okof2 (a0 : TPoint) (a1 : TPoint) (a2 : TPoint) : CallOk Try.prog (cof2 a0 a1 a2).1 (cof2 a0 a1 a2).2.1 (cof2 a0 a1 a2).2.2 := callOk_pure (fun _ _ => by kernel_rfl) fun _ => pof2 a0 a1 a2
def Z06 (a0 : TPoint) (a1 : TPoint) : Bool := bif FvecRight a0 then FvecRight a1 else false
def Z07 (a0 : TPoint) (a1 : TPoint) (a2 : TPoint) : Bool := bif Z06 a0 a1 then FvecRight a2 else false
def Z08 (a0 : TPoint) (a1 : TPoint) (a2 : TPoint) : Bool := bif Z07 a0 a1 a2 then Fedgerightwards (TEdge.mk 3 a0 a1 a2) else false
def cof3 (a0 : TPoint) (a1 : TPoint) (a2 : TPoint) : FuncId × List Av × Ef := (64, [.agg [.i 3, .i a0.X, .i a0.Y, .i a1.X, .i a1.Y, .i a2.X, .i a2.Y]], .val [] (.tup [.agg [.clo 99 0 (fun _ => default), .clo 97 0 (fun _ => default), .clo 98 0 (fun _ => default), .i 2], .one (.b (Z08 a0 a1 a2))]))
theorem pof3 (a0 : TPoint) (a1 : TPoint) (a2 : TPoint) : Pure Try.prog 64 (cof3 a0 a1 a2).2.1 (.tup [.agg [.clo 99 0 (fun _ => default), .clo 97 0 (fun _ => default), .clo 98 0 (fun _ => default), .i 2], .one (.b (Z08 a0 a1 a2))]) := by
 refine pure_of_awF Try.func64 rfl kr kr fun W0 M0 => ?_
 refine aw_seq ?_
 refine aw_region eqok [] [] [] [1, 2] [1, 2] [] ⟨[(1, tP 1 0), (2, tP 2 0)], [(1, .cells [.i 3, .i a0.X, .i a0.Y, .i a1.X, .i a1.Y, .i a2.X, .i a2.Y] 33), (2, .cells [.val .nilFunc, .val .nilFunc, .val .nilFunc, .i 0] 153)]⟩ .nil kr .nil <| ath_n <| aw_seq ?_
 refine aw_region eqok [] [] [(9, cfamilies3)] [1, 2, 4, 5] [1, 2, 4] [Same (cfamilies3).2.1] ⟨[(1, tP 1 0), (2, tP 2 0), (4, tP 4 0), (5, tB true)], [(1, .cells [.i 3, .i a0.X, .i a0.Y, .i a1.X, .i a1.Y, .i a2.X, .i a2.Y] 33), (2, .cells [.val .nilFunc, .val .nilFunc, .val .nilFunc, .i 0] 153), (4, .cells [.clo 99 0 (fun _ => default), .clo 97 0 (fun _ => default), .clo 98 0 (fun _ => default), .i 2] 153)]⟩ (.cons (okfamilies3) .nil) kr (.cons rfl .nil) <| ath_n <| aw_seq ?_
 refine aw_draw mixed eqok [] [] [(17, cvecRight a0), (22, cvecRight a1), (27, cvecRight a2), (33, cedgerightwards (TEdge.mk 3 a0 a1 a2))] [2, 3] [2] [((true) = true) -> ((true) = true), ((true) = true) -> ((true) = true), ((true) = true) -> (Same (cvecRight a0).2.1), (true) = true -> ((true) = true), ((FvecRight a0) = true) -> ((FvecRight a0) = true), ((FvecRight a0) = true) -> ((FvecRight a0) = true), ((FvecRight a0) = true) -> (Same (cvecRight a1).2.1), (FvecRight a0) = true -> ((FvecRight a0) = true), ((Z06 a0 a1) = true) -> ((Z06 a0 a1) = true), ((Z06 a0 a1) = true) -> ((Z06 a0 a1) = true), ((Z06 a0 a1) = true) -> (Same (cvecRight a2).2.1), (Z06 a0 a1) = true -> ((Z06 a0 a1) = true), ((Z07 a0 a1 a2) = true) -> ((Z07 a0 a1 a2) = true), ((Z07 a0 a1 a2) = true) -> ((Z07 a0 a1 a2) = true), ((Z07 a0 a1 a2) = true) -> ((Z07 a0 a1 a2) = true), ((Z07 a0 a1 a2) = true) -> (Same (cedgerightwards (TEdge.mk 3 a0 a1 a2)).2.1), (Z07 a0 a1 a2) = true -> ((Z07 a0 a1 a2) = true)] ⟨[(2, tP 2 0), (3, tB (Z08 a0 a1 a2))], [(2, .cells [.clo 99 0 (fun _ => default), .clo 97 0 (fun _ => default), .clo 98 0 (fun _ => default), .i 2] 153)]⟩ (.cons (okvecRight a0) (.cons (okvecRight a1) (.cons (okvecRight a2) (.cons (okedgerightwards (TEdge.mk 3 a0 a1 a2)) .nil)))) kr kr (.cons id (.cons id (.cons (fun _ => rfl) (.cons id (.cons id (.cons id (.cons (fun _ => rfl) (.cons id (.cons id (.cons id (.cons (fun _ => rfl) (.cons id (.cons id (.cons id (.cons id (.cons (fun _ => rfl) (.cons id .nil))))))))))))))))) <| ath_n <| aw_ret ?_
 exact ⟨_, Cv.refl _, .inl rfl, .tup [.agg [.clo 99 0 (fun _ => default), .clo 97 0 (fun _ => default), .clo 98 0 (fun _ => default), .i 2], .one (.b (Z08 a0 a1 a2))], by kernel_rfl, tve_eq rfl⟩
theorem okof3 (a0 : TPoint) (a1 : TPoint) (a2 : TPoint) : CallOk Try.prog (cof3 a0 a1 a2).1 (cof3 a0 a1 a2).2.1 (cof3 a0 a1 a2).2.2 := callOk_pure (fun _ _ => by kernel_rfl) fun _ => pof3 a0 a1 a2
def cofN (e : TEdge) : FuncId × List Av × Ef := (64, [.agg (TEdge.c e)], .val [] (.tup [.agg [.val .nilFunc, .val .nilFunc, .val .nilFunc, .i e.Kind], .one (.b false)]))
theorem pofN (e : TEdge) (k1 : ¬ e.Kind = 1) (k2 : ¬ e.Kind = 2) (k3 : ¬ e.Kind = 3) : Pure Try.prog 64 (cofN e).2.1 (.tup [.agg [.val .nilFunc, .val .nilFunc, .val .nilFunc, .i e.Kind], .one (.b false)]) := by
 refine pure_of_awF Try.func64 rfl kr kr fun W0 M0 => ?_
 refine aw_seq ?_
 refine aw_region eqok [] [] [] [1, 2] [1, 2] [] ⟨[(1, tP 1 0), (2, tP 2 0)], [(1, .cells (TEdge.c e) 33), (2, .cells [.val .nilFunc, .val .nilFunc, .val .nilFunc, .i 0] 153)]⟩ .nil kr .nil <| ath_n <| aw_seq ?_
 refine aw_region eqok [] [] [(9, cfamiliesN e.Kind)] [1, 2, 4, 5] [1, 2, 4] [Same (cfamiliesN e.Kind).2.1] ⟨[(1, tP 1 0), (2, tP 2 0), (4, tP 4 0), (5, tB false)], [(1, .cells (TEdge.c e) 33), (2, .cells [.val .nilFunc, .val .nilFunc, .val .nilFunc, .i 0] 153), (4, .cells [.val .nilFunc, .val .nilFunc, .val .nilFunc, .i e.Kind] 153)]⟩ (.cons (okfamiliesN e.Kind k1 k2 k3) .nil) kr (.cons rfl .nil) <| ath_n <| aw_seq ?_
 refine aw_draw mixed eqok [] [] [(17, cvecRight e.A), (22, cvecRight e.B), (27, cvecRight e.C)] [2, 3] [2] [((false) = true) -> ((false) = true), ((false) = true) -> ((false) = true), ((false) = true) -> (Same (cvecRight e.A).2.1), (false) = true -> ((false) = true), ((false) = true) -> ((false) = true), ((false) = true) -> ((false) = true), ((false) = true) -> (Same (cvecRight e.B).2.1), (false) = true -> ((false) = true), ((false) = true) -> ((false) = true), ((false) = true) -> ((false) = true), ((false) = true) -> (Same (cvecRight e.C).2.1), (false) = true -> ((false) = true), ((false) = true) -> ((false) = true), ¬ ((false) = true), (false) = true -> ((false) = true)] ⟨[(2, tP 2 0), (3, tB false)], [(2, .cells [.val .nilFunc, .val .nilFunc, .val .nilFunc, .i e.Kind] 153)]⟩ (.cons (okvecRight e.A) (.cons (okvecRight e.B) (.cons (okvecRight e.C) .nil))) kr kr (.cons id (.cons id (.cons (fun _ => rfl) (.cons id (.cons id (.cons id (.cons (fun _ => rfl) (.cons id (.cons id (.cons id (.cons (fun _ => rfl) (.cons id (.cons id (.cons (by simp) (.cons id .nil))))))))))))))) <| ath_n <| aw_ret ?_
 exact ⟨_, Cv.refl _, .inl rfl, .tup [.agg [.val .nilFunc, .val .nilFunc, .val .nilFunc, .i e.Kind], .one (.b false)], by kernel_rfl, tve_eq rfl⟩
theorem okofN (e : TEdge) (k1 : ¬ e.Kind = 1) (k2 : ¬ e.Kind = 2) (k3 : ¬ e.Kind = 3) : CallOk Try.prog (cofN e).1 (cofN e).2.1 (cofN e).2.2 := callOk_pure (fun _ _ => by kernel_rfl) fun _ => pofN e k1 k2 k3
def Z09 (a0 : TPoint) (a1 : TPoint) (a2 : TPoint) : Bool := !(bif bif FvecRight a0 then FvecRight a1 else false then FvecRight a2 else false)
def FCheck1 (a0 : TPoint) (a1 : TPoint) (a2 : TPoint) : Int := bif Z02 a0 a1 a2 then (0) else (bif Z09 a0 a1 a2 then (10) else (11))
def cCheck1 (a0 : TPoint) (a1 : TPoint) (a2 : TPoint) : FuncId × List Av × Ef := (42, [.agg [.i 1, .i a0.X, .i a0.Y, .i a1.X, .i a1.Y, .i a2.X, .i a2.Y]], .val [] (.av (.one (.i (FCheck1 a0 a1 a2)))))
theorem pCheck1 (a0 : TPoint) (a1 : TPoint) (a2 : TPoint) : Pure Try.prog 42 (cCheck1 a0 a1 a2).2.1 (.av (.one (.i (FCheck1 a0 a1 a2)))) := by
 refine pure_of_awF Try.func42 rfl kr kr fun W0 M0 => ?_
 refine aw_seq ?_
 refine aw_region eqok [] [] [] [1] [1] [] ⟨[(1, tP 1 0)], [(1, .cells [.i 1, .i a0.X, .i a0.Y, .i a1.X, .i a1.Y, .i a2.X, .i a2.Y] 33)]⟩ .nil kr .nil <| ath_n ?_
 refine aw_seq <| aw_seq ?_
 refine aw_region eqok [] [] [(7, cof1 a0 a1 a2)] [1, 4] [1] [Same (cof1 a0 a1 a2).2.1] ⟨[(1, tP 1 0), (4, tB (Z02 a0 a1 a2))], [(1, .cells [.i 1, .i a0.X, .i a0.Y, .i a1.X, .i a1.Y, .i a2.X, .i a2.Y] 33)]⟩ (.cons (okof1 a0 a1 a2) .nil) kr (.cons rfl .nil) <| ath_n ?_
 refine aw_block <| aw_seq ?_
 refine aw_region eqok [] [] [] [1, 10] [1] [] ⟨[(1, tP 1 0), (10, tB (Z02 a0 a1 a2))], [(1, .cells [.i 1, .i a0.X, .i a0.Y, .i a1.X, .i a1.Y, .i a2.X, .i a2.Y] 33)]⟩ .nil kr .nil <| ath_n ?_
 refine aw_cond (Z02 a0 a1 a2) kr (fun h1 => ?_) (fun h1 => ?_)
 ·refine aw_seq ?_
  refine aw_region eqok [] [] [] [2] [] [] ⟨[(2, tI 0)], []⟩ .nil kr .nil <| ath_n ?_
  refine aw_ret <| abl_r <| ath_r ?_
  exact ⟨_, Cv.refl _, .inl rfl, .av (.one (.i 0)), by kernel_rfl, tve_eq (by first | (simp only [FCheck1, h1, cond_true, cond_false] <;> rfl))⟩
 ·refine aw_seq ?_
  refine aw_region eqok [] [] [(24, cvecRight a0), (28, cvecRight a1), (33, cvecRight a2)] [12] [] [((true) = true) -> ((true) = true), ((true) = true) -> ((true) = true), (true) = true -> ((true) = true), ((true) = true) -> ((true) = true), ((true) = true) -> ((true) = true), ((true) = true) -> (Same (cvecRight a0).2.1), ((true) = true) -> ((true) = true), (((true) = true) /\ (FvecRight a0) = true) -> (((true) = true) /\ (FvecRight a0) = true), (((true) = true) /\ (FvecRight a0) = true) -> (((true) = true) /\ (FvecRight a0) = true), (((true) = true) /\ (FvecRight a0) = true) -> (Same (cvecRight a1).2.1), ((true) = true) -> ((true) = true), ((true) = true) -> ((FvecRight a0) = true -> (((true) = true) /\ (FvecRight a0) = true)), ((true) = true) -> ((true) = true), (((true) = true) /\ (bif FvecRight a0 then FvecRight a1 else false) = true) -> (((true) = true) /\ (bif FvecRight a0 then FvecRight a1 else false) = true), (((true) = true) /\ (bif FvecRight a0 then FvecRight a1 else false) = true) -> (((true) = true) /\ (bif FvecRight a0 then FvecRight a1 else false) = true), (((true) = true) /\ (bif FvecRight a0 then FvecRight a1 else false) = true) -> (Same (cvecRight a2).2.1), ((true) = true) -> ((true) = true), ((true) = true) -> ((bif FvecRight a0 then FvecRight a1 else false) = true -> (((true) = true) /\ (bif FvecRight a0 then FvecRight a1 else false) = true)), ((true) = true) -> ((true) = true), (true) = true -> ((true) = true)] ⟨[(12, tB (Z09 a0 a1 a2))], []⟩ (.cons (okvecRight a0) (.cons (okvecRight a1) (.cons (okvecRight a2) .nil))) kr (.cons id (.cons id (.cons id (.cons id (.cons id (.cons (fun _ => rfl) (.cons id (.cons id (.cons id (.cons (fun _ => rfl) (.cons id (.cons (by intros; first | assumption | exact ⟨by assumption, by assumption⟩ | simp_all) (.cons id (.cons id (.cons id (.cons (fun _ => rfl) (.cons id (.cons (by intros; first | assumption | exact ⟨by assumption, by assumption⟩ | simp_all) (.cons id (.cons id .nil)))))))))))))))))))) <| ath_n ?_
  refine aw_cond (Z09 a0 a1 a2) kr (fun h2 => ?_) (fun h2 => ?_)
  ·refine aw_seq ?_
   refine aw_region eqok [] [] [] [2] [] [] ⟨[(2, tI 10)], []⟩ .nil kr .nil <| ath_n ?_
   refine aw_ret <| abl_r <| ath_r ?_
   exact ⟨_, Cv.refl _, .inl rfl, .av (.one (.i 10)), by kernel_rfl, tve_eq (by first | (simp only [FCheck1, h1, h2, cond_true, cond_false] <;> rfl))⟩
  ·refine aw_skip <| abl_n ?_
   refine ath_n <| aw_seq ?_
   refine aw_region eqok [] [] [] [2] [] [] ⟨[(2, tI 11)], []⟩ .nil kr .nil <| ath_n <| aw_ret ?_
   exact ⟨_, Cv.refl _, .inl rfl, .av (.one (.i 11)), by kernel_rfl, tve_eq (by first | (simp only [FCheck1, h1, h2, cond_true, cond_false] <;> rfl))⟩
def Z0a (a0 : TPoint) (a1 : TPoint) (a2 : TPoint) : Bool := !(bif bif FvecRight a0 then FvecRight a1 else false then FvecRight a2 else false)
def FCheck2 (a0 : TPoint) (a1 : TPoint) (a2 : TPoint) : Int := bif Z05 a0 a1 a2 then (0) else (bif Z0a a0 a1 a2 then (10) else (11))
def cCheck2 (a0 : TPoint) (a1 : TPoint) (a2 : TPoint) : FuncId × List Av × Ef := (42, [.agg [.i 2, .i a0.X, .i a0.Y, .i a1.X, .i a1.Y, .i a2.X, .i a2.Y]], .val [] (.av (.one (.i (FCheck2 a0 a1 a2)))))
theorem pCheck2 (a0 : TPoint) (a1 : TPoint) (a2 : TPoint) : Pure Try.prog 42 (cCheck2 a0 a1 a2).2.1 (.av (.one (.i (FCheck2 a0 a1 a2)))) := by
 refine pure_of_awF Try.func42 rfl kr kr fun W0 M0 => ?_
 refine aw_seq ?_
 refine aw_region eqok [] [] [] [1] [1] [] ⟨[(1, tP 1 0)], [(1, .cells [.i 2, .i a0.X, .i a0.Y, .i a1.X, .i a1.Y, .i a2.X, .i a2.Y] 33)]⟩ .nil kr .nil <| ath_n ?_
 refine aw_seq <| aw_seq ?_
 refine aw_region eqok [] [] [(7, cof2 a0 a1 a2)] [1, 4] [1] [Same (cof2 a0 a1 a2).2.1] ⟨[(1, tP 1 0), (4, tB (Z05 a0 a1 a2))], [(1, .cells [.i 2, .i a0.X, .i a0.Y, .i a1.X, .i a1.Y, .i a2.X, .i a2.Y] 33)]⟩ (.cons (okof2 a0 a1 a2) .nil) kr (.cons rfl .nil) <| ath_n ?_
 refine aw_block <| aw_seq ?_
 refine aw_region eqok [] [] [] [1, 10] [1] [] ⟨[(1, tP 1 0), (10, tB (Z05 a0 a1 a2))], [(1, .cells [.i 2, .i a0.X, .i a0.Y, .i a1.X, .i a1.Y, .i a2.X, .i a2.Y] 33)]⟩ .nil kr .nil <| ath_n ?_
 refine aw_cond (Z05 a0 a1 a2) kr (fun h1 => ?_) (fun h1 => ?_)
 ·refine aw_seq ?_
  refine aw_region eqok [] [] [] [2] [] [] ⟨[(2, tI 0)], []⟩ .nil kr .nil <| ath_n ?_
  refine aw_ret <| abl_r <| ath_r ?_
  exact ⟨_, Cv.refl _, .inl rfl, .av (.one (.i 0)), by kernel_rfl, tve_eq (by first | (simp only [FCheck2, h1, cond_true, cond_false] <;> rfl))⟩
 ·refine aw_seq ?_
  refine aw_region eqok [] [] [(24, cvecRight a0), (28, cvecRight a1), (33, cvecRight a2)] [12] [] [((true) = true) -> ((true) = true), ((true) = true) -> ((true) = true), (true) = true -> ((true) = true), ((true) = true) -> ((true) = true), ((true) = true) -> ((true) = true), ((true) = true) -> (Same (cvecRight a0).2.1), ((true) = true) -> ((true) = true), (((true) = true) /\ (FvecRight a0) = true) -> (((true) = true) /\ (FvecRight a0) = true), (((true) = true) /\ (FvecRight a0) = true) -> (((true) = true) /\ (FvecRight a0) = true), (((true) = true) /\ (FvecRight a0) = true) -> (Same (cvecRight a1).2.1), ((true) = true) -> ((true) = true), ((true) = true) -> ((FvecRight a0) = true -> (((true) = true) /\ (FvecRight a0) = true)), ((true) = true) -> ((true) = true), (((true) = true) /\ (bif FvecRight a0 then FvecRight a1 else false) = true) -> (((true) = true) /\ (bif FvecRight a0 then FvecRight a1 else false) = true), (((true) = true) /\ (bif FvecRight a0 then FvecRight a1 else false) = true) -> (((true) = true) /\ (bif FvecRight a0 then FvecRight a1 else false) = true), (((true) = true) /\ (bif FvecRight a0 then FvecRight a1 else false) = true) -> (Same (cvecRight a2).2.1), ((true) = true) -> ((true) = true), ((true) = true) -> ((bif FvecRight a0 then FvecRight a1 else false) = true -> (((true) = true) /\ (bif FvecRight a0 then FvecRight a1 else false) = true)), ((true) = true) -> ((true) = true), (true) = true -> ((true) = true)] ⟨[(12, tB (Z0a a0 a1 a2))], []⟩ (.cons (okvecRight a0) (.cons (okvecRight a1) (.cons (okvecRight a2) .nil))) kr (.cons id (.cons id (.cons id (.cons id (.cons id (.cons (fun _ => rfl) (.cons id (.cons id (.cons id (.cons (fun _ => rfl) (.cons id (.cons (by intros; first | assumption | exact ⟨by assumption, by assumption⟩ | simp_all) (.cons id (.cons id (.cons id (.cons (fun _ => rfl) (.cons id (.cons (by intros; first | assumption | exact ⟨by assumption, by assumption⟩ | simp_all) (.cons id (.cons id .nil)))))))))))))))))))) <| ath_n ?_
  refine aw_cond (Z0a a0 a1 a2) kr (fun h2 => ?_) (fun h2 => ?_)
  ·refine aw_seq ?_
   refine aw_region eqok [] [] [] [2] [] [] ⟨[(2, tI 10)], []⟩ .nil kr .nil <| ath_n ?_
   refine aw_ret <| abl_r <| ath_r ?_
   exact ⟨_, Cv.refl _, .inl rfl, .av (.one (.i 10)), by kernel_rfl, tve_eq (by first | (simp only [FCheck2, h1, h2, cond_true, cond_false] <;> rfl))⟩
  ·refine aw_skip <| abl_n ?_
   refine ath_n <| aw_seq ?_
   refine aw_region eqok [] [] [] [2] [] [] ⟨[(2, tI 11)], []⟩ .nil kr .nil <| ath_n <| aw_ret ?_
   exact ⟨_, Cv.refl _, .inl rfl, .av (.one (.i 11)), by kernel_rfl, tve_eq (by first | (simp only [FCheck2, h1, h2, cond_true, cond_false] <;> rfl))⟩
def Z0b (a0 : TPoint) (a1 : TPoint) (a2 : TPoint) : Bool := !(bif bif FvecRight a0 then FvecRight a1 else false then FvecRight a2 else false)
def FCheck3 (a0 : TPoint) (a1 : TPoint) (a2 : TPoint) : Int := bif Z08 a0 a1 a2 then (0) else (bif Z0b a0 a1 a2 then (10) else (11))
def cCheck3 (a0 : TPoint) (a1 : TPoint) (a2 : TPoint) : FuncId × List Av × Ef := (42, [.agg [.i 3, .i a0.X, .i a0.Y, .i a1.X, .i a1.Y, .i a2.X, .i a2.Y]], .val [] (.av (.one (.i (FCheck3 a0 a1 a2)))))
theorem pCheck3 (a0 : TPoint) (a1 : TPoint) (a2 : TPoint) : Pure Try.prog 42 (cCheck3 a0 a1 a2).2.1 (.av (.one (.i (FCheck3 a0 a1 a2)))) := by
 refine pure_of_awF Try.func42 rfl kr kr fun W0 M0 => ?_
 refine aw_seq ?_
 refine aw_region eqok [] [] [] [1] [1] [] ⟨[(1, tP 1 0)], [(1, .cells [.i 3, .i a0.X, .i a0.Y, .i a1.X, .i a1.Y, .i a2.X, .i a2.Y] 33)]⟩ .nil kr .nil <| ath_n ?_
 refine aw_seq <| aw_seq ?_
 refine aw_region eqok [] [] [(7, cof3 a0 a1 a2)] [1, 4] [1] [Same (cof3 a0 a1 a2).2.1] ⟨[(1, tP 1 0), (4, tB (Z08 a0 a1 a2))], [(1, .cells [.i 3, .i a0.X, .i a0.Y, .i a1.X, .i a1.Y, .i a2.X, .i a2.Y] 33)]⟩ (.cons (okof3 a0 a1 a2) .nil) kr (.cons rfl .nil) <| ath_n ?_
 refine aw_block <| aw_seq ?_
 refine aw_region eqok [] [] [] [1, 10] [1] [] ⟨[(1, tP 1 0), (10, tB (Z08 a0 a1 a2))], [(1, .cells [.i 3, .i a0.X, .i a0.Y, .i a1.X, .i a1.Y, .i a2.X, .i a2.Y] 33)]⟩ .nil kr .nil <| ath_n ?_
 refine aw_cond (Z08 a0 a1 a2) kr (fun h1 => ?_) (fun h1 => ?_)
 ·refine aw_seq ?_
  refine aw_region eqok [] [] [] [2] [] [] ⟨[(2, tI 0)], []⟩ .nil kr .nil <| ath_n ?_
  refine aw_ret <| abl_r <| ath_r ?_
  exact ⟨_, Cv.refl _, .inl rfl, .av (.one (.i 0)), by kernel_rfl, tve_eq (by first | (simp only [FCheck3, h1, cond_true, cond_false] <;> rfl))⟩
 ·refine aw_seq ?_
  refine aw_region eqok [] [] [(24, cvecRight a0), (28, cvecRight a1), (33, cvecRight a2)] [12] [] [((true) = true) -> ((true) = true), ((true) = true) -> ((true) = true), (true) = true -> ((true) = true), ((true) = true) -> ((true) = true), ((true) = true) -> ((true) = true), ((true) = true) -> (Same (cvecRight a0).2.1), ((true) = true) -> ((true) = true), (((true) = true) /\ (FvecRight a0) = true) -> (((true) = true) /\ (FvecRight a0) = true), (((true) = true) /\ (FvecRight a0) = true) -> (((true) = true) /\ (FvecRight a0) = true), (((true) = true) /\ (FvecRight a0) = true) -> (Same (cvecRight a1).2.1), ((true) = true) -> ((true) = true), ((true) = true) -> ((FvecRight a0) = true -> (((true) = true) /\ (FvecRight a0) = true)), ((true) = true) -> ((true) = true), (((true) = true) /\ (bif FvecRight a0 then FvecRight a1 else false) = true) -> (((true) = true) /\ (bif FvecRight a0 then FvecRight a1 else false) = true), (((true) = true) /\ (bif FvecRight a0 then FvecRight a1 else false) = true) -> (((true) = true) /\ (bif FvecRight a0 then FvecRight a1 else false) = true), (((true) = true) /\ (bif FvecRight a0 then FvecRight a1 else false) = true) -> (Same (cvecRight a2).2.1), ((true) = true) -> ((true) = true), ((true) = true) -> ((bif FvecRight a0 then FvecRight a1 else false) = true -> (((true) = true) /\ (bif FvecRight a0 then FvecRight a1 else false) = true)), ((true) = true) -> ((true) = true), (true) = true -> ((true) = true)] ⟨[(12, tB (Z0b a0 a1 a2))], []⟩ (.cons (okvecRight a0) (.cons (okvecRight a1) (.cons (okvecRight a2) .nil))) kr (.cons id (.cons id (.cons id (.cons id (.cons id (.cons (fun _ => rfl) (.cons id (.cons id (.cons id (.cons (fun _ => rfl) (.cons id (.cons (by intros; first | assumption | exact ⟨by assumption, by assumption⟩ | simp_all) (.cons id (.cons id (.cons id (.cons (fun _ => rfl) (.cons id (.cons (by intros; first | assumption | exact ⟨by assumption, by assumption⟩ | simp_all) (.cons id (.cons id .nil)))))))))))))))))))) <| ath_n ?_
  refine aw_cond (Z0b a0 a1 a2) kr (fun h2 => ?_) (fun h2 => ?_)
  ·refine aw_seq ?_
   refine aw_region eqok [] [] [] [2] [] [] ⟨[(2, tI 10)], []⟩ .nil kr .nil <| ath_n ?_
   refine aw_ret <| abl_r <| ath_r ?_
   exact ⟨_, Cv.refl _, .inl rfl, .av (.one (.i 10)), by kernel_rfl, tve_eq (by first | (simp only [FCheck3, h1, h2, cond_true, cond_false] <;> rfl))⟩
  ·refine aw_skip <| abl_n ?_
   refine ath_n <| aw_seq ?_
   refine aw_region eqok [] [] [] [2] [] [] ⟨[(2, tI 11)], []⟩ .nil kr .nil <| ath_n <| aw_ret ?_
   exact ⟨_, Cv.refl _, .inl rfl, .av (.one (.i 11)), by kernel_rfl, tve_eq (by first | (simp only [FCheck3, h1, h2, cond_true, cond_false] <;> rfl))⟩
def FCheckN (e : TEdge) : Int := bif bif bif decide ((1 : Int) <= e.Kind) then decide ((e.Kind : Int) <= 3) else false then !(bif bif FvecRight e.A then FvecRight e.B else false then FvecRight e.C else false) else false then (10) else (11)
def cCheckN (e : TEdge) : FuncId × List Av × Ef := (42, [.agg (TEdge.c e)], .val [] (.av (.one (.i (FCheckN e)))))
theorem pCheckN (e : TEdge) (k1 : ¬ e.Kind = 1) (k2 : ¬ e.Kind = 2) (k3 : ¬ e.Kind = 3) : Pure Try.prog 42 (cCheckN e).2.1 (.av (.one (.i (FCheckN e)))) := by
 refine pure_of_awF Try.func42 rfl kr kr fun W0 M0 => ?_
 refine aw_seq ?_
 refine aw_region eqok [] [] [] [1] [1] [] ⟨[(1, tP 1 0)], [(1, .cells (TEdge.c e) 33)]⟩ .nil kr .nil <| ath_n ?_
 refine aw_seq <| aw_seq ?_
 refine aw_region eqok [] [] [(7, cofN e)] [1, 4] [1] [Same (cofN e).2.1] ⟨[(1, tP 1 0), (4, tB false)], [(1, .cells (TEdge.c e) 33)]⟩ (.cons (okofN e k1 k2 k3) .nil) kr (.cons rfl .nil) <| ath_n ?_
 refine aw_block <| aw_seq ?_
 refine aw_region eqok [] [] [] [1, 10] [1] [] ⟨[(1, tP 1 0), (10, tB false)], [(1, .cells (TEdge.c e) 33)]⟩ .nil kr .nil <| ath_n ?_
 refine aw_cond_f kr <| aw_seq ?_
 refine aw_region eqok [] [] [(24, cvecRight e.A), (28, cvecRight e.B), (33, cvecRight e.C)] [12] [] [((decide ((1 : Int) <= e.Kind)) = true) -> ((decide ((1 : Int) <= e.Kind)) = true), ((decide ((1 : Int) <= e.Kind)) = true) -> ((decide ((1 : Int) <= e.Kind)) = true), (decide ((1 : Int) <= e.Kind)) = true -> ((decide ((1 : Int) <= e.Kind)) = true), ((bif decide ((1 : Int) <= e.Kind) then decide ((e.Kind : Int) <= 3) else false) = true) -> ((bif decide ((1 : Int) <= e.Kind) then decide ((e.Kind : Int) <= 3) else false) = true), ((bif decide ((1 : Int) <= e.Kind) then decide ((e.Kind : Int) <= 3) else false) = true) -> ((bif decide ((1 : Int) <= e.Kind) then decide ((e.Kind : Int) <= 3) else false) = true), ((bif decide ((1 : Int) <= e.Kind) then decide ((e.Kind : Int) <= 3) else false) = true) -> (Same (cvecRight e.A).2.1), ((bif decide ((1 : Int) <= e.Kind) then decide ((e.Kind : Int) <= 3) else false) = true) -> ((bif decide ((1 : Int) <= e.Kind) then decide ((e.Kind : Int) <= 3) else false) = true), (((bif decide ((1 : Int) <= e.Kind) then decide ((e.Kind : Int) <= 3) else false) = true) /\ (FvecRight e.A) = true) -> (((bif decide ((1 : Int) <= e.Kind) then decide ((e.Kind : Int) <= 3) else false) = true) /\ (FvecRight e.A) = true), (((bif decide ((1 : Int) <= e.Kind) then decide ((e.Kind : Int) <= 3) else false) = true) /\ (FvecRight e.A) = true) -> (((bif decide ((1 : Int) <= e.Kind) then decide ((e.Kind : Int) <= 3) else false) = true) /\ (FvecRight e.A) = true), (((bif decide ((1 : Int) <= e.Kind) then decide ((e.Kind : Int) <= 3) else false) = true) /\ (FvecRight e.A) = true) -> (Same (cvecRight e.B).2.1), ((bif decide ((1 : Int) <= e.Kind) then decide ((e.Kind : Int) <= 3) else false) = true) -> ((bif decide ((1 : Int) <= e.Kind) then decide ((e.Kind : Int) <= 3) else false) = true), ((bif decide ((1 : Int) <= e.Kind) then decide ((e.Kind : Int) <= 3) else false) = true) -> ((FvecRight e.A) = true -> (((bif decide ((1 : Int) <= e.Kind) then decide ((e.Kind : Int) <= 3) else false) = true) /\ (FvecRight e.A) = true)), ((bif decide ((1 : Int) <= e.Kind) then decide ((e.Kind : Int) <= 3) else false) = true) -> ((bif decide ((1 : Int) <= e.Kind) then decide ((e.Kind : Int) <= 3) else false) = true), (((bif decide ((1 : Int) <= e.Kind) then decide ((e.Kind : Int) <= 3) else false) = true) /\ (bif FvecRight e.A then FvecRight e.B else false) = true) -> (((bif decide ((1 : Int) <= e.Kind) then decide ((e.Kind : Int) <= 3) else false) = true) /\ (bif FvecRight e.A then FvecRight e.B else false) = true), (((bif decide ((1 : Int) <= e.Kind) then decide ((e.Kind : Int) <= 3) else false) = true) /\ (bif FvecRight e.A then FvecRight e.B else false) = true) -> (((bif decide ((1 : Int) <= e.Kind) then decide ((e.Kind : Int) <= 3) else false) = true) /\ (bif FvecRight e.A then FvecRight e.B else false) = true), (((bif decide ((1 : Int) <= e.Kind) then decide ((e.Kind : Int) <= 3) else false) = true) /\ (bif FvecRight e.A then FvecRight e.B else false) = true) -> (Same (cvecRight e.C).2.1), ((bif decide ((1 : Int) <= e.Kind) then decide ((e.Kind : Int) <= 3) else false) = true) -> ((bif decide ((1 : Int) <= e.Kind) then decide ((e.Kind : Int) <= 3) else false) = true), ((bif decide ((1 : Int) <= e.Kind) then decide ((e.Kind : Int) <= 3) else false) = true) -> ((bif FvecRight e.A then FvecRight e.B else false) = true -> (((bif decide ((1 : Int) <= e.Kind) then decide ((e.Kind : Int) <= 3) else false) = true) /\ (bif FvecRight e.A then FvecRight e.B else false) = true)), ((bif decide ((1 : Int) <= e.Kind) then decide ((e.Kind : Int) <= 3) else false) = true) -> ((bif decide ((1 : Int) <= e.Kind) then decide ((e.Kind : Int) <= 3) else false) = true), (bif decide ((1 : Int) <= e.Kind) then decide ((e.Kind : Int) <= 3) else false) = true -> ((bif decide ((1 : Int) <= e.Kind) then decide ((e.Kind : Int) <= 3) else false) = true)] ⟨[(12, tB (bif bif decide ((1 : Int) <= e.Kind) then decide ((e.Kind : Int) <= 3) else false then !(bif bif FvecRight e.A then FvecRight e.B else false then FvecRight e.C else false) else false))], []⟩ (.cons (okvecRight e.A) (.cons (okvecRight e.B) (.cons (okvecRight e.C) .nil))) kr (.cons id (.cons id (.cons id (.cons id (.cons id (.cons (fun _ => rfl) (.cons id (.cons id (.cons id (.cons (fun _ => rfl) (.cons id (.cons (by intros; first | assumption | exact ⟨by assumption, by assumption⟩ | simp_all) (.cons id (.cons id (.cons id (.cons (fun _ => rfl) (.cons id (.cons (by intros; first | assumption | exact ⟨by assumption, by assumption⟩ | simp_all) (.cons id (.cons id .nil)))))))))))))))))))) <| ath_n ?_
 refine aw_cond (bif bif decide ((1 : Int) <= e.Kind) then decide ((e.Kind : Int) <= 3) else false then !(bif bif FvecRight e.A then FvecRight e.B else false then FvecRight e.C else false) else false) kr (fun h4 => ?_) (fun h4 => ?_)
 ·refine aw_seq ?_
  refine aw_region eqok [] [] [] [2] [] [] ⟨[(2, tI 10)], []⟩ .nil kr .nil <| ath_n ?_
  refine aw_ret <| abl_r <| ath_r ?_
  exact ⟨_, Cv.refl _, .inl rfl, .av (.one (.i 10)), by kernel_rfl, tve_eq (by first | (simp only [FCheckN, h4, cond_true, cond_false] <;> rfl))⟩
 ·refine aw_skip <| abl_n ?_
  refine ath_n <| aw_seq ?_
  refine aw_region eqok [] [] [] [2] [] [] ⟨[(2, tI 11)], []⟩ .nil kr .nil <| ath_n <| aw_ret ?_
  exact ⟨_, Cv.refl _, .inl rfl, .av (.one (.i 11)), by kernel_rfl, tve_eq (by first | (simp only [FCheckN, h4, cond_true, cond_false] <;> rfl))⟩
def FCheck (e : TEdge)  : Int := if e.Kind = 1 then FCheck1 e.A e.B e.C  else if e.Kind = 2 then FCheck2 e.A e.B e.C  else if e.Kind = 3 then FCheck3 e.A e.B e.C  else FCheckN e
def cCheck (e : TEdge)  : FuncId × List Av × Ef := (42, [.agg (TEdge.c e)], .val [] (.av (.one (.i (FCheck e )))))
theorem pCheck (e : TEdge)  : Pure Try.prog 42 (cCheck e ).2.1 (.av (.one (.i (FCheck e )))) := by
 by_cases k1 : e.Kind = 1
 ·have hF : FCheck e  = FCheck1 e.A e.B e.C  := by unfold FCheck; rw [if_pos k1]
  rw [hF]; obtain ⟨k, a0, a1, a2⟩ := e; simp only at k1; subst k1; exact pCheck1 a0 a1 a2 
 by_cases k2 : e.Kind = 2
 ·have hF : FCheck e  = FCheck2 e.A e.B e.C  := by unfold FCheck; rw [if_neg k1]; rw [if_pos k2]
  rw [hF]; obtain ⟨k, a0, a1, a2⟩ := e; simp only at k2; subst k2; exact pCheck2 a0 a1 a2 
 by_cases k3 : e.Kind = 3
 ·have hF : FCheck e  = FCheck3 e.A e.B e.C  := by unfold FCheck; rw [if_neg k1]; rw [if_neg k2]; rw [if_pos k3]
  rw [hF]; obtain ⟨k, a0, a1, a2⟩ := e; simp only at k3; subst k3; exact pCheck3 a0 a1 a2 
 have hF : FCheck e  = FCheckN e  := by unfold FCheck; rw [if_neg k1, if_neg k2, if_neg k3]
 rw [hF]; exact pCheckN e  k1 k2 k3
theorem okCheck (e : TEdge)  : CallOk Try.prog (cCheck e ).1 (cCheck e ).2.1 (cCheck e ).2.2 := callOk_pure (fun _ _ => by kernel_rfl) fun _ => pCheck e
def Z0c (a0 : TPoint) (a1 : TPoint) (a2 : TPoint) : Bool := bif !(Z02 a0 a1 a2) then true else true
def FRadius1 (a0 : TPoint) (a1 : TPoint) (a2 : TPoint) : Int := bif Z0c a0 a1 a2 then (0) else (max (max (max ((FvecSub a0 a2).X) (W64 (0 - ((FvecSub a0 a2).X)))) ((FvecSub a0 a2).Y)) (W64 (0 - ((FvecSub a0 a2).Y))))
def cRadius1 (a0 : TPoint) (a1 : TPoint) (a2 : TPoint) : FuncId × List Av × Ef := (43, [.agg [.i 1, .i a0.X, .i a0.Y, .i a1.X, .i a1.Y, .i a2.X, .i a2.Y]], .val [] (.av (.one (.i (FRadius1 a0 a1 a2)))))
theorem pRadius1 (a0 : TPoint) (a1 : TPoint) (a2 : TPoint) : Pure Try.prog 43 (cRadius1 a0 a1 a2).2.1 (.av (.one (.i (FRadius1 a0 a1 a2)))) := by
 refine pure_of_awF Try.func43 rfl kr kr fun W0 M0 => ?_
 refine aw_seq ?_
 refine aw_region eqok [] [] [] [1] [1] [] ⟨[(1, tP 1 0)], [(1, .cells [.i 1, .i a0.X, .i a0.Y, .i a1.X, .i a1.Y, .i a2.X, .i a2.Y] 33)]⟩ .nil kr .nil <| ath_n ?_
 refine aw_seq <| aw_seq ?_
 refine aw_region eqok [] [] [(8, cof1 a0 a1 a2)] [1, 4] [1] [Same (cof1 a0 a1 a2).2.1] ⟨[(1, tP 1 0), (4, tB (Z02 a0 a1 a2))], [(1, .cells [.i 1, .i a0.X, .i a0.Y, .i a1.X, .i a1.Y, .i a2.X, .i a2.Y] 33)]⟩ (.cons (okof1 a0 a1 a2) .nil) kr (.cons rfl .nil) <| ath_n <| aw_seq ?_
 refine aw_region eqok [] [] [] [1, 17] [1] [((!(Z02 a0 a1 a2)) = false) -> ((!(Z02 a0 a1 a2)) = false), ((!(Z02 a0 a1 a2)) = false) -> ((!(Z02 a0 a1 a2)) = false), (!(Z02 a0 a1 a2)) = false -> ((!(Z02 a0 a1 a2)) = false)] ⟨[(1, tP 1 0), (17, tB (Z0c a0 a1 a2))], [(1, .cells [.i 1, .i a0.X, .i a0.Y, .i a1.X, .i a1.Y, .i a2.X, .i a2.Y] 33)]⟩ .nil kr (.cons id (.cons id (.cons id .nil))) <| ath_n ?_
 refine aw_cond (Z0c a0 a1 a2) kr (fun h1 => ?_) (fun h1 => ?_)
 ·refine aw_seq ?_
  refine aw_region eqok [] [] [] [2] [] [] ⟨[(2, tI 0)], []⟩ .nil kr .nil <| ath_n ?_
  refine aw_ret <| ath_r ?_
  exact ⟨_, Cv.refl _, .inl rfl, .av (.one (.i 0)), by kernel_rfl, tve_eq (by first | (simp only [FRadius1, h1, cond_true, cond_false] <;> rfl))⟩
 ·refine aw_skip <| ath_n <| aw_seq ?_
  refine aw_region eqok [] [] [(22, cvecSub a0 a2)] [5] [5] [Same (cvecSub a0 a2).2.1] ⟨[(5, tP 5 0)], [(5, .cells (TPoint.c (FvecSub a0 a2)) 31)]⟩ (.cons (okvecSub a0 a2) .nil) kr (.cons rfl .nil) <| ath_n <| aw_seq ?_
  refine aw_region eqok [] [] [] [2] [] [] ⟨[(2, tI (max (max (max ((FvecSub a0 a2).X) (W64 (0 - ((FvecSub a0 a2).X)))) ((FvecSub a0 a2).Y)) (W64 (0 - ((FvecSub a0 a2).Y)))))], []⟩ .nil kr .nil <| ath_n <| aw_ret ?_
  exact ⟨_, Cv.refl _, .inl rfl, .av (.one (.i (max (max (max ((FvecSub a0 a2).X) (W64 (0 - ((FvecSub a0 a2).X)))) ((FvecSub a0 a2).Y)) (W64 (0 - ((FvecSub a0 a2).Y)))))), by kernel_rfl, tve_eq (by first | (simp only [FRadius1, h1, cond_true, cond_false] <;> rfl))⟩
def Z0d (a0 : TPoint) (a1 : TPoint) (a2 : TPoint) : Bool := bif !(Z05 a0 a1 a2) then true else false
def FRadius2 (a0 : TPoint) (a1 : TPoint) (a2 : TPoint) : Int := bif Z0d a0 a1 a2 then (0) else (max (max (max ((FvecSub a0 a2).X) (W64 (0 - ((FvecSub a0 a2).X)))) ((FvecSub a0 a2).Y)) (W64 (0 - ((FvecSub a0 a2).Y))))
def cRadius2 (a0 : TPoint) (a1 : TPoint) (a2 : TPoint) : FuncId × List Av × Ef := (43, [.agg [.i 2, .i a0.X, .i a0.Y, .i a1.X, .i a1.Y, .i a2.X, .i a2.Y]], .val [] (.av (.one (.i (FRadius2 a0 a1 a2)))))
theorem pRadius2 (a0 : TPoint) (a1 : TPoint) (a2 : TPoint) : Pure Try.prog 43 (cRadius2 a0 a1 a2).2.1 (.av (.one (.i (FRadius2 a0 a1 a2)))) := by
 refine pure_of_awF Try.func43 rfl kr kr fun W0 M0 => ?_
 refine aw_seq ?_
 refine aw_region eqok [] [] [] [1] [1] [] ⟨[(1, tP 1 0)], [(1, .cells [.i 2, .i a0.X, .i a0.Y, .i a1.X, .i a1.Y, .i a2.X, .i a2.Y] 33)]⟩ .nil kr .nil <| ath_n ?_
 refine aw_seq <| aw_seq ?_
 refine aw_region eqok [] [] [(8, cof2 a0 a1 a2)] [1, 4] [1] [Same (cof2 a0 a1 a2).2.1] ⟨[(1, tP 1 0), (4, tB (Z05 a0 a1 a2))], [(1, .cells [.i 2, .i a0.X, .i a0.Y, .i a1.X, .i a1.Y, .i a2.X, .i a2.Y] 33)]⟩ (.cons (okof2 a0 a1 a2) .nil) kr (.cons rfl .nil) <| ath_n <| aw_seq ?_
 refine aw_region eqok [] [] [] [1, 17] [1] [((!(Z05 a0 a1 a2)) = false) -> ((!(Z05 a0 a1 a2)) = false), ((!(Z05 a0 a1 a2)) = false) -> ((!(Z05 a0 a1 a2)) = false), (!(Z05 a0 a1 a2)) = false -> ((!(Z05 a0 a1 a2)) = false)] ⟨[(1, tP 1 0), (17, tB (Z0d a0 a1 a2))], [(1, .cells [.i 2, .i a0.X, .i a0.Y, .i a1.X, .i a1.Y, .i a2.X, .i a2.Y] 33)]⟩ .nil kr (.cons id (.cons id (.cons id .nil))) <| ath_n ?_
 refine aw_cond (Z0d a0 a1 a2) kr (fun h1 => ?_) (fun h1 => ?_)
 ·refine aw_seq ?_
  refine aw_region eqok [] [] [] [2] [] [] ⟨[(2, tI 0)], []⟩ .nil kr .nil <| ath_n ?_
  refine aw_ret <| ath_r ?_
  exact ⟨_, Cv.refl _, .inl rfl, .av (.one (.i 0)), by kernel_rfl, tve_eq (by first | (simp only [FRadius2, h1, cond_true, cond_false] <;> rfl))⟩
 ·refine aw_skip <| ath_n <| aw_seq ?_
  refine aw_region eqok [] [] [(22, cvecSub a0 a2)] [5] [5] [Same (cvecSub a0 a2).2.1] ⟨[(5, tP 5 0)], [(5, .cells (TPoint.c (FvecSub a0 a2)) 31)]⟩ (.cons (okvecSub a0 a2) .nil) kr (.cons rfl .nil) <| ath_n <| aw_seq ?_
  refine aw_region eqok [] [] [] [2] [] [] ⟨[(2, tI (max (max (max ((FvecSub a0 a2).X) (W64 (0 - ((FvecSub a0 a2).X)))) ((FvecSub a0 a2).Y)) (W64 (0 - ((FvecSub a0 a2).Y)))))], []⟩ .nil kr .nil <| ath_n <| aw_ret ?_
  exact ⟨_, Cv.refl _, .inl rfl, .av (.one (.i (max (max (max ((FvecSub a0 a2).X) (W64 (0 - ((FvecSub a0 a2).X)))) ((FvecSub a0 a2).Y)) (W64 (0 - ((FvecSub a0 a2).Y)))))), by kernel_rfl, tve_eq (by first | (simp only [FRadius2, h1, cond_true, cond_false] <;> rfl))⟩
def Z0e (a0 : TPoint) (a1 : TPoint) (a2 : TPoint) : Bool := bif !(Z08 a0 a1 a2) then true else false
def FRadius3 (a0 : TPoint) (a1 : TPoint) (a2 : TPoint) : Int := bif Z0e a0 a1 a2 then (0) else (max (max (max ((FvecSub a0 a2).X) (W64 (0 - ((FvecSub a0 a2).X)))) ((FvecSub a0 a2).Y)) (W64 (0 - ((FvecSub a0 a2).Y))))
def cRadius3 (a0 : TPoint) (a1 : TPoint) (a2 : TPoint) : FuncId × List Av × Ef := (43, [.agg [.i 3, .i a0.X, .i a0.Y, .i a1.X, .i a1.Y, .i a2.X, .i a2.Y]], .val [] (.av (.one (.i (FRadius3 a0 a1 a2)))))
theorem pRadius3 (a0 : TPoint) (a1 : TPoint) (a2 : TPoint) : Pure Try.prog 43 (cRadius3 a0 a1 a2).2.1 (.av (.one (.i (FRadius3 a0 a1 a2)))) := by
 refine pure_of_awF Try.func43 rfl kr kr fun W0 M0 => ?_
 refine aw_seq ?_
 refine aw_region eqok [] [] [] [1] [1] [] ⟨[(1, tP 1 0)], [(1, .cells [.i 3, .i a0.X, .i a0.Y, .i a1.X, .i a1.Y, .i a2.X, .i a2.Y] 33)]⟩ .nil kr .nil <| ath_n ?_
 refine aw_seq <| aw_seq ?_
 refine aw_region eqok [] [] [(8, cof3 a0 a1 a2)] [1, 4] [1] [Same (cof3 a0 a1 a2).2.1] ⟨[(1, tP 1 0), (4, tB (Z08 a0 a1 a2))], [(1, .cells [.i 3, .i a0.X, .i a0.Y, .i a1.X, .i a1.Y, .i a2.X, .i a2.Y] 33)]⟩ (.cons (okof3 a0 a1 a2) .nil) kr (.cons rfl .nil) <| ath_n <| aw_seq ?_
 refine aw_region eqok [] [] [] [1, 17] [1] [((!(Z08 a0 a1 a2)) = false) -> ((!(Z08 a0 a1 a2)) = false), ((!(Z08 a0 a1 a2)) = false) -> ((!(Z08 a0 a1 a2)) = false), (!(Z08 a0 a1 a2)) = false -> ((!(Z08 a0 a1 a2)) = false)] ⟨[(1, tP 1 0), (17, tB (Z0e a0 a1 a2))], [(1, .cells [.i 3, .i a0.X, .i a0.Y, .i a1.X, .i a1.Y, .i a2.X, .i a2.Y] 33)]⟩ .nil kr (.cons id (.cons id (.cons id .nil))) <| ath_n ?_
 refine aw_cond (Z0e a0 a1 a2) kr (fun h1 => ?_) (fun h1 => ?_)
 ·refine aw_seq ?_
  refine aw_region eqok [] [] [] [2] [] [] ⟨[(2, tI 0)], []⟩ .nil kr .nil <| ath_n ?_
  refine aw_ret <| ath_r ?_
  exact ⟨_, Cv.refl _, .inl rfl, .av (.one (.i 0)), by kernel_rfl, tve_eq (by first | (simp only [FRadius3, h1, cond_true, cond_false] <;> rfl))⟩
 ·refine aw_skip <| ath_n <| aw_seq ?_
  refine aw_region eqok [] [] [(22, cvecSub a0 a2)] [5] [5] [Same (cvecSub a0 a2).2.1] ⟨[(5, tP 5 0)], [(5, .cells (TPoint.c (FvecSub a0 a2)) 31)]⟩ (.cons (okvecSub a0 a2) .nil) kr (.cons rfl .nil) <| ath_n <| aw_seq ?_
  refine aw_region eqok [] [] [] [2] [] [] ⟨[(2, tI (max (max (max ((FvecSub a0 a2).X) (W64 (0 - ((FvecSub a0 a2).X)))) ((FvecSub a0 a2).Y)) (W64 (0 - ((FvecSub a0 a2).Y)))))], []⟩ .nil kr .nil <| ath_n <| aw_ret ?_
  exact ⟨_, Cv.refl _, .inl rfl, .av (.one (.i (max (max (max ((FvecSub a0 a2).X) (W64 (0 - ((FvecSub a0 a2).X)))) ((FvecSub a0 a2).Y)) (W64 (0 - ((FvecSub a0 a2).Y)))))), by kernel_rfl, tve_eq (by first | (simp only [FRadius3, h1, cond_true, cond_false] <;> rfl))⟩
def FRadiusN (e : TEdge) : Int := 0
def cRadiusN (e : TEdge) : FuncId × List Av × Ef := (43, [.agg (TEdge.c e)], .val [] (.av (.one (.i (FRadiusN e)))))
theorem pRadiusN (e : TEdge) (k1 : ¬ e.Kind = 1) (k2 : ¬ e.Kind = 2) (k3 : ¬ e.Kind = 3) : Pure Try.prog 43 (cRadiusN e).2.1 (.av (.one (.i (FRadiusN e)))) := by
 refine pure_of_awF Try.func43 rfl kr kr fun W0 M0 => ?_
 refine aw_seq ?_
 refine aw_region eqok [] [] [] [1] [1] [] ⟨[(1, tP 1 0)], [(1, .cells (TEdge.c e) 33)]⟩ .nil kr .nil <| ath_n ?_
 refine aw_seq <| aw_seq ?_
 refine aw_region eqok [] [] [(8, cofN e)] [1, 4] [1] [Same (cofN e).2.1] ⟨[(1, tP 1 0), (4, tB false)], [(1, .cells (TEdge.c e) 33)]⟩ (.cons (okofN e k1 k2 k3) .nil) kr (.cons rfl .nil) <| ath_n <| aw_seq ?_
 refine aw_region eqok [] [] [] [1, 17] [1] [((true) = false) -> ((true) = false), ((true) = false) -> ((true) = false), (true) = false -> ((true) = false)] ⟨[(1, tP 1 0), (17, tB true)], [(1, .cells (TEdge.c e) 33)]⟩ .nil kr (.cons id (.cons id (.cons id .nil))) <| ath_n ?_
 refine aw_cond_t kr <| aw_seq ?_
 refine aw_region eqok [] [] [] [2] [] [] ⟨[(2, tI 0)], []⟩ .nil kr .nil <| ath_n ?_
 refine aw_ret <| ath_r ?_
 exact ⟨_, Cv.refl _, .inl rfl, .av (.one (.i 0)), by kernel_rfl, tve_eq (by rfl)⟩
def FRadius (e : TEdge)  : Int := if e.Kind = 1 then FRadius1 e.A e.B e.C  else if e.Kind = 2 then FRadius2 e.A e.B e.C  else if e.Kind = 3 then FRadius3 e.A e.B e.C  else FRadiusN e
def cRadius (e : TEdge)  : FuncId × List Av × Ef := (43, [.agg (TEdge.c e)], .val [] (.av (.one (.i (FRadius e )))))
theorem pRadius (e : TEdge)  : Pure Try.prog 43 (cRadius e ).2.1 (.av (.one (.i (FRadius e )))) := by
 by_cases k1 : e.Kind = 1
 ·have hF : FRadius e  = FRadius1 e.A e.B e.C  := by unfold FRadius; rw [if_pos k1]
  rw [hF]; obtain ⟨k, a0, a1, a2⟩ := e; simp only at k1; subst k1; exact pRadius1 a0 a1 a2 
 by_cases k2 : e.Kind = 2
 ·have hF : FRadius e  = FRadius2 e.A e.B e.C  := by unfold FRadius; rw [if_neg k1]; rw [if_pos k2]
  rw [hF]; obtain ⟨k, a0, a1, a2⟩ := e; simp only at k2; subst k2; exact pRadius2 a0 a1 a2 
 by_cases k3 : e.Kind = 3
 ·have hF : FRadius e  = FRadius3 e.A e.B e.C  := by unfold FRadius; rw [if_neg k1]; rw [if_neg k2]; rw [if_pos k3]
  rw [hF]; obtain ⟨k, a0, a1, a2⟩ := e; simp only at k3; subst k3; exact pRadius3 a0 a1 a2 
 have hF : FRadius e  = FRadiusN e  := by unfold FRadius; rw [if_neg k1, if_neg k2, if_neg k3]
 rw [hF]; exact pRadiusN e  k1 k2 k3
theorem okRadius (e : TEdge)  : CallOk Try.prog (cRadius e ).1 (cRadius e ).2.1 (cRadius e ).2.2 := callOk_pure (fun _ _ => by kernel_rfl) fun _ => pRadius e
end
section
open Go.ChangeShapes Go.WideShapes Go.ChangeAt Go.RowKit
theorem own : ownKnob Try.prog.godebug = none := by kernel_rfl
theorem laidOut : laidOutB Try.prog = true := by kernel_rfl
theorem opT23 : Opens Try.prog 23 (fun xs : List Int => [lst 1 (fun x => [.i x]) xs]) (fun xs => xs.length <= maxLen /\ ∀ x ∈ xs, WF .i64 x) := opens_slice 1 Try.underlying23 kr (by decide) (opens_int Try.underlying3)
theorem opT26 : Opens Try.prog 26 (fun xs : List (List Int) => [lst 1 (fun x => [lst 1 (fun x => [.i x]) x]) xs]) (fun xs => xs.length <= maxLen /\ ∀ x ∈ xs, (x.length <= maxLen /\ ∀ y ∈ x, WF .i64 y)) := opens_slice 1 Try.underlying26 kr (by decide) opT23
def TA27.ok (x : TA27) : Prop := WF .i64 x.e0 /\ WF .i64 x.e1 /\ WF .i64 x.e2 /\ True
theorem opT27 : Opens Try.prog 27 TA27.c TA27.ok := by
 refine opens_map (opens_array Try.underlying27 kr (opens_int Try.underlying3)) ?_
 rintro xs ⟨hl, hx⟩
 match xs, hl with
 | [a0, a1, a2], _ => exact ⟨⟨a0, a1, a2⟩, ⟨hx _ (by simp), hx _ (by simp), hx _ (by simp), trivial⟩, rfl⟩
def TCase.ok (x : TCase) : Prop := (x.Shape.length <= maxLen /\ ∀ y ∈ x.Shape, WF .i64 y) /\ (x.Edge.length <= maxLen /\ ∀ y ∈ x.Edge, WF .i64 y) /\ (x.Board.length <= maxLen /\ ∀ y ∈ x.Board, (y.length <= maxLen /\ ∀ z ∈ y, WF .i64 z)) /\ TA27.ok x.Odd /\ True
theorem opT29 : Opens Try.prog 29 TCase.c TCase.ok := by
 refine opens_map (opens_struct Try.underlying29 kr (opensF_cons 1 kr rfl opT23 (opensF_cons 1 kr rfl opT23 (opensF_cons 1 kr rfl opT26 (opensF_cons 3 kr rfl opT27 opensF_nil))))) ?_
 rintro ⟨a0, a1, a2, a3, _⟩ ⟨h0, h1, h2, h3, _⟩
 exact ⟨⟨a0, a1, a2, a3⟩, ⟨h0, h1, h2, h3, trivial⟩, rfl⟩
theorem opT63 : Opens Try.prog 63 (fun xs : List ByteArray => [lst 1 (fun x => [.s x]) xs]) (fun xs => xs.length <= maxLen /\ ∀ x ∈ xs, x.size <= maxLen) := opens_slice 1 Try.underlying63 kr (by decide) (opens_string Try.underlying9)
end
section
open Go.RowKit
def Fref05Sub (x0 : TPoint) (x1 : TPoint) : TPoint := TPoint.mk (W64 (x0.X - x1.X)) (W64 (x0.Y - x1.Y))
def cref05Sub (x0 : TPoint) (x1 : TPoint) : FuncId × List Av × Ef := (47, [.agg (TPoint.c x0), .agg (TPoint.c x1)], .val [] (.av (.agg (TPoint.c (Fref05Sub x0 x1)))))
theorem pref05Sub (x0 : TPoint) (x1 : TPoint) : Pure Try.prog 47 (cref05Sub x0 x1).2.1 (.av (.agg (TPoint.c (Fref05Sub x0 x1)))) := by
 refine pure_of_awF Try.func47 rfl kr kr fun W0 M0 => ?_
 refine aw_seq ?_
 refine aw_region eqok [] [] [] [2, 3, 4] [2, 3, 4] [] ⟨[(2, tP 2 0), (3, tP 3 0), (4, tP 4 0)], [(2, .cells (TPoint.c x0) 31), (3, .cells (TPoint.c x1) 31), (4, .cells [.i 0, .i 0] 31)]⟩ .nil kr .nil <| ath_n <| aw_seq ?_
 refine aw_region eqok [] [] [] [4] [4] [] ⟨[(4, tP 4 0)], [(4, .cells [.i (W64 (x0.X - x1.X)), .i (W64 (x0.Y - x1.Y))] 31)]⟩ .nil kr .nil <| ath_n <| aw_ret ?_
 exact ⟨_, Cv.refl _, .inl rfl, .av (.agg [.i (W64 (x0.X - x1.X)), .i (W64 (x0.Y - x1.Y))]), by kernel_rfl, tve_eq (by rfl)⟩
theorem okref05Sub (x0 : TPoint) (x1 : TPoint) : CallOk Try.prog (cref05Sub x0 x1).1 (cref05Sub x0 x1).2.1 (cref05Sub x0 x1).2.2 := callOk_pure (fun _ _ => by kernel_rfl) fun _ => pref05Sub x0 x1
def Fref05Add (x0 : TPoint) (x1 : TPoint) : TPoint := TPoint.mk (W64 (x0.X + x1.X)) (W64 (x0.Y + x1.Y))
def cref05Add (x0 : TPoint) (x1 : TPoint) : FuncId × List Av × Ef := (36, [.agg (TPoint.c x0), .agg (TPoint.c x1)], .val [] (.av (.agg (TPoint.c (Fref05Add x0 x1)))))
theorem pref05Add (x0 : TPoint) (x1 : TPoint) : Pure Try.prog 36 (cref05Add x0 x1).2.1 (.av (.agg (TPoint.c (Fref05Add x0 x1)))) := by
 refine pure_of_awF Try.func36 rfl kr kr fun W0 M0 => ?_
 refine aw_seq ?_
 refine aw_region eqok [] [] [] [2, 3, 4] [2, 3, 4] [] ⟨[(2, tP 2 0), (3, tP 3 0), (4, tP 4 0)], [(2, .cells (TPoint.c x0) 31), (3, .cells (TPoint.c x1) 31), (4, .cells [.i 0, .i 0] 31)]⟩ .nil kr .nil <| ath_n <| aw_seq ?_
 refine aw_region eqok [] [] [] [4] [4] [] ⟨[(4, tP 4 0)], [(4, .cells [.i (W64 (x0.X + x1.X)), .i (W64 (x0.Y + x1.Y))] 31)]⟩ .nil kr .nil <| ath_n <| aw_ret ?_
 exact ⟨_, Cv.refl _, .inl rfl, .av (.agg [.i (W64 (x0.X + x1.X)), .i (W64 (x0.Y + x1.Y))]), by kernel_rfl, tve_eq (by rfl)⟩
theorem okref05Add (x0 : TPoint) (x1 : TPoint) : CallOk Try.prog (cref05Add x0 x1).1 (cref05Add x0 x1).2.1 (cref05Add x0 x1).2.2 := callOk_pure (fun _ _ => by kernel_rfl) fun _ => pref05Add x0 x1
def Fref05Turns (x0 : Int) : Int := Int.tmod (W64 ((Int.tmod x0 4) + 4)) 4
def cref05Turns (x0 : Int) : FuncId × List Av × Ef := (90, [.one (.i x0)], .val [] (.av (.one (.i (Fref05Turns x0)))))
theorem au13 {p : Prop} (h : p := by first | assumption | decide | omega) : p := h
theorem pref05Turns (x0 : Int) : Pure Try.prog 90 (cref05Turns x0).2.1 (.av (.one (.i (Fref05Turns x0)))) := by
 refine pure_of_awF Try.func90 rfl kr kr fun W0 M0 => ?_
 refine aw_seq ?_
 refine aw_region eqok [] [] [] [0] [] [] ⟨[(0, tI x0)], []⟩ .nil kr .nil <| ath_n <| aw_seq ?_
 refine aw_region eqok [] [] [] [2] [] [(4 : Int) ≠ 0, (4 : Int) ≠ 0] ⟨[(2, tI (Int.tmod (W64 ((Int.tmod x0 4) + 4)) 4))], []⟩ .nil kr (.cons au13 (.cons au13 .nil)) <| ath_n <| aw_ret ?_
 exact ⟨_, Cv.refl _, .inl rfl, .av (.one (.i (Int.tmod (W64 ((Int.tmod x0 4) + 4)) 4))), by kernel_rfl, tve_eq (by rfl)⟩
theorem okref05Turns (x0 : Int) : CallOk Try.prog (cref05Turns x0).1 (cref05Turns x0).2.1 (cref05Turns x0).2.2 := callOk_pure (fun _ _ => by kernel_rfl) fun _ => pref05Turns x0
def Fref05turned (x0 : TPoint) (x1 : Int) : TPoint := bif decide (((Fref05Turns x1) : Int) = 1) then (TPoint.mk (W64 (0 - x0.Y)) x0.X) else (bif decide (((Fref05Turns x1) : Int) = 2) then (TPoint.mk (W64 (0 - x0.X)) (W64 (0 - x0.Y))) else (bif decide (((Fref05Turns x1) : Int) = 3) then (TPoint.mk x0.Y (W64 (0 - x0.X))) else (x0)))
def cref05turned (x0 : TPoint) (x1 : Int) : FuncId × List Av × Ef := (68, [.agg (TPoint.c x0), .one (.i x1)], .val [] (.av (.agg (TPoint.c (Fref05turned x0 x1)))))
theorem pref05turned (x0 : TPoint) (x1 : Int) : Pure Try.prog 68 (cref05turned x0 x1).2.1 (.av (.agg (TPoint.c (Fref05turned x0 x1)))) := by
 refine pure_of_awF Try.func68 rfl kr kr fun W0 M0 => ?_
 refine aw_seq ?_
 refine aw_region eqok [] [] [] [1, 2, 4] [2, 4] [] ⟨[(1, tI x1), (2, tP 2 0), (4, tP 4 0)], [(2, .cells (TPoint.c x0) 31), (4, .cells [.i 0, .i 0] 31)]⟩ .nil kr .nil <| ath_n ?_
 refine aw_seq <| aw_seq ?_
 refine aw_region eqok [] [] [(6, cref05Turns x1)] [2, 4, 6] [2, 4] [Same (cref05Turns x1).2.1] ⟨[(2, tP 2 0), (4, tP 4 0), (6, tI (Fref05Turns x1))], [(2, .cells (TPoint.c x0) 31), (4, .cells [.i 0, .i 0] 31)]⟩ (.cons (okref05Turns x1) .nil) kr (.cons rfl .nil) <| ath_n ?_
 refine aw_block <| aw_seq ?_
 refine aw_region eqok [] [] [] [2, 4, 6, 7] [2, 4] [] ⟨[(2, tP 2 0), (4, tP 4 0), (6, tI (Fref05Turns x1)), (7, tB (decide (((Fref05Turns x1) : Int) = 1)))], [(2, .cells (TPoint.c x0) 31), (4, .cells [.i 0, .i 0] 31)]⟩ .nil kr .nil <| ath_n ?_
 refine aw_cond (decide (((Fref05Turns x1) : Int) = 1)) kr (fun h1 => ?_) (fun h1 => ?_)
 ·have g1 := of_decide_eq_true h1
  refine aw_seq ?_
  refine aw_region eqok [] [] [] [4] [4] [] ⟨[(4, tP 4 0)], [(4, .cells [.i (W64 (0 - x0.Y)), .i x0.X] 31)]⟩ .nil kr .nil <| ath_n ?_
  refine aw_ret <| abl_r <| ath_r ?_
  exact ⟨_, Cv.refl _, .inl rfl, .av (.agg [.i (W64 (0 - x0.Y)), .i x0.X]), by kernel_rfl, tve_eq (by first | (simp only [Fref05turned, h1, cond_true, cond_false] <;> rfl))⟩
 ·have g1 := of_decide_eq_false h1
  refine aw_seq ?_
  refine aw_region eqok [] [] [] [2, 4, 6, 15] [2, 4] [] ⟨[(2, tP 2 0), (4, tP 4 0), (6, tI (Fref05Turns x1)), (15, tB (decide (((Fref05Turns x1) : Int) = 2)))], [(2, .cells (TPoint.c x0) 31), (4, .cells [.i 0, .i 0] 31)]⟩ .nil kr .nil <| ath_n ?_
  refine aw_cond (decide (((Fref05Turns x1) : Int) = 2)) kr (fun h2 => ?_) (fun h2 => ?_)
  ·have g2 := of_decide_eq_true h2
   refine aw_seq ?_
   refine aw_region eqok [] [] [] [4] [4] [] ⟨[(4, tP 4 0)], [(4, .cells [.i (W64 (0 - x0.X)), .i (W64 (0 - x0.Y))] 31)]⟩ .nil kr .nil <| ath_n ?_
   refine aw_ret <| abl_r <| ath_r ?_
   exact ⟨_, Cv.refl _, .inl rfl, .av (.agg [.i (W64 (0 - x0.X)), .i (W64 (0 - x0.Y))]), by kernel_rfl, tve_eq (by first | (simp only [Fref05turned, h1, h2, cond_true, cond_false] <;> rfl))⟩
  ·have g2 := of_decide_eq_false h2
   refine aw_seq ?_
   refine aw_region eqok [] [] [] [2, 4, 24] [2, 4] [] ⟨[(2, tP 2 0), (4, tP 4 0), (24, tB (decide (((Fref05Turns x1) : Int) = 3)))], [(2, .cells (TPoint.c x0) 31), (4, .cells [.i 0, .i 0] 31)]⟩ .nil kr .nil <| ath_n ?_
   refine aw_cond (decide (((Fref05Turns x1) : Int) = 3)) kr (fun h3 => ?_) (fun h3 => ?_)
   ·have g3 := of_decide_eq_true h3
    refine aw_seq ?_
    refine aw_region eqok [] [] [] [4] [4] [] ⟨[(4, tP 4 0)], [(4, .cells [.i x0.Y, .i (W64 (0 - x0.X))] 31)]⟩ .nil kr .nil <| ath_n ?_
    refine aw_ret <| abl_r <| ath_r ?_
    exact ⟨_, Cv.refl _, .inl rfl, .av (.agg [.i x0.Y, .i (W64 (0 - x0.X))]), by kernel_rfl, tve_eq (by first | (simp only [Fref05turned, h1, h2, h3, cond_true, cond_false] <;> rfl))⟩
   ·have g3 := of_decide_eq_false h3
    refine aw_skip <| abl_n ?_
    refine ath_n <| aw_seq ?_
    refine aw_region eqok [] [] [] [4] [4] [] ⟨[(4, tP 4 0)], [(4, .cells (TPoint.c x0) 31)]⟩ .nil kr .nil <| ath_n <| aw_ret ?_
    exact ⟨_, Cv.refl _, .inl rfl, .av (.agg (TPoint.c x0)), by kernel_rfl, tve_eq (by first | (simp only [Fref05turned, h1, h2, h3, cond_true, cond_false] <;> rfl))⟩
theorem okref05turned (x0 : TPoint) (x1 : Int) : CallOk Try.prog (cref05turned x0 x1).1 (cref05turned x0 x1).2.1 (cref05turned x0 x1).2.2 := callOk_pure (fun _ _ => by kernel_rfl) fun _ => pref05turned x0 x1
def Fref05mirrored (x0 : TPoint) (x1 : Bool) : TPoint := TPoint.mk (bif x1 then (W64 (0 - x0.X)) else x0.X) x0.Y
def cref05mirrored (x0 : TPoint) (x1 : Bool) : FuncId × List Av × Ef := (69, [.agg (TPoint.c x0), .one (.b x1)], .val [] (.av (.agg (TPoint.c (Fref05mirrored x0 x1)))))
theorem pref05mirrored (x0 : TPoint) (x1 : Bool) : Pure Try.prog 69 (cref05mirrored x0 x1).2.1 (.av (.agg (TPoint.c (Fref05mirrored x0 x1)))) := by
 refine pure_of_awF Try.func69 rfl kr kr fun W0 M0 => ?_
 refine aw_seq ?_
 refine aw_region eqok [] [] [] [1, 2, 4] [2, 4] [] ⟨[(1, tB x1), (2, tP 2 0), (4, tP 4 0)], [(2, .cells (TPoint.c x0) 31), (4, .cells [.i 0, .i 0] 31)]⟩ .nil kr .nil <| ath_n ?_
 refine aw_seq <| aw_seq ?_
 refine aw_region eqok [] [] [] [2, 4, 5] [2, 4] [] ⟨[(2, tP 2 0), (4, tP 4 0), (5, tB x1)], [(2, .cells (TPoint.c x0) 31), (4, .cells [.i 0, .i 0] 31)]⟩ .nil kr .nil <| ath_n ?_
 refine aw_joinC (⟨[(2, tP 2 0), (4, tP 4 0)], [(2, .cells [.i (bif x1 then (W64 (0 - x0.X)) else x0.X), .i x0.Y] 31), (4, .cells [.i 0, .i 0] 31)]⟩) ?_ ?_
 ·refine aw_cond (x1) kr (fun h1 => ?_) (fun h1 => ?_)
  ·refine aw_region eqok [] [] [] [2, 4] [2, 4] [] ⟨[(2, tP 2 0), (4, tP 4 0)], [(2, .cells [.i (W64 (0 - x0.X)), .i x0.Y] 31), (4, .cells [.i 0, .i 0] 31)]⟩ .nil kr .nil <| ath_n ?_
   refine cv_eq ?_
   first | rfl | (simp only [h1, cond_true, cond_false] <;> rfl)
  ·refine aw_skip <| ath_n ?_
   refine Cv.trans (cv_keep [2, 4] [2, 4] (⟨[(2, tP 2 0), (4, tP 4 0)], [(2, .cells (TPoint.c x0) 31), (4, .cells [.i 0, .i 0] 31)]⟩) kr) (cv_eq ?_)
   first | rfl | (simp only [h1, cond_true, cond_false] <;> rfl)
 refine aw_seq ?_
 refine aw_region eqok [] [] [] [4] [4] [] ⟨[(4, tP 4 0)], [(4, .cells [.i (bif x1 then (W64 (0 - x0.X)) else x0.X), .i x0.Y] 31)]⟩ .nil kr .nil <| ath_n <| aw_ret ?_
 exact ⟨_, Cv.refl _, .inl rfl, .av (.agg [.i (bif x1 then (W64 (0 - x0.X)) else x0.X), .i x0.Y]), by kernel_rfl, tve_eq (by rfl)⟩
theorem okref05mirrored (x0 : TPoint) (x1 : Bool) : CallOk Try.prog (cref05mirrored x0 x1).1 (cref05mirrored x0 x1).2.1 (cref05mirrored x0 x1).2.2 := callOk_pure (fun _ _ => by kernel_rfl) fun _ => pref05mirrored x0 x1
def Z0f (x1 : TPoint) (x0 : TMotion) : TPoint := Fref05turned (Fref05mirrored x1 x0.Mirror) x0.Turn
def Fref05Apply (x0 : TMotion) (x1 : TPoint) : TPoint := Fref05Add (Z0f x1 x0) x0.At
def cref05Apply (x0 : TMotion) (x1 : TPoint) : FuncId × List Av × Ef := (35, [.agg (TMotion.c x0), .agg (TPoint.c x1)], .val [] (.av (.agg (TPoint.c (Fref05Apply x0 x1)))))
theorem pref05Apply (x0 : TMotion) (x1 : TPoint) : Pure Try.prog 35 (cref05Apply x0 x1).2.1 (.av (.agg (TPoint.c (Fref05Apply x0 x1)))) := by
 refine pure_of_awF Try.func35 rfl kr kr fun W0 M0 => ?_
 refine aw_seq ?_
 refine aw_region eqok [] [] [] [2, 3, 4] [2, 3, 4] [] ⟨[(2, tP 2 0), (3, tP 3 0), (4, tP 4 0)], [(2, .cells (TMotion.c x0) 84), (3, .cells (TPoint.c x1) 31), (4, .cells [.i 0, .i 0] 31)]⟩ .nil kr .nil <| ath_n <| aw_seq ?_
 refine aw_draw mixed eqok [] [] [(8, cref05mirrored x1 x0.Mirror), (11, cref05turned (Fref05mirrored x1 x0.Mirror) x0.Turn), (14, cref05Add (Z0f x1 x0) x0.At)] [4] [4] [Same (cref05mirrored x1 x0.Mirror).2.1, Same (cref05turned (Fref05mirrored x1 x0.Mirror) x0.Turn).2.1, Same (cref05Add (Z0f x1 x0) x0.At).2.1] ⟨[(4, tP 4 0)], [(4, .cells (TPoint.c (Fref05Add (Z0f x1 x0) x0.At)) 31)]⟩ (.cons (okref05mirrored x1 x0.Mirror) (.cons (okref05turned (Fref05mirrored x1 x0.Mirror) x0.Turn) (.cons (okref05Add (Z0f x1 x0) x0.At) .nil))) kr kr (.cons rfl (.cons rfl (.cons rfl .nil))) <| ath_n <| aw_ret ?_
 exact ⟨_, Cv.refl _, .inl rfl, .av (.agg (TPoint.c (Fref05Add (Z0f x1 x0) x0.At))), by kernel_rfl, tve_eq (by rfl)⟩
theorem okref05Apply (x0 : TMotion) (x1 : TPoint) : CallOk Try.prog (cref05Apply x0 x1).1 (cref05Apply x0 x1).2.1 (cref05Apply x0 x1).2.2 := callOk_pure (fun _ _ => by kernel_rfl) fun _ => pref05Apply x0 x1
def Z0g (x2 : Int) (x1 : Int) : TPoint := Fref05Apply (TMotion.mk (TPoint.mk 0 0) x2 false) (TPoint.mk x1 0)
def Z0h (x3 : Int) (x2 : Int) (x1 : Int) : TPoint := Fref05Apply (TMotion.mk (TPoint.mk 0 0) (bif decide ((x3 : Int) = 3) then (W64 (x2 + 3)) else (W64 (x2 + 1))) false) (TPoint.mk x1 0)
def Fref06Arc (x0 : TPoint) (x1 : Int) (x2 : Int) (x3 : Int) : TEdge := TEdge.mk x3 (Fref05Add x0 (Z0g x2 x1)) (Fref05Add x0 (Z0h x3 x2 x1)) x0
def cref06Arc (x0 : TPoint) (x1 : Int) (x2 : Int) (x3 : Int) : FuncId × List Av × Ef := (76, [.agg (TPoint.c x0), .one (.i x1), .one (.i x2), .one (.i x3)], .val [] (.av (.agg (TEdge.c (Fref06Arc x0 x1 x2 x3)))))
theorem pref06Arc (x0 : TPoint) (x1 : Int) (x2 : Int) (x3 : Int) : Pure Try.prog 76 (cref06Arc x0 x1 x2 x3).2.1 (.av (.agg (TEdge.c (Fref06Arc x0 x1 x2 x3)))) := by
 refine pure_of_awF Try.func76 rfl kr kr fun W0 M0 => ?_
 refine aw_seq ?_
 refine aw_region eqok [] [] [] [1, 2, 3, 4, 8] [4, 8] [] ⟨[(1, tI x1), (2, tI x2), (3, tI x3), (4, tP 4 0), (8, tP 8 0)], [(4, .cells (TPoint.c x0) 31), (8, .cells [.i 0, .i 0, .i 0, .i 0, .i 0, .i 0, .i 0] 33)]⟩ .nil kr .nil <| ath_n <| aw_seq ?_
 refine aw_region eqok [] [] [(16, cref05Apply (TMotion.mk (TPoint.mk 0 0) x2 false) (TPoint.mk x1 0))] [1, 2, 3, 4, 8, 9] [4, 8, 9] [Same (cref05Apply (TMotion.mk (TPoint.mk 0 0) x2 false) (TPoint.mk x1 0)).2.1] ⟨[(1, tI x1), (2, tI x2), (3, tI x3), (4, tP 4 0), (8, tP 8 0), (9, tP 9 0)], [(4, .cells (TPoint.c x0) 31), (8, .cells [.i 0, .i 0, .i 0, .i 0, .i 0, .i 0, .i 0] 33), (9, .cells (TPoint.c (Z0g x2 x1)) 31)]⟩ (.cons (okref05Apply (TMotion.mk (TPoint.mk 0 0) x2 false) (TPoint.mk x1 0)) .nil) kr (.cons rfl .nil) <| ath_n <| aw_seq ?_
 refine aw_region eqok [] [] [] [1, 2, 3, 4, 8, 9, 10] [4, 8, 9] [] ⟨[(1, tI x1), (2, tI x2), (3, tI x3), (4, tP 4 0), (8, tP 8 0), (9, tP 9 0), (10, tI (W64 (x2 + 1)))], [(4, .cells (TPoint.c x0) 31), (8, .cells [.i 0, .i 0, .i 0, .i 0, .i 0, .i 0, .i 0] 33), (9, .cells (TPoint.c (Z0g x2 x1)) 31)]⟩ .nil kr .nil <| ath_n ?_
 refine aw_seq <| aw_seq ?_
 refine aw_region eqok [] [] [] [1, 2, 3, 4, 8, 9, 10, 20] [4, 8, 9] [] ⟨[(1, tI x1), (2, tI x2), (3, tI x3), (4, tP 4 0), (8, tP 8 0), (9, tP 9 0), (10, tI (W64 (x2 + 1))), (20, tB (decide ((x3 : Int) = 3)))], [(4, .cells (TPoint.c x0) 31), (8, .cells [.i 0, .i 0, .i 0, .i 0, .i 0, .i 0, .i 0] 33), (9, .cells (TPoint.c (Z0g x2 x1)) 31)]⟩ .nil kr .nil <| ath_n ?_
 refine aw_joinC (⟨[(1, tI x1), (3, tI x3), (4, tP 4 0), (8, tP 8 0), (9, tP 9 0), (10, tI (bif decide ((x3 : Int) = 3) then (W64 (x2 + 3)) else (W64 (x2 + 1))))], [(4, .cells (TPoint.c x0) 31), (8, .cells [.i 0, .i 0, .i 0, .i 0, .i 0, .i 0, .i 0] 33), (9, .cells (TPoint.c (Z0g x2 x1)) 31)]⟩) ?_ ?_
 ·refine aw_cond (decide ((x3 : Int) = 3)) kr (fun h1 => ?_) (fun h1 => ?_)
  ·have g1 := of_decide_eq_true h1
   refine aw_region eqok [] [] [] [1, 3, 4, 8, 9, 10] [4, 8, 9] [] ⟨[(1, tI x1), (3, tI x3), (4, tP 4 0), (8, tP 8 0), (9, tP 9 0), (10, tI (W64 (x2 + 3)))], [(4, .cells (TPoint.c x0) 31), (8, .cells [.i 0, .i 0, .i 0, .i 0, .i 0, .i 0, .i 0] 33), (9, .cells (TPoint.c (Z0g x2 x1)) 31)]⟩ .nil kr .nil <| ath_n ?_
   refine cv_eq ?_
   first | rfl | (simp only [h1, cond_true, cond_false] <;> rfl)
  ·have g1 := of_decide_eq_false h1
   refine aw_skip <| ath_n ?_
   refine Cv.trans (cv_keep [1, 3, 4, 8, 9, 10] [4, 8, 9] (⟨[(1, tI x1), (3, tI x3), (4, tP 4 0), (8, tP 8 0), (9, tP 9 0), (10, tI (W64 (x2 + 1)))], [(4, .cells (TPoint.c x0) 31), (8, .cells [.i 0, .i 0, .i 0, .i 0, .i 0, .i 0, .i 0] 33), (9, .cells (TPoint.c (Z0g x2 x1)) 31)]⟩) kr) (cv_eq ?_)
   first | rfl | (simp only [h1, cond_true, cond_false] <;> rfl)
 refine aw_seq ?_
 refine aw_region eqok [] [] [(27, cref05Apply (TMotion.mk (TPoint.mk 0 0) (bif decide ((x3 : Int) = 3) then (W64 (x2 + 3)) else (W64 (x2 + 1))) false) (TPoint.mk x1 0))] [3, 4, 8, 9, 11] [4, 8, 9, 11] [Same (cref05Apply (TMotion.mk (TPoint.mk 0 0) (bif decide ((x3 : Int) = 3) then (W64 (x2 + 3)) else (W64 (x2 + 1))) false) (TPoint.mk x1 0)).2.1] ⟨[(3, tI x3), (4, tP 4 0), (8, tP 8 0), (9, tP 9 0), (11, tP 11 0)], [(4, .cells (TPoint.c x0) 31), (8, .cells [.i 0, .i 0, .i 0, .i 0, .i 0, .i 0, .i 0] 33), (9, .cells (TPoint.c (Z0g x2 x1)) 31), (11, .cells (TPoint.c (Z0h x3 x2 x1)) 31)]⟩ (.cons (okref05Apply (TMotion.mk (TPoint.mk 0 0) (bif decide ((x3 : Int) = 3) then (W64 (x2 + 3)) else (W64 (x2 + 1))) false) (TPoint.mk x1 0)) .nil) kr (.cons rfl .nil) <| ath_n <| aw_seq ?_
 refine aw_draw mixed eqok [] [] [(31, cref05Add x0 (Z0g x2 x1)), (34, cref05Add x0 (Z0h x3 x2 x1))] [8] [8] [Same (cref05Add x0 (Z0g x2 x1)).2.1, Same (cref05Add x0 (Z0h x3 x2 x1)).2.1] ⟨[(8, tP 8 0)], [(8, .cells [.i x3, .i ((Fref05Add x0 (Z0g x2 x1)).X), .i ((Fref05Add x0 (Z0g x2 x1)).Y), .i ((Fref05Add x0 (Z0h x3 x2 x1)).X), .i ((Fref05Add x0 (Z0h x3 x2 x1)).Y), .i x0.X, .i x0.Y] 33)]⟩ (.cons (okref05Add x0 (Z0g x2 x1)) (.cons (okref05Add x0 (Z0h x3 x2 x1)) .nil)) kr kr (.cons rfl (.cons rfl .nil)) <| ath_n <| aw_ret ?_
 exact ⟨_, Cv.refl _, .inl rfl, .av (.agg [.i x3, .i ((Fref05Add x0 (Z0g x2 x1)).X), .i ((Fref05Add x0 (Z0g x2 x1)).Y), .i ((Fref05Add x0 (Z0h x3 x2 x1)).X), .i ((Fref05Add x0 (Z0h x3 x2 x1)).Y), .i x0.X, .i x0.Y]), by kernel_rfl, tve_eq (by rfl)⟩
theorem okref06Arc (x0 : TPoint) (x1 : Int) (x2 : Int) (x3 : Int) : CallOk Try.prog (cref06Arc x0 x1 x2 x3).1 (cref06Arc x0 x1 x2 x3).2.1 (cref06Arc x0 x1 x2 x3).2.2 := callOk_pure (fun _ _ => by kernel_rfl) fun _ => pref06Arc x0 x1 x2 x3
def FMod (n : Int) (m : Int) : Int := Int.tmod (W64 ((Int.tmod n m) + m)) m
def cMod (n : Int) (m : Int) : FuncId × List Av × Ef := (20, [.one (.i n), .one (.i m)], .val [] (.av (.one (.i (FMod n m)))))
theorem pMod (n : Int) (m : Int) (hm : m ≠ 0) : Pure Try.prog 20 (cMod n m).2.1 (.av (.one (.i (FMod n m)))) := by
 refine pure_of_awF Try.func20 rfl kr kr fun W0 M0 => ?_
 refine aw_seq ?_
 refine aw_region eqok [] [] [] [0, 1] [] [] ⟨[(0, tI n), (1, tI m)], []⟩ .nil kr .nil <| ath_n <| aw_seq ?_
 refine aw_region eqok [] [] [] [4] [] [(m : Int) ≠ 0, (m : Int) ≠ 0] ⟨[(4, tI (Int.tmod (W64 ((Int.tmod n m) + m)) m))], []⟩ .nil kr (.cons au13 (.cons au13 .nil)) <| ath_n <| aw_ret ?_
 exact ⟨_, Cv.refl _, .inl rfl, .av (.one (.i (Int.tmod (W64 ((Int.tmod n m) + m)) m))), by kernel_rfl, tve_eq (by rfl)⟩
theorem okMod (n : Int) (m : Int) (hm : m ≠ 0) : CallOk Try.prog (cMod n m).1 (cMod n m).2.1 (cMod n m).2.2 := callOk_pure (fun _ _ => by kernel_rfl) fun _ => pMod n m hm
def DrawOk (d : TDraw) : Prop := 0 <= d.At /\ d.At <= d.L.length /\ (d.L.length : Int) <= 9223372036854775807
def FNext (d : TDraw) (n : Int) : (Int × TDraw) := bif decide ((((d.L.length : Int)) : Int) <= d.At) then ((0, d)) else ((FMod (d.L.getD ((W64 ((W64 (d.At + 1)) - 1)).toNat) default) n, TDraw.mk d.L (W64 (d.At + 1))))
theorem au18 {p : Prop} (h : p := by first | with_reducible assumption | omega | decide | (simp only [List.length_cons, List.length_nil, List.length_append]; omega) | assumption) : p := h
theorem au6 {p : Prop} (h : p := by first | decide | omega | exact idx_tmod (by first | omega | (simp only [W64_def]; omega)) (by omega) | (simp only [W64_def]; omega) | (constructor <;> omega) | (simp only [List.length_append, List.length_cons, List.length_nil]; omega) | (simp only [List.length_append, List.length_cons, List.length_nil, List.length_drop, List.length_take] at *; omega)) : p := h
theorem pNext  (d : TDraw) (n : Int) (hd : DrawOk d) (hn : n ≠ 0) : Wr Try.prog 34 1000 [.one (.ptr 1000 0), .one (.i n)] (.cells (TDraw.c d) 94) (.av (.one (.i ((FNext d n).1)))) (.cells (TDraw.c ((FNext d n).2)) 94) := by
 refine wr_of_awF Try.func34 rfl kr kr kr kr fun W0 M0 X hX => ?_
 obtain ⟨a1, a2, a3⟩ := hd
 refine aw_seq ?_
 refine aw_region eqok [] [] [] [0, 1] [1000] [] ⟨[(0, tP 1000 0), (1, tI n)], [(1000, .cells (TDraw.c d) 94)]⟩ .nil kr .nil <| ath_n ?_
 refine aw_seq <| aw_seq ?_
 refine aw_draw mixed eqok [] [] [] [0, 1, 14] [1000] [] ⟨[(0, tP 1000 0), (1, tI n), (14, tB (decide ((((d.L.length : Int)) : Int) <= d.At)))], [(1000, .cells (TDraw.c d) 94)]⟩ .nil kr kr .nil <| ath_n ?_
 refine aw_cond (decide ((((d.L.length : Int)) : Int) <= d.At)) kr (fun h1 => ?_) (fun h1 => ?_)
 ·have g1 := of_decide_eq_true h1
  refine aw_seq ?_
  refine aw_region eqok [] [] [] [4] [1000] [] ⟨[(4, tI 0)], [(1000, .cells (TDraw.c d) 94)]⟩ .nil kr .nil <| ath_n ?_
  refine aw_ret <| ath_r ?_
  exact ⟨_, Cv.refl _, .inl rfl, .av (.one (.i 0)), by kernel_rfl, ⟨tve_eq (by first | (simp only [FNext, h1, cond_true, cond_false] <;> rfl)), .cells (TDraw.c d) 94, by kernel_rfl, bke_eq (by first | (simp only [FNext, h1, cond_true, cond_false]; done) | (simp only [FNext, h1, cond_true, cond_false]; kernel_rfl))⟩⟩
 ·have g1 := of_decide_eq_false h1
  refine aw_skip <| ath_n <| aw_seq ?_
  refine aw_region eqok [] [] [] [0, 1] [1000] [] ⟨[(0, tP 1000 0), (1, tI n)], [(1000, .cells [lst 1 (fun x => [.i x]) d.L, .i (W64 (d.At + 1))] 94)]⟩ .nil kr .nil <| ath_n <| aw_seq ?_
  refine aw_draw mixed eqok [] [] [(34, cMod (d.L.getD ((W64 ((W64 (d.At + 1)) - 1)).toNat) default) n)] [4] [1000] [0 <= (W64 ((W64 (d.At + 1)) - 1) : Int) /\ (W64 ((W64 (d.At + 1)) - 1) : Int) < ((d.L.length : Nat) : Int), Same (cMod (d.L.getD ((W64 ((W64 (d.At + 1)) - 1)).toNat) default) n).2.1] ⟨[(4, tI (FMod (d.L.getD ((W64 ((W64 (d.At + 1)) - 1)).toNat) default) n))], [(1000, .cells [lst 1 (fun x => [.i x]) d.L, .i (W64 (d.At + 1))] 94)]⟩ (.cons (okMod (d.L.getD ((W64 ((W64 (d.At + 1)) - 1)).toNat) default) n au18) .nil) kr kr (.cons au6 (.cons rfl .nil)) <| ath_n <| aw_ret ?_
  exact ⟨_, Cv.refl _, .inl rfl, .av (.one (.i (FMod (d.L.getD ((W64 ((W64 (d.At + 1)) - 1)).toNat) default) n))), by kernel_rfl, ⟨tve_eq (by first | (simp only [FNext, h1, cond_true, cond_false] <;> rfl)), .cells [lst 1 (fun x => [.i x]) d.L, .i (W64 (d.At + 1))] 94, by kernel_rfl, bke_eq (by first | (simp only [FNext, h1, cond_true, cond_false]; done) | (simp only [FNext, h1, cond_true, cond_false]; kernel_rfl))⟩⟩
theorem draw_new {l : List Int} (h : (l.length : Int) <= 9223372036854775807) : DrawOk (TDraw.mk l 0) := ⟨Int.le_refl _, by show (0 : Int) <= (l.length : Int); omega, h⟩
theorem next_ok {d : TDraw} {n : Int} (h : DrawOk d) : DrawOk (FNext d n).2 := by
 obtain ⟨h1, h2, h3⟩ := h
 unfold FNext
 by_cases hc : (d.L.length : Int) <= d.At
 ·simp only [hc, decide_true, cond_true]; exact ⟨h1, h2, h3⟩
 ·simp only [hc, decide_false, cond_false]
  rw [W64_id (by omega) (by omega)]
  exact ⟨by show 0 <= d.At + 1; omega, by show d.At + 1 <= (d.L.length : Int); omega, h3⟩
theorem mod_b (n m : Int) (h0 : 0 < m) (h1 : m <= 4611686018427387904) : 0 <= FMod n m /\ FMod n m < m := by
 have e : FMod n m = n % m := by
  unfold FMod W64
  rcases Int.lt_or_le n 0 with h | h
  ·have b1 := Int.emod_nonneg (-n) (show m ≠ 0 by omega)
   have b2 := Int.emod_lt_of_pos (-n) h0
   rw [show n.tmod m = -((-n) % m) by rw [<- Int.tmod_eq_emod_of_nonneg (by omega), Int.neg_tmod, Int.neg_neg]]
   rw [IntKind.wrap_i64]
   rw [show (-((-n) % m) + m + 9223372036854775808) % 18446744073709551616 - 9223372036854775808 = -((-n) % m) + m by omega]
   rw [Int.tmod_eq_emod_of_nonneg (by omega)]
   have e1 := Int.emod_add_mul_ediv (-n) m
   have e2 : -((-n) % m) + m = n + m * ((-n) / m + 1) := by grind
   rw [e2, Int.add_mul_emod_self_left]
  ·have b1 := Int.emod_nonneg n (show m ≠ 0 by omega)
   have b2 := Int.emod_lt_of_pos n h0
   rw [Int.tmod_eq_emod_of_nonneg h, IntKind.wrap_i64]
   rw [show (n % m + m + 9223372036854775808) % 18446744073709551616 - 9223372036854775808 = n % m + m by omega]
   rw [Int.tmod_eq_emod_of_nonneg (by omega), Int.add_emod_right, Int.emod_emod_of_dvd _ (Int.dvd_refl m)]
 rw [e]
 exact ⟨Int.emod_nonneg n (by omega), Int.emod_lt_of_pos n h0⟩
theorem next_b (d : TDraw) (n : Int) (h0 : 0 < n) (h1 : n <= 4611686018427387904) : 0 <= (FNext d n).1 /\ (FNext d n).1 < n := by
 unfold FNext
 by_cases hc : (d.L.length : Int) <= d.At
 ·simp only [hc, decide_true, cond_true]; omega
 ·simp only [hc, decide_false, cond_false]
  exact mod_b _ n h0 h1
theorem lt_many {v a : Int} {d : TDraw} {n : Int} (h : v < W64 (a + (FNext d n).1)) (h0 : 0 < n) (h1 : n <= 1000000) (ha : 0 <= a) (hb : a <= 1000000) : v < a + n := by
 have := next_b d n h0 (by omega)
 rw [W64_id (by omega) (by omega)] at h
 omega
theorem ge_many {v a : Int} {d : TDraw} {n : Int} (h : ¬ v < W64 (a + (FNext d n).1)) (h0 : 0 < n) (h1 : n <= 1000000) (ha : 0 <= a) (hb : a <= 1000000) : W64 (a + (FNext d n).1) < a + n := by
 have := next_b d n h0 (by omega)
 rw [W64_id (by omega) (by omega)]
 omega
theorem and_dec {p q : Prop} [Decidable p] [Decidable q] (h : (bif decide p then decide q else false) = true) : p /\ q := by
 by_cases hp : p
 ·rw [decide_eq_true hp] at h; exact ⟨hp, of_decide_eq_true h⟩
 ·rw [decide_eq_false hp] at h; cases h
theorem draw_bif {c : Bool} {a b : TDraw} (ha : DrawOk a) (hb : DrawOk b) : DrawOk (bif c then a else b) := by cases c <;> assumption
theorem in_next (d : TDraw) (n k : Int) (h0 : 0 < n) (h1 : n <= 4611686018427387904) (h2 : n <= k) : 0 <= (FNext d n).1 /\ (FNext d n).1 < k := ⟨(next_b d n h0 h1).1, by have := (next_b d n h0 h1).2; omega⟩
end
section
open Go.RowKit
theorem pjoints  (l : (List TEdge)) (closed : Bool) : Pure Try.prog 73 [.one (lst 7 TEdge.c l), .one (.b closed)] (.av (.one (.clo 91 2 (listF [.eptr 1 1 (fun _ j => ([lst 7 TEdge.c l] : List Cl).getD j default) 0 0, .eptr 1 1 (fun _ j => ([.b closed] : List Cl).getD j default) 0 0])))) := by
 refine pure_of_awF Try.func73 rfl kr kr fun W0 M0 => ?_
 refine aw_seq ?_
 refine aw_region eqok [] [] [] [2, 3] [2, 3] [] ⟨[(2, tP 2 0), (3, tP 3 0)], [(2, .cells [lst 7 TEdge.c l] 34), (3, .cells [.b closed] 4)]⟩ .nil kr .nil <| ath_n <| aw_seq ?_
 refine aw_region eqok [] [] [] [4] [2, 3] [] ⟨[(4, .av (.one (.clo 91 2 (listF [.ptr 2 0, .ptr 3 0]))))], [(2, .cells [lst 7 TEdge.c l] 34), (3, .cells [.b closed] 4)]⟩ .nil kr .nil <| ath_n <| aw_ret ?_
 exact ⟨_, Cv.trans (cv_fix (⟨[(4, .av (.one (.clo 91 2 (listF [.eptr 1 1 (fun _ j => ([lst 7 TEdge.c l] : List Cl).getD j default) 0 0, .ptr 3 0]))))], [(3, .cells [.b closed] 4)]⟩) 2 [lst 7 TEdge.c l] 34 (K := []) (fun k x h => by cases h) kr kr kr kr) (Cv.trans (cv_fix (⟨[(4, .av (.one (.clo 91 2 (listF [.eptr 1 1 (fun _ j => ([lst 7 TEdge.c l] : List Cl).getD j default) 0 0, .eptr 1 1 (fun _ j => ([.b closed] : List Cl).getD j default) 0 0]))))], []⟩) 3 [.b closed] 4 (K := []) (fun k x h => by cases h) kr kr kr kr) (Cv.refl _)), .inl rfl, .av (.one (.clo 91 2 (listF [.eptr 1 1 (fun _ j => ([lst 7 TEdge.c l] : List Cl).getD j default) 0 0, .eptr 1 1 (fun _ j => ([.b closed] : List Cl).getD j default) 0 0]))), by kernel_rfl, tve_eq rfl⟩
end
section
open Go.RowKit
def jnN (l : List TEdge) (closed : Bool) : Nat := (l.length - 1) + (bif closed then 1 else 0)
def jnA (l : List TEdge) (x : Nat) : TEdge := if x + 1 < l.length then l.getD x default else l.getD (l.length - 1) default
def jnB (l : List TEdge) (x : Nat) : TEdge := if x + 1 < l.length then l.getD (x + 1) default else l.getD 0 default
abbrev capL (l : List TEdge) : Cl := .eptr 1 1 (fun _ j => ([lst 7 TEdge.c l] : List Cl).getD j default) 0 0
abbrev capC (c : Bool) : Cl := .eptr 1 1 (fun _ j => ([.b c] : List Cl).getD j default) 0 0
abbrev ylV (ly : Nat) : Tv := .av (.one (.val (.func (.yield ly) #[] #[])))
abbrev tO (c : Cl) : Tv := .av (.one c)
theorem nm_edge : ∀ x : TEdge, ∀ y ∈ TEdge.c x, NM y := by
 intro x y hy
 simp only [TEdge.c, List.mem_cons, List.not_mem_nil, or_false] at hy
 rcases hy with rfl | rfl | rfl | rfl | rfl | rfl | rfl <;> exact .val _
theorem nm_capL (l : List TEdge) : NM (capL l) := nm_box fun y hy => by rw [List.mem_singleton.1 hy]; exact nm_lst nm_edge
theorem nm_capC (c : Bool) : NM (capC c) := nm_box fun y hy => by rw [List.mem_singleton.1 hy]; exact .val _
theorem edge_v (x : TEdge) : (TEdge.c x).all Cl.isV = true := rfl
section
variable (l : List TEdge) (closed : Bool)
theorem joints_it (h : closed = true -> 1 <= l.length) (hl : (l.length : Int) <= 1000000) : IterOk Try.prog 91 2 (listF [capL l, capC closed]) (jnN l closed) (fun x => [.agg (TEdge.c (jnA l x.val)), .agg (TEdge.c (jnB l x.val))]) := by
 refine iter_of Try.func91 rfl rfl (fun x => rfl) (fun x e he c hc => ?_) kr (fun i hi => ?_) ?_
 ·have : c.isV = true := by
   simp only [List.mem_cons, List.not_mem_nil, or_false] at he
   rcases he with rfl | rfl
   ·exact List.all_eq_true.1 (edge_v _) c hc
   ·exact List.all_eq_true.1 (edge_v _) c hc
  simp only [List.mem_cons, List.not_mem_nil, or_false] at he
  rcases he with rfl | rfl <;> (simp only [Av.cells, TEdge.c, List.mem_cons, List.not_mem_nil, or_false] at hc; rcases hc with rfl | rfl | rfl | rfl | rfl | rfl | rfl <;> rfl)
 ·match i, hi with
  | 0, _ => rfl
  | 1, _ => rfl
 intro Ow n0 ly JJ Jx hO hJg hY
 have hT : ∀ (v : Int) i u, get [(0, ylV ly), (1, tO (capL l)), (2, tO (capC closed)), (4, tI v)] i = some u -> u.dv = true /\ TvM u := fun v => forall_get (p := fun u => Tv.dv u = true /\ TvM u) (by
  simp only [List.forall_mem_cons]
  exact ⟨⟨rfl, avM_one (.val _)⟩, ⟨rfl, avM_one (nm_capL l)⟩, ⟨rfl, avM_one (nm_capC closed)⟩, ⟨rfl, avM_one (.val _)⟩, fun x hx => by cases hx⟩)
 have hd0 : ∀ (v : Int) i u, get [(0, ylV ly), (1, tO (capL l)), (2, tO (capC closed)), (4, tI v)] i = some u -> u.dv = true := fun v i u h => (hT v i u h).1
 refine iw_seq ?_
 refine iw_seq ?_
 refine iw_lift hO (forall_get (p := fun u => Tv.dv u = true) (by simp [entryT, capList, Tv.dv, Av.dv, Cl.dv, List.range, List.range.loop, listF])) rfl fun W0 X1 M1 => ?_
 refine aw_region eqok [] [] [] [0, 1, 2, 4] [] [] ⟨[(0, ylV ly), (1, tO (capL l)), (2, tO (capC closed)), (4, tI 1)], []⟩ .nil kr .nil ?_
 refine ith_n ?_
 refine iw_block ?_
 have eA : ∀ k : Nat, k + 1 < l.length -> [Av.agg (TEdge.c (l.getD ((W64 (((k : Int) + 1) - 1)).toNat) default)), Av.agg (TEdge.c (l.getD ((k : Int) + 1).toNat default))] = [.agg (TEdge.c (jnA l k)), .agg (TEdge.c (jnB l k))] := fun k hk => by
  have e1 : W64 (((k : Int) + 1) - 1) = (k : Int) := by rw [W64_id (by omega) (by omega)]; omega
  have e2 : ((k : Int) + 1).toNat = k + 1 := by omega
  rw [e1, e2, Int.toNat_natCast]
  unfold jnA jnB
  rw [if_pos hk, if_pos hk]
 refine iw_loop (ι := Nat) (fun k => ⟨[(0, ylV ly), (1, tO (capL l)), (2, tO (capC closed)), (4, tI ((k : Int) + 1))], []⟩) (fun k => JJ k) (fun k => k <= l.length - 1) (fun k => l.length - k) (fun k hk => ?_) 0 (Nat.zero_le _)
 refine iw_seq ?_
 refine iw_seq ?_
 refine iw_lift hO (hd0 _) rfl fun W0 X1 M1 => ?_
 refine aw_region eqok [] [] [] [0, 1, 2, 4, 8] [] [] ⟨[(0, ylV ly), (1, tO (capL l)), (2, tO (capC closed)), (4, tI ((k : Int) + 1)), (8, tB (decide ((((k : Int) + 1) : Int) < ((l.length : Int)))))], []⟩ .nil kr .nil ?_
 refine ith_n ?_
 refine iw_cond (decide ((((k : Int) + 1) : Int) < ((l.length : Int)))) kr (fun hc => ?_) (fun hc => ?_)
 ·have hlt : k + 1 < l.length := by have := of_decide_eq_true hc; omega
  refine iw_skip ?_
  refine ith_n ?_
  refine iw_seq ?_
  refine iw_block ?_
  refine iw_seq ?_
  refine iw_yieldK (ly := ly) hO mixed eqok 10 rfl [] [] [0, 1, 2, 4, 11, 16, 20] [0, 1, 2, 4, 22] [0 <= (W64 (((k : Int) + 1) - 1) : Int) /\ (W64 (((k : Int) + 1) - 1) : Int) < ((l.length : Nat) : Int), 0 <= (((k : Int) + 1) : Int) /\ (((k : Int) + 1) : Int) < ((l.length : Nat) : Int)]
   [(0, ylV ly), (1, tO (capL l)), (2, tO (capC closed)), (4, tI ((k : Int) + 1)), (11, ylV ly), (16, .av (.agg (TEdge.c (l.getD ((W64 (((k : Int) + 1) - 1)).toNat) default)))), (20, .av (.agg (TEdge.c (l.getD ((k : Int) + 1).toNat default))))] kr kr ?conds kr kr [Av.agg (TEdge.c (l.getD ((W64 (((k : Int) + 1) - 1)).toNat) default)), Av.agg (TEdge.c (l.getD ((k : Int) + 1).toNat default))] rfl rfl kr kr kr rfl kr ?hT1 (hJg k) (JJ (k + 1)) (Jx (k + 1)) ?hY [] [] ⟨[(0, ylV ly), (1, tO (capL l)), (2, tO (capC closed)), (4, tI ((k : Int) + 1)), (22, tB (!true))], []⟩ ⟨[(22, tB (!false))], []⟩ kr .nil kr .nil ?hQt ?hQf ?hdv rfl
  case conds =>
   have e1 : W64 (((k : Int) + 1) - 1) = (k : Int) := by rw [W64_id (by omega) (by omega)]; omega
   exact .cons ⟨by rw [e1]; omega, by rw [e1]; omega⟩ (.cons ⟨by omega, by omega⟩ .nil)
  case hT1 => exact forall_get (p := fun u => Tv.dv u = true /\ TvM u) (by
   simp only [List.forall_mem_cons]
   exact ⟨⟨rfl, avM_one (.val _)⟩, ⟨rfl, avM_one (nm_capL l)⟩, ⟨rfl, avM_one (nm_capC closed)⟩, ⟨rfl, avM_one (.val _)⟩, ⟨rfl, avM_one (.val _)⟩, ⟨rfl, nm_edge _⟩, ⟨rfl, nm_edge _⟩, fun x hx => by cases hx⟩)
  case hY =>
   intro W hW
   have hk2 : k < jnN l closed := by unfold jnN; omega
   rw [eA k hlt]
   exact hY k hk2 W hW
  case hQt =>
   refine ith_n ?_
   refine iw_cond false kr (fun h => by cases h) (fun _ => ?_)
   refine iw_skip ?_
   refine ibl_n ?_
   refine ith_n ?_
   refine iw_lift hO (fun i u h => ?_) rfl fun W0 X1 M1 => ?_
   ·exact forall_get (p := fun u => Tv.dv u = true) (by simp only [List.forall_mem_cons]; exact ⟨rfl, rfl, rfl, rfl, rfl, fun x hx => by cases hx⟩) i u h
   refine aw_region eqok [] [] [] [0, 1, 2, 4] [] [] ⟨[(0, ylV ly), (1, tO (capL l)), (2, tO (capC closed)), (4, tI (W64 (((k : Int) + 1) + 1)))], []⟩ .nil kr .nil ?_
   refine ith_n ?_
   refine ⟨k + 1, by omega, by omega, ?_, rfl, rfl⟩
   have e3 : W64 (((k : Int) + 1) + 1) = ((k + 1 : Nat) : Int) + 1 := by rw [W64_id (by omega) (by omega)]; omega
   rw [e3]
  case hQf =>
   refine ith_n ?_
   refine iw_cond true kr (fun _ => ?_) (fun h => by cases h)
   refine iw_ret ?_
   exact ⟨.inl rfl, .inr ⟨k, by unfold jnN; omega, rfl⟩⟩
  case hdv => exact forall_get (p := fun u => Tv.dv u = true) (by simp only [List.forall_mem_cons]; exact ⟨rfl, rfl, rfl, rfl, rfl, fun x hx => by cases hx⟩)
 ·have hge : ¬ k + 1 < l.length := by have := of_decide_eq_false hc; omega
  refine iw_exit ?_
  refine ith_x ?_
  refine ith_x ?_
  refine ibl_hit ?_
  refine ith_n ?_
  refine iw_seq ?_
  refine iw_lift hO (fun i u h => ?_) rfl fun W0 X1 M1 => ?_
  ·exact forall_get (p := fun u => Tv.dv u = true) (by simp only [List.forall_mem_cons]; exact ⟨rfl, rfl, rfl, rfl, rfl, fun x hx => by cases hx⟩) i u h
  refine aw_region eqok [] [] [] [0, 1, 2, 23] [] [] ⟨[(0, ylV ly), (1, tO (capL l)), (2, tO (capC closed)), (23, tB closed)], []⟩ .nil kr .nil ?_
  refine ith_n ?_
  refine iw_cond closed kr (fun hcl => ?_) (fun hcl => ?_)
  ·have h1 := h hcl
   have hkl : k = l.length - 1 := by omega
   have hk2 : k < jnN l closed := by unfold jnN; rw [hcl]; show k < l.length - 1 + 1; omega
   have hn : k + 1 = jnN l closed := by unfold jnN; rw [hcl]; show k + 1 = l.length - 1 + 1; omega
   have e1 : W64 (((l.length : Int)) - 1) = ((l.length - 1 : Nat) : Int) := by rw [W64_id (by omega) (by omega)]; omega
   refine iw_yieldK (ly := ly) hO mixed eqok 10 rfl [] [] [0, 1, 2, 24, 30, 33] [0] [0 <= (W64 (((l.length : Int)) - 1) : Int) /\ (W64 (((l.length : Int)) - 1) : Int) < ((l.length : Nat) : Int), 0 <= (0 : Int) /\ (0 : Int) < ((l.length : Nat) : Int)]
    [(0, ylV ly), (1, tO (capL l)), (2, tO (capC closed)), (24, ylV ly), (30, .av (.agg (TEdge.c (l.getD ((W64 (((l.length : Int)) - 1)).toNat) default)))), (33, .av (.agg (TEdge.c (l.getD 0 default))))] kr kr ?conds kr kr [Av.agg (TEdge.c (l.getD ((W64 (((l.length : Int)) - 1)).toNat) default)), Av.agg (TEdge.c (l.getD 0 default))] rfl rfl kr kr kr rfl kr ?hT1 (hJg k) (JJ (k + 1)) (Jx (k + 1)) ?hY [] [] ⟨[(0, ylV ly)], []⟩ ⟨[], []⟩ kr .nil kr .nil ?hQt ?hQf ?hdv rfl
   case conds => exact .cons ⟨by rw [e1]; omega, by rw [e1]; omega⟩ (.cons ⟨by omega, by omega⟩ .nil)
   case hT1 => exact forall_get (p := fun u => Tv.dv u = true /\ TvM u) (by
    simp only [List.forall_mem_cons]
    exact ⟨⟨rfl, avM_one (.val _)⟩, ⟨rfl, avM_one (nm_capL l)⟩, ⟨rfl, avM_one (nm_capC closed)⟩, ⟨rfl, avM_one (.val _)⟩, ⟨rfl, nm_edge _⟩, ⟨rfl, nm_edge _⟩, fun x hx => by cases hx⟩)
   case hY =>
    intro W hW
    have := hY k hk2 W hW
    have eL : [Av.agg (TEdge.c (l.getD ((W64 (((l.length : Int)) - 1)).toNat) default)), Av.agg (TEdge.c (l.getD 0 default))] = [.agg (TEdge.c (jnA l k)), .agg (TEdge.c (jnB l k))] := by
     unfold jnA jnB
     rw [if_neg hge, if_neg hge, e1, Int.toNat_natCast]
    rw [eL]
    exact this
   case hQt =>
    refine ⟨.inr rfl, .inl ?_⟩
    rw [hn]
   case hQf => exact ⟨.inr rfl, .inr ⟨k, hk2, rfl⟩⟩
   case hdv => exact forall_get (p := fun u => Tv.dv u = true) (by simp only [List.forall_mem_cons]; exact ⟨rfl, rfl, rfl, rfl, fun x hx => by cases hx⟩)
  ·refine iw_skip ?_
   refine ⟨.inr rfl, .inl ?_⟩
   have : k = jnN l closed := by unfold jnN; rw [hcl]; show k = l.length - 1 + 0; omega
   rw [<- this]
end
end
section
open Go.RowKit
theorem chk_len {l : Nat} {b c : Bool} (h : (bif b then b else (bif decide ((((l : Nat) : Int)) = 0) then decide ((((l : Nat) : Int)) = 0) else c)) = false) : 1 <= l := by
 cases b with
 | true => cases h
 | false =>
  by_cases e : ((l : Nat) : Int) = 0
  ·rw [decide_eq_true e] at h; cases h
  ·omega
theorem nm_TEdge : ∀ x : TEdge, ∀ y ∈ TEdge.c x, NM y := nm_edge
theorem nm_TShape : ∀ x : TShape, ∀ y ∈ TShape.c x, NM y := by
 intro x y hy
 simp only [TShape.c, List.mem_cons, List.not_mem_nil, or_false] at hy
 rcases hy with rfl | rfl | rfl
 ·exact .val _
 ·exact nm_lst nm_edge
 ·exact .val _
def Z0i (s : TShape) : FuncId × List Av × Ef := (73, [.one (lst 7 TEdge.c s.Edges), .one (.b (decide ((s.Kind : Int) = 2)))], .val [] (.av (.one (.clo 91 2 (listF [.eptr 1 1 (fun _ j => ([lst 7 TEdge.c s.Edges] : List Cl).getD j default) 0 0, .eptr 1 1 (fun _ j => ([.b (decide ((s.Kind : Int) = 2))] : List Cl).getD j default) 0 0])))))
def FCheckS_r1 (s : TShape) (v39 : Int) (K0 : Int -> Int) : Nat -> Nat -> Int
 | 0, _ => bif bif bif bif decide ((s.Kind : Int) = 2) then !decide ((s.R : Int) = 0) else false then true else decide ((s.R : Int) < 0) then true else decide ((4194304 : Int) < s.R) then (3) else (0)
 | m + 1, x => bif !(decide ((((jnA s.Edges x).B).X) = (((jnB s.Edges x).A).X)) && (decide ((((jnA s.Edges x).B).Y) = (((jnB s.Edges x).A).Y)) && true)) then (12) else ((FCheckS_r1 s v39 K0 m (x + 1)))
def FCheckS_l0 (s : TShape) : Nat -> Int -> Int
 | 0, _ => default
 | n0 + 1, v39 => bif decide ((v39 : Int) < ((s.Edges.length : Int))) then (bif !decide (((FCheck (s.Edges.getD v39.toNat default)) : Int) = 0) then (FCheck (s.Edges.getD v39.toNat default)) else ((FCheckS_l0 s n0) (v39 + 1))) else (FCheckS_r1 s v39 (FCheckS_l0 s n0) (jnN s.Edges (decide ((s.Kind : Int) = 2))) 0)
def FCheckS (s : TShape) : Int := bif bif bif !decide ((s.Kind : Int) = 1) then !(decide ((s.Kind : Int) = 2)) else false then (bif !decide ((s.Kind : Int) = 1) then !(decide ((s.Kind : Int) = 2)) else false) else (bif decide ((((s.Edges.length : Int)) : Int) = 0) then (decide ((((s.Edges.length : Int)) : Int) = 0)) else (bif decide ((s.Kind : Int) = 2) then decide ((((s.Edges.length : Int)) : Int) < 2) else false)) then (12) else (bif decide ((40 : Int) < ((s.Edges.length : Int))) then (2) else (FCheckS_l0 s (((((s.Edges.length : Int))) - 0).toNat + 1) 0))
def cCheckS (s : TShape) : FuncId × List Av × Ef := (49, [.agg (TShape.c s)], .val [] (.av (.one (.i (FCheckS s)))))
theorem au10 {p : Prop} (h : p := by first | omega | (simp only [List.length_drop, List.length_take] at *; omega)) : p := h
theorem pCheckS (s : TShape) (hl : (s.Edges.length : Int) <= 9223372036854775807) : Pure Try.prog 49 (cCheckS s).2.1 (.av (.one (.i (FCheckS s)))) := by
 refine pure_of_awF Try.func49 rfl kr kr fun W0 M0 => ?_
 refine aw_seq ?_
 refine aw_region eqok [] [] [] [1, 2] [1, 2] [] ⟨[(1, tP 1 0), (2, tP 2 0)], [(1, .cells (TShape.c s) 36), (2, .cells [.i 0] 47)]⟩ .nil kr .nil <| ath_n <| aw_seq ?_
 refine aw_region eqok [] [] [] [1, 2, 3] [1, 2] [] ⟨[(1, tP 1 0), (2, tP 2 0), (3, tB (decide ((s.Kind : Int) = 2)))], [(1, .cells (TShape.c s) 36), (2, .cells [.i 0] 47)]⟩ .nil kr .nil <| ath_n ?_
 refine aw_seq <| aw_block ?_
 refine aw_seq <| aw_seq ?_
 refine aw_region eqok [] [] [] [1, 2, 3, 12] [1, 2] [((!decide ((s.Kind : Int) = 1)) = true) -> ((!decide ((s.Kind : Int) = 1)) = true), (!decide ((s.Kind : Int) = 1)) = true -> ((!decide ((s.Kind : Int) = 1)) = true)] ⟨[(1, tP 1 0), (2, tP 2 0), (3, tB (decide ((s.Kind : Int) = 2))), (12, tB (bif !decide ((s.Kind : Int) = 1) then !(decide ((s.Kind : Int) = 2)) else false))], [(1, .cells (TShape.c s) 36), (2, .cells [.i 0] 47)]⟩ .nil kr (.cons id (.cons id .nil)) <| ath_n ?_
 refine aw_joinC (⟨[(1, tP 1 0), (2, tP 2 0), (3, tB (decide ((s.Kind : Int) = 2))), (12, tB (bif bif !decide ((s.Kind : Int) = 1) then !(decide ((s.Kind : Int) = 2)) else false then (bif !decide ((s.Kind : Int) = 1) then !(decide ((s.Kind : Int) = 2)) else false) else (bif decide ((((s.Edges.length : Int)) : Int) = 0) then (decide ((((s.Edges.length : Int)) : Int) = 0)) else (bif decide ((s.Kind : Int) = 2) then decide ((((s.Edges.length : Int)) : Int) < 2) else false))))], [(1, .cells (TShape.c s) 36), (2, .cells [.i 0] 47)]⟩) ?_ ?_
 ·refine aw_cond (bif !decide ((s.Kind : Int) = 1) then !(decide ((s.Kind : Int) = 2)) else false) kr (fun h1 => ?_) (fun h1 => ?_)
  ·refine aw_skip <| ath_n ?_
   refine cv_eq ?_
   first | rfl | (simp only [h1, cond_true, cond_false] <;> rfl)
  ·refine aw_seq ?_
   refine aw_region eqok [] [] [] [1, 2, 3, 12] [1, 2] [] ⟨[(1, tP 1 0), (2, tP 2 0), (3, tB (decide ((s.Kind : Int) = 2))), (12, tB (decide ((((s.Edges.length : Int)) : Int) = 0)))], [(1, .cells (TShape.c s) 36), (2, .cells [.i 0] 47)]⟩ .nil kr .nil <| ath_n ?_
   refine aw_cond (decide ((((s.Edges.length : Int)) : Int) = 0)) kr (fun h2 => ?_) (fun h2 => ?_)
   ·have g2 := of_decide_eq_true h2
    refine aw_skip <| ath_n ?_
    refine cv_eq ?_
    first | rfl | (simp only [h1, h2, cond_true, cond_false] <;> rfl)
   ·have g2 := of_decide_eq_false h2
    refine aw_region eqok [] [] [] [1, 2, 3, 12] [1, 2] [((decide ((s.Kind : Int) = 2)) = true) -> ((decide ((s.Kind : Int) = 2)) = true), ((decide ((s.Kind : Int) = 2)) = true) -> ((decide ((s.Kind : Int) = 2)) = true), ((decide ((s.Kind : Int) = 2)) = true) -> ((decide ((s.Kind : Int) = 2)) = true), (decide ((s.Kind : Int) = 2)) = true -> ((decide ((s.Kind : Int) = 2)) = true)] ⟨[(1, tP 1 0), (2, tP 2 0), (3, tB (decide ((s.Kind : Int) = 2))), (12, tB (bif decide ((s.Kind : Int) = 2) then decide ((((s.Edges.length : Int)) : Int) < 2) else false))], [(1, .cells (TShape.c s) 36), (2, .cells [.i 0] 47)]⟩ .nil kr (.cons id (.cons id (.cons id (.cons id .nil)))) <| ath_n ?_
    refine cv_eq ?_
    first | rfl | (simp only [h1, h2, cond_true, cond_false] <;> rfl)
 refine aw_cond (bif bif !decide ((s.Kind : Int) = 1) then !(decide ((s.Kind : Int) = 2)) else false then (bif !decide ((s.Kind : Int) = 1) then !(decide ((s.Kind : Int) = 2)) else false) else (bif decide ((((s.Edges.length : Int)) : Int) = 0) then (decide ((((s.Edges.length : Int)) : Int) = 0)) else (bif decide ((s.Kind : Int) = 2) then decide ((((s.Edges.length : Int)) : Int) < 2) else false))) kr (fun h1 => ?_) (fun h1 => ?_)
 ·refine aw_seq ?_
  refine aw_region eqok [] [] [] [2] [2] [] ⟨[(2, tP 2 0)], [(2, .cells [.i 12] 47)]⟩ .nil kr .nil <| ath_n ?_
  refine aw_ret <| abl_r <| ath_r ?_
  exact ⟨_, Cv.refl _, .inl rfl, .av (.one (.i 12)), by kernel_rfl, tve_eq (by first | (simp only [FCheckS, h1, cond_true, cond_false] <;> rfl))⟩
 ·refine aw_seq ?_
  refine aw_region eqok [] [] [] [1, 2, 3, 31] [1, 2] [] ⟨[(1, tP 1 0), (2, tP 2 0), (3, tB (decide ((s.Kind : Int) = 2))), (31, tB (decide ((40 : Int) < ((s.Edges.length : Int)))))], [(1, .cells (TShape.c s) 36), (2, .cells [.i 0] 47)]⟩ .nil kr .nil <| ath_n ?_
  refine aw_cond (decide ((40 : Int) < ((s.Edges.length : Int)))) kr (fun h2 => ?_) (fun h2 => ?_)
  ·have g2 := of_decide_eq_true h2
   refine aw_seq ?_
   refine aw_region eqok [] [] [] [2] [2] [] ⟨[(2, tP 2 0)], [(2, .cells [.i 2] 47)]⟩ .nil kr .nil <| ath_n ?_
   refine aw_ret <| abl_r <| ath_r ?_
   exact ⟨_, Cv.refl _, .inl rfl, .av (.one (.i 2)), by kernel_rfl, tve_eq (by first | (simp only [FCheckS, h1, h2, cond_true, cond_false] <;> rfl))⟩
  ·have g2 := of_decide_eq_false h2
   refine aw_skip <| abl_n ?_
   refine ath_n <| aw_seq <| aw_seq ?_
   refine aw_region eqok [] [] [] [1, 2, 3, 37, 38, 39] [1, 2] [] ⟨[(1, tP 1 0), (2, tP 2 0), (3, tB (decide ((s.Kind : Int) = 2))), (37, .av (.one (lst 7 TEdge.c s.Edges))), (38, tI ((s.Edges.length : Int))), (39, tI 0)], [(1, .cells (TShape.c s) 36), (2, .cells [.i 0] 47)]⟩ .nil kr .nil <| ath_n <| aw_block ?_
   refine aw_loopC (ι := Nat × Int) (fun x => ⟨[(1, tP 1 0), (2, tP 2 0), (3, tB (decide ((s.Kind : Int) = 2))), (37, .av (.one (lst 7 TEdge.c s.Edges))), (38, tI ((s.Edges.length : Int))), (39, tI x.2)], [(1, .cells (TShape.c s) 36), (2, .cells [.i 0] 47)]⟩) (fun x => ((((s.Edges.length : Int))) - x.2).toNat < x.1 /\ (0 <= x.2 /\ (x.2 <= ((s.Edges.length : Int)) \/ x.2 = 0)) /\ FCheckS_l0 s x.1 x.2 = FCheckS s) (fun x => x.1) ?_ (((((s.Edges.length : Int))) - 0).toNat + 1, 0) ⟨Nat.lt_succ_self _, ⟨(by show 0 <= 0; first | trivial | omega | exact at0 | exact at1 | exact at2 | (simp; omega) | simp), (by show (0 <= ((s.Edges.length : Int)) \/ 0 = 0); first | trivial | omega | exact at0 | exact at1 | exact at2 | (simp; omega) | simp)⟩, (by simp only [FCheckS, h1, h2, cond_true, cond_false])⟩
   rintro ⟨n0, v39⟩ ⟨hn, hinv, hF⟩
   have hm0 : ((((s.Edges.length : Int))) - v39).toNat < n0 := hn; have hinv0 : 0 <= v39 /\ (v39 <= ((s.Edges.length : Int)) \/ v39 = 0) := hinv; have hF0 : FCheckS_l0 s n0 v39 = FCheckS s := hF; clear hn hinv hF
   cases n0 with
   | zero => exact absurd hm0 (Nat.not_lt_zero _)
   | succ n0 =>
    refine aw_seq ?_
    refine aw_region eqok [] [] [] [1, 2, 3, 37, 38, 39, 40] [1, 2] [] ⟨[(1, tP 1 0), (2, tP 2 0), (3, tB (decide ((s.Kind : Int) = 2))), (37, .av (.one (lst 7 TEdge.c s.Edges))), (38, tI ((s.Edges.length : Int))), (39, tI v39), (40, tB (decide ((v39 : Int) < ((s.Edges.length : Int)))))], [(1, .cells (TShape.c s) 36), (2, .cells [.i 0] 47)]⟩ .nil kr .nil <| ath_n <| aw_seq ?_
    refine aw_cond (decide ((v39 : Int) < ((s.Edges.length : Int)))) kr (fun h3 => ?_) (fun h3 => ?_)
    ·have g3 := of_decide_eq_true h3
     refine aw_skip <| ath_n ?_
     refine aw_seq <| aw_block <| aw_seq ?_
     refine aw_region eqok [] [] [] [1, 2, 3, 5, 37, 38, 39] [1, 2, 5] [0 <= (v39 : Int) /\ (v39 : Int) < ((s.Edges.length : Nat) : Int)] ⟨[(1, tP 1 0), (2, tP 2 0), (3, tB (decide ((s.Kind : Int) = 2))), (5, tP 5 0), (37, .av (.one (lst 7 TEdge.c s.Edges))), (38, tI ((s.Edges.length : Int))), (39, tI v39)], [(1, .cells (TShape.c s) 36), (2, .cells [.i 0] 47), (5, .cells (TEdge.c (s.Edges.getD v39.toNat default)) 33)]⟩ .nil kr (.cons au6 .nil) <| ath_n <| aw_seq ?_
     refine aw_region eqok [] [] [(44, cCheck (s.Edges.getD v39.toNat default))] [1, 2, 3, 6, 37, 38, 39] [1, 2] [Same (cCheck (s.Edges.getD v39.toNat default)).2.1] ⟨[(1, tP 1 0), (2, tP 2 0), (3, tB (decide ((s.Kind : Int) = 2))), (6, tI (FCheck (s.Edges.getD v39.toNat default))), (37, .av (.one (lst 7 TEdge.c s.Edges))), (38, tI ((s.Edges.length : Int))), (39, tI v39)], [(1, .cells (TShape.c s) 36), (2, .cells [.i 0] 47)]⟩ (.cons (okCheck (s.Edges.getD v39.toNat default)) .nil) kr (.cons rfl .nil) <| ath_n <| aw_seq ?_
     refine aw_region eqok [] [] [] [1, 2, 3, 6, 37, 38, 39, 46] [1, 2] [] ⟨[(1, tP 1 0), (2, tP 2 0), (3, tB (decide ((s.Kind : Int) = 2))), (6, tI (FCheck (s.Edges.getD v39.toNat default))), (37, .av (.one (lst 7 TEdge.c s.Edges))), (38, tI ((s.Edges.length : Int))), (39, tI v39), (46, tB (!decide (((FCheck (s.Edges.getD v39.toNat default)) : Int) = 0)))], [(1, .cells (TShape.c s) 36), (2, .cells [.i 0] 47)]⟩ .nil kr .nil <| ath_n ?_
     refine aw_cond (!decide (((FCheck (s.Edges.getD v39.toNat default)) : Int) = 0)) kr (fun h4 => ?_) (fun h4 => ?_)
     ·have g4 := of_not_decide_true h4
      refine aw_seq ?_
      refine aw_region eqok [] [] [] [2] [2] [] ⟨[(2, tP 2 0)], [(2, .cells [.i (FCheck (s.Edges.getD v39.toNat default))] 47)]⟩ .nil kr .nil <| ath_n ?_
      refine aw_ret <| abl_r ?_
      refine ath_r <| ath_r ?_
      refine abl_r <| ath_r ?_
      exact ⟨_, Cv.refl _, .inl rfl, .av (.one (.i (FCheck (s.Edges.getD v39.toNat default)))), by kernel_rfl, tve_eq (by rw [<- hF0]; first | (simp only [FCheckS_l0, h3, h4, cond_true, cond_false] <;> rfl))⟩
     ·have g4 := of_not_decide_false h4
      refine aw_skip <| abl_n <| ath_n ?_
      refine aw_region eqok [] [] [] [1, 2, 3, 37, 38, 39] [1, 2] [] ⟨[(1, tP 1 0), (2, tP 2 0), (3, tB (decide ((s.Kind : Int) = 2))), (37, .av (.one (lst 7 TEdge.c s.Edges))), (38, tI ((s.Edges.length : Int))), (39, tI (W64 (v39 + 1)))], [(1, .cells (TShape.c s) 36), (2, .cells [.i 0] 47)]⟩ .nil kr .nil ?_
      (try rw [(show W64 (v39 + 1) = v39 + 1 from W64_id (by omega) au10)])
      refine ath_n ?_
      refine ⟨(n0, v39 + 1), ⟨?_, ?_, (by rw [<- hF0]; simp only [FCheckS_l0, h3, h4, cond_true, cond_false])⟩, Nat.lt_succ_self _, cv_eq kr⟩
      ·show ((((s.Edges.length : Int))) - (v39 + 1)).toNat < n0; omega
      ·exact ⟨(by show 0 <= (v39 + 1); first | trivial | omega | exact at0 | exact at1 | exact at2 | (simp; omega) | simp), (by show ((v39 + 1) <= ((s.Edges.length : Int)) \/ (v39 + 1) = 0); first | trivial | omega | exact at0 | exact at1 | exact at2 | (simp; omega) | simp)⟩
    ·have g3 := of_decide_eq_false h3
     refine aw_exit <| ath_e ?_
     refine ath_e <| abl_hit ?_
     refine ath_n <| aw_seq <| aw_seq ?_
     refine aw_region eqok [] [] [(52, (Z0i s))] [1, 2, 3, 52] [1, 2] [Same (Z0i s).2.1] ⟨[(1, tP 1 0), (2, tP 2 0), (3, tB (decide ((s.Kind : Int) = 2))), (52, .av (.one (.clo 91 2 (listF [.eptr 1 1 (fun _ j => ([lst 7 TEdge.c s.Edges] : List Cl).getD j default) 0 0, .eptr 1 1 (fun _ j => ([.b (decide ((s.Kind : Int) = 2))] : List Cl).getD j default) 0 0]))))], [(1, .cells (TShape.c s) 36), (2, .cells [.i 0] 47)]⟩ (.cons (callOk_pure (fun _ _ => kr) fun _ => pjoints s.Edges (decide ((s.Kind : Int) = 2))) .nil) kr (.cons rfl .nil) <| ath_n <| aw_block ?_
     refine aw_cv (Cv.trans (cv_ren (⟨[(1, tP 200001 0), (2, tP 2 0), (3, tB (decide ((s.Kind : Int) = 2))), (52, .av (.one (.clo 91 2 (listF [.eptr 1 1 (fun _ j => ([lst 7 TEdge.c s.Edges] : List Cl).getD j default) 0 0, .eptr 1 1 (fun _ j => ([.b (decide ((s.Kind : Int) = 2))] : List Cl).getD j default) 0 0]))))], [(200001, .cells (TShape.c s) 36), (2, .cells [.i 0] 47)]⟩) 1 200001 (K := []) (fun k x h => by cases h) rfl rfl kr kr) (Cv.trans (cv_ren (⟨[(1, tP 200001 0), (2, tP 200002 0), (3, tB (decide ((s.Kind : Int) = 2))), (52, .av (.one (.clo 91 2 (listF [.eptr 1 1 (fun _ j => ([lst 7 TEdge.c s.Edges] : List Cl).getD j default) 0 0, .eptr 1 1 (fun _ j => ([.b (decide ((s.Kind : Int) = 2))] : List Cl).getD j default) 0 0]))))], [(200001, .cells (TShape.c s) 36), (200002, .cells [.i 0] 47)]⟩) 2 200002 (K := []) (fun k x h => by cases h) rfl rfl kr kr) (Cv.refl _))) ?_
     refine aw_rangeB [200001, 200002] 299999 200001 (fun x1 => [(1, tP 200001 0), (2, tP 200002 0), (3, tB (decide ((s.Kind : Int) = 2))), (7, .av (.one (.eptr 7 1 (fun _ j => ((TEdge.c (jnA s.Edges x1.val)) : List Cl).getD j default) 0 0))), (8, .av (.one (.eptr 7 1 (fun _ j => ((TEdge.c (jnB s.Edges x1.val)) : List Cl).getD j default) 0 0))), (52, .av (.one (.clo 91 2 (listF [.eptr 1 1 (fun _ j => ([lst 7 TEdge.c s.Edges] : List Cl).getD j default) 0 0, .eptr 1 1 (fun _ j => ([.b (decide ((s.Kind : Int) = 2))] : List Cl).getD j default) 0 0]))))]) (fun y => FCheckS_r1 s v39 (FCheckS_l0 s n0) (jnN s.Edges (decide ((s.Kind : Int) = 2)) - y) y = FCheckS s) (fun _ => rfl) kr kr (fun _ _ => kr) (joints_it s.Edges (decide ((s.Kind : Int) = 2)) (fun _ => chk_len h1) (by omega)) kr (fun _ => rfl) (fun _ => rfl) (forall_get (p := BkM) (by simp only [List.forall_mem_cons]; exact ⟨bkM (nm_TShape _), bkM (by simp only [List.forall_mem_cons]; exact ⟨(.val _), fun x hx => by cases hx⟩), fun x hx => by cases hx⟩)) (fun x1 => (forall_get (p := TvM) (by simp only [List.forall_mem_cons]; exact ⟨avM_one (.ptr _ _), avM_one (.ptr _ _), avM_one (.val _), avM_one (nm_box (nm_TEdge _)), avM_one (nm_box (nm_TEdge _)), avM_one (nm_clo (by simp only [List.forall_mem_cons]; exact ⟨(nm_box (by simp only [List.forall_mem_cons]; exact ⟨(nm_lst nm_TEdge), fun x hx => by cases hx⟩)), (nm_box (by simp only [List.forall_mem_cons]; exact ⟨(.val _), fun x hx => by cases hx⟩)), fun x hx => by cases hx⟩)), fun x hx => by cases hx⟩))) (by rw [<- hF0]; simp only [FCheckS_l0, h3, Nat.sub_zero, cond_true, cond_false]) (fun l1 W1 M1 X1 x1 hPX => ?_) (fun l2 W2 M2 X2 x1 hPX => ?_) (fun hF1 => ?_)
     ·refine aw_cvend <| aw_seq ?_
      refine aw_region eqok [] [] [] [1, 2, 3, 7, 52, 54] [7, 200001, 200002] [] ⟨[(1, tP 200001 0), (2, tP 200002 0), (3, tB (decide ((s.Kind : Int) = 2))), (7, tP 7 0), (52, .av (.one (.clo 91 2 (listF [.eptr 1 1 (fun _ j => ([lst 7 TEdge.c s.Edges] : List Cl).getD j default) 0 0, .eptr 1 1 (fun _ j => ([.b (decide ((s.Kind : Int) = 2))] : List Cl).getD j default) 0 0])))), (54, .av (.agg (TEdge.c (jnB s.Edges x1.val))))], [(7, .cells (TEdge.c (jnA s.Edges x1.val)) 33), (200001, .cells (TShape.c s) 36), (200002, .cells [.i 0] 47)]⟩ .nil kr .nil <| ath_n ?_
      refine aw_region eqok [] [] [] [1, 2, 3, 7, 8, 52] [7, 8, 200001, 200002] [] ⟨[(1, tP 200001 0), (2, tP 200002 0), (3, tB (decide ((s.Kind : Int) = 2))), (7, tP 7 0), (8, tP 8 0), (52, .av (.one (.clo 91 2 (listF [.eptr 1 1 (fun _ j => ([lst 7 TEdge.c s.Edges] : List Cl).getD j default) 0 0, .eptr 1 1 (fun _ j => ([.b (decide ((s.Kind : Int) = 2))] : List Cl).getD j default) 0 0]))))], [(7, .cells (TEdge.c (jnA s.Edges x1.val)) 33), (8, .cells (TEdge.c (jnB s.Edges x1.val)) 33), (200001, .cells (TShape.c s) 36), (200002, .cells [.i 0] 47)]⟩ .nil kr .nil ?_
      exact ⟨_, Cv.trans (cv_fixP (⟨[(1, tP 200001 0), (2, tP 200002 0), (3, tB (decide ((s.Kind : Int) = 2))), (7, .av (.one (.eptr 7 1 (fun _ j => ((TEdge.c (jnA s.Edges x1.val)) : List Cl).getD j default) 0 0))), (8, tP 8 0), (52, .av (.one (.clo 91 2 (listF [.eptr 1 1 (fun _ j => ([lst 7 TEdge.c s.Edges] : List Cl).getD j default) 0 0, .eptr 1 1 (fun _ j => ([.b (decide ((s.Kind : Int) = 2))] : List Cl).getD j default) 0 0]))))], [(8, .cells (TEdge.c (jnB s.Edges x1.val)) 33), (200001, .cells (TShape.c s) 36), (200002, .cells [.i 0] 47)]⟩) 7 (TEdge.c (jnA s.Edges x1.val)) 33 [200001, 200002] hPX kr kr kr kr) (Cv.trans (cv_fixP (⟨[(1, tP 200001 0), (2, tP 200002 0), (3, tB (decide ((s.Kind : Int) = 2))), (7, .av (.one (.eptr 7 1 (fun _ j => ((TEdge.c (jnA s.Edges x1.val)) : List Cl).getD j default) 0 0))), (8, .av (.one (.eptr 7 1 (fun _ j => ((TEdge.c (jnB s.Edges x1.val)) : List Cl).getD j default) 0 0))), (52, .av (.one (.clo 91 2 (listF [.eptr 1 1 (fun _ j => ([lst 7 TEdge.c s.Edges] : List Cl).getD j default) 0 0, .eptr 1 1 (fun _ j => ([.b (decide ((s.Kind : Int) = 2))] : List Cl).getD j default) 0 0]))))], [(200001, .cells (TShape.c s) 36), (200002, .cells [.i 0] 47)]⟩) 8 (TEdge.c (jnB s.Edges x1.val)) 33 [200001, 200002] hPX kr kr kr kr) (Cv.refl _)), rfl, rfl⟩
     ·refine aw_cvend <| aw_block <| aw_seq ?_
      refine aw_region eqok [] [] [] [1, 2, 3, 52, 59] [200001, 200002] [] ⟨[(1, tP 200001 0), (2, tP 200002 0), (3, tB (decide ((s.Kind : Int) = 2))), (52, .av (.one (.clo 91 2 (listF [.eptr 1 1 (fun _ j => ([lst 7 TEdge.c s.Edges] : List Cl).getD j default) 0 0, .eptr 1 1 (fun _ j => ([.b (decide ((s.Kind : Int) = 2))] : List Cl).getD j default) 0 0])))), (59, tB (!(decide ((((jnA s.Edges x1.val).B).X) = (((jnB s.Edges x1.val).A).X)) && (decide ((((jnA s.Edges x1.val).B).Y) = (((jnB s.Edges x1.val).A).Y)) && true))))], [(200001, .cells (TShape.c s) 36), (200002, .cells [.i 0] 47)]⟩ .nil kr .nil <| ath_n ?_
      refine aw_cond (!(decide ((((jnA s.Edges x1.val).B).X) = (((jnB s.Edges x1.val).A).X)) && (decide ((((jnA s.Edges x1.val).B).Y) = (((jnB s.Edges x1.val).A).Y)) && true))) kr (fun h4 => ?_) (fun h4 => ?_)
      ·refine aw_seq ?_
       refine aw_region eqok [] [] [] [2] [200002] [] ⟨[(2, tP 200002 0)], [(200002, .cells [.i 12] 47)]⟩ .nil kr .nil <| ath_n ?_
       refine aw_ret <| abl_r ?_
       refine ⟨_, Cv.refl _, (forall_get (p := BkM) (by simp only [List.forall_mem_cons]; exact ⟨bkM (by simp only [List.forall_mem_cons]; exact ⟨(.val _), fun x hx => by cases hx⟩), fun x hx => by cases hx⟩)), fun hF1 => ?_⟩
       change FCheckS_r1 s v39 (FCheckS_l0 s n0) (jnN s.Edges (decide ((s.Kind : Int) = 2)) - x1.val) x1.val = FCheckS s at hF1
       rw [show jnN s.Edges (decide ((s.Kind : Int) = 2)) - x1.val = (jnN s.Edges (decide ((s.Kind : Int) = 2)) - (x1.val + 1)) + 1 by have := x1.isLt; omega] at hF1
       refine abl_r <| ath_r ?_
       exact ⟨_, Cv.refl _, .inl rfl, .av (.one (.i 12)), by kernel_rfl, tve_eq (by rw [<- hF1]; first | (simp only [FCheckS_r1, h4, cond_true, cond_false] <;> rfl))⟩
      ·refine aw_skip <| abl_n ?_
       refine ⟨_, Cv.refl _, fun _ _ h => h, fun hF => ?_⟩
       change FCheckS_r1 s v39 (FCheckS_l0 s n0) (jnN s.Edges (decide ((s.Kind : Int) = 2)) - x1.val) x1.val = FCheckS s at hF
       rw [show jnN s.Edges (decide ((s.Kind : Int) = 2)) - x1.val = (jnN s.Edges (decide ((s.Kind : Int) = 2)) - (x1.val + 1)) + 1 by have := x1.isLt; omega] at hF
       show FCheckS_r1 s v39 (FCheckS_l0 s n0) (jnN s.Edges (decide ((s.Kind : Int) = 2)) - (x1.val + 1)) (x1.val + 1) = FCheckS s
       rw [<- hF]
       first | (simp only [FCheckS_r1, h4, cond_true, cond_false] <;> rfl)
     ·change FCheckS_r1 s v39 (FCheckS_l0 s n0) (jnN s.Edges (decide ((s.Kind : Int) = 2)) - (jnN s.Edges (decide ((s.Kind : Int) = 2)))) (jnN s.Edges (decide ((s.Kind : Int) = 2))) = FCheckS s at hF1
      rw [Nat.sub_self] at hF1
      refine abl_n <| ath_n ?_
      refine aw_seq <| aw_seq ?_
      refine aw_region eqok [] [] [] [2, 75] [200002] [((decide ((s.Kind : Int) = 2)) = true) -> ((decide ((s.Kind : Int) = 2)) = true), ((decide ((s.Kind : Int) = 2)) = true) -> ((decide ((s.Kind : Int) = 2)) = true), (decide ((s.Kind : Int) = 2)) = true -> ((decide ((s.Kind : Int) = 2)) = true), ((bif decide ((s.Kind : Int) = 2) then !decide ((s.R : Int) = 0) else false) = false) -> ((bif decide ((s.Kind : Int) = 2) then !decide ((s.R : Int) = 0) else false) = false), ((bif decide ((s.Kind : Int) = 2) then !decide ((s.R : Int) = 0) else false) = false) -> ((bif decide ((s.Kind : Int) = 2) then !decide ((s.R : Int) = 0) else false) = false), (bif decide ((s.Kind : Int) = 2) then !decide ((s.R : Int) = 0) else false) = false -> ((bif decide ((s.Kind : Int) = 2) then !decide ((s.R : Int) = 0) else false) = false), ((bif bif decide ((s.Kind : Int) = 2) then !decide ((s.R : Int) = 0) else false then true else decide ((s.R : Int) < 0)) = false) -> ((bif bif decide ((s.Kind : Int) = 2) then !decide ((s.R : Int) = 0) else false then true else decide ((s.R : Int) < 0)) = false), ((bif bif decide ((s.Kind : Int) = 2) then !decide ((s.R : Int) = 0) else false then true else decide ((s.R : Int) < 0)) = false) -> ((bif bif decide ((s.Kind : Int) = 2) then !decide ((s.R : Int) = 0) else false then true else decide ((s.R : Int) < 0)) = false), (bif bif decide ((s.Kind : Int) = 2) then !decide ((s.R : Int) = 0) else false then true else decide ((s.R : Int) < 0)) = false -> ((bif bif decide ((s.Kind : Int) = 2) then !decide ((s.R : Int) = 0) else false then true else decide ((s.R : Int) < 0)) = false)] ⟨[(2, tP 200002 0), (75, tB (bif bif bif decide ((s.Kind : Int) = 2) then !decide ((s.R : Int) = 0) else false then true else decide ((s.R : Int) < 0) then true else decide ((4194304 : Int) < s.R)))], [(200002, .cells [.i 0] 47)]⟩ .nil kr (.cons id (.cons id (.cons id (.cons id (.cons id (.cons id (.cons id (.cons id (.cons id .nil))))))))) <| ath_n ?_
      refine aw_cond (bif bif bif decide ((s.Kind : Int) = 2) then !decide ((s.R : Int) = 0) else false then true else decide ((s.R : Int) < 0) then true else decide ((4194304 : Int) < s.R)) kr (fun h4 => ?_) (fun h4 => ?_)
      ·refine aw_seq ?_
       refine aw_region eqok [] [] [] [2] [200002] [] ⟨[(2, tP 200002 0)], [(200002, .cells [.i 3] 47)]⟩ .nil kr .nil <| ath_n ?_
       refine aw_ret <| ath_r ?_
       exact ⟨_, Cv.refl _, .inl rfl, .av (.one (.i 3)), by kernel_rfl, tve_eq (by rw [<- hF1]; first | (simp only [FCheckS_r1, h4, cond_true, cond_false] <;> rfl))⟩
      ·refine aw_skip <| ath_n <| aw_seq ?_
       refine aw_region eqok [] [] [] [2] [200002] [] ⟨[(2, tP 200002 0)], [(200002, .cells [.i 0] 47)]⟩ .nil kr .nil <| ath_n <| aw_ret ?_
       exact ⟨_, Cv.refl _, .inl rfl, .av (.one (.i 0)), by kernel_rfl, tve_eq (by rw [<- hF1]; first | (simp only [FCheckS_r1, h4, cond_true, cond_false] <;> rfl))⟩
theorem okCheckS (s : TShape) (hl : (s.Edges.length : Int) <= 9223372036854775807) : CallOk Try.prog (cCheckS s).1 (cCheckS s).2.1 (cCheckS s).2.2 := callOk_pure (fun _ _ => kr) fun _ => pCheckS s hl
end
section
open Go.RowKit
def fSqrt (x : Nat) : Nat := (FloatKind.f64.format.sqrt x).getD 0
theorem cut_le (way : Ieee.Toward) (neg : Bool) (n drop : Nat) : way.cut neg n drop <= n / 2 ^ (min drop (n.log2 + 2)) + 1 := by
 unfold Ieee.Toward.cut
 simp only [Nat.one_shiftLeft]
 have : ∀ b : Bool, b.toNat <= 1 := fun b => by cases b <;> decide
 exact Nat.add_le_add_left (this _) _
theorem cut_zero (neg : Bool) (n drop : Nat) : Ieee.Toward.zero.cut neg n drop <= n := by
 unfold Ieee.Toward.cut
 simp only [Bool.toNat_false, Nat.add_zero]
 exact Nat.div_le_self _ _
theorem lt_log (n : Nat) : n < 2 ^ (n.log2 + 1) := Nat.lt_log2_self
theorem kept_le (mag : Nat) (place last : Int) (hm : mag ≠ 0) (h : place + mag.log2 - 52 <= last) : Ieee.Toward.even.cut false (mag <<< (place - last).toNat) (last - place).toNat <= 2 ^ 53 := by
 refine Nat.le_trans (cut_le _ _ _ _) ?_
 have hlt := lt_log mag
 by_cases hp : place <= last
 ·have e0 : (place - last).toNat = 0 := by omega
  rw [e0, Nat.shiftLeft_zero]
  have : mag / 2 ^ (min (last - place).toNat (mag.log2 + 2)) < 2 ^ 53 := by
   refine Nat.div_lt_of_lt_mul ?_
   rw [<- Nat.pow_add]
   refine Nat.lt_of_lt_of_le hlt (Nat.pow_le_pow_right (by decide) ?_)
   omega
  omega
 ·have e0 : (last - place).toNat = 0 := by omega
  rw [e0, Nat.zero_min, Nat.pow_zero, Nat.div_one, Nat.shiftLeft_eq]
  have h1 : mag * 2 ^ (place - last).toNat < 2 ^ (mag.log2 + 1) * 2 ^ (place - last).toNat := Nat.mul_lt_mul_of_pos_right hlt (Nat.two_pow_pos _)
  rw [<- Nat.pow_add] at h1
  have h2 : 2 ^ (mag.log2 + 1 + (place - last).toNat) <= 2 ^ 53 := Nat.pow_le_pow_right (by decide) (by omega)
  omega
theorem nearest_le (mag : Nat) (place : Int) (hm : mag ≠ 0) (hlow : -1074 <= place + mag.log2 - 52) : Ieee.double.nearest false mag place <= (place + mag.log2 - 52 + 1074).toNat * 2 ^ 52 + 2 ^ 53 := by
 have hleast : Ieee.double.leastPlace = -1074 := by decide
 have hbin : Ieee.double.binade = 2 ^ 52 := rfl
 have hfr : (Ieee.double.fractionBits : Int) = 52 := rfl
 unfold Ieee.Format.nearest
 rw [if_neg hm]
 simp only [hleast, hbin, hfr]
 have hmax : max (place + (mag.log2 : Int) - 52) (-1074) = place + mag.log2 - 52 := Int.max_eq_left hlow
 rw [hmax]
 have hk := kept_le mag place (place + mag.log2 - 52) hm (Int.le_refl _)
 unfold Ieee.Format.word
 simp only [Bool.false_eq_true, if_false]
 refine Nat.le_trans (Nat.min_le_left _ _) ?_
 have : (place + (mag.log2 : Int) - 52 - -1074).toNat = (place + mag.log2 - 52 + 1074).toNat := by omega
 rw [this]
 omega
theorem read_fin (r : Nat) (h : r <= 1086 * 2 ^ 52) : ∃ m i, Ieee.double.read r = .number false m i /\ m < 2 ^ 53 /\ -1074 <= i /\ i <= max (-1074) (((r / 2 ^ 52 : Nat) : Int) - 1075) := by
 have hleast : Ieee.double.leastPlace = -1074 := by decide
 have hbin : Ieee.double.binade = 2 ^ 52 := rfl
 have hsign : Ieee.double.signWeight = 2 ^ 63 := rfl
 have hinf : Ieee.double.infRung = 2047 * 2 ^ 52 := rfl
 have h1 : r / 2 ^ 63 = 0 := Nat.div_eq_of_lt (by omega)
 have h2 : r % 2 ^ 63 = r := Nat.mod_eq_of_lt (by omega)
 unfold Ieee.Format.read
 simp only [hsign, hbin, hinf, hleast, h1, h2]
 by_cases hb : r < 2 ^ 52
 ·rw [if_pos hb]
  exact ⟨r, -1074, rfl, by omega, by omega, by omega⟩
 ·rw [if_neg hb, if_pos (by omega)]
  refine ⟨_, _, rfl, ?_, by omega, ?_⟩
  ·have := Nat.mod_lt r (show 0 < 2 ^ 52 by decide)
   omega
  ·have : 1 <= r / 2 ^ 52 := by
    rw [Nat.le_div_iff_mul_le (by decide)]; omega
   omega
theorem rootFrom_lt (n : Nat) : ∀ todo root, Ieee.Datum.rootFrom n todo root < root + 2 ^ todo
 | 0, root => by simp [Ieee.Datum.rootFrom]
 | t + 1, root => by
  unfold Ieee.Datum.rootFrom
  simp only [Nat.one_shiftLeft]
  have e : 2 ^ (t + 1) = 2 ^ t + 2 ^ t := by rw [Nat.pow_succ]; omega
  have hp := Nat.two_pow_pos t
  split
  ·have := rootFrom_lt n t (root + 2 ^ t); omega
  ·have := rootFrom_lt n t root; omega
theorem log2_lt {m k : Nat} (hm : m ≠ 0) (h : m < 2 ^ k) : m.log2 < k := (Nat.log2_lt hm).2 h
theorem root_fin (m : Nat) (i : Int) (hm : m < 2 ^ 53) (h1 : -1074 <= i) (h2 : i <= 11) : ∃ m' i', Ieee.Datum.root 54 (.number false m i) = some (.number false m' i') /\ (m' = 0 \/ (m' < 2 ^ 56 /\ -700 <= i' /\ i' <= -24)) := by
 by_cases h0 : m = 0
 ·refine ⟨m, i, ?_, .inl h0⟩
  simp only [Ieee.Datum.root, h0, if_true]
 ·simp only [Ieee.Datum.root, h0, Bool.false_eq_true, if_false]
  have hl : m.log2 < 53 := log2_lt h0 hm
  obtain ⟨p, hp⟩ : ∃ p, p = ((i - ((2 * 54 - m.log2 : Nat) : Int)) % 2).toNat := ⟨_, rfl⟩
  rw [<- hp]
  have hp1 : p <= 1 := by omega
  have hn : m <<< (2 * 54 - m.log2 + p) < 2 ^ 110 := by
   rw [Nat.shiftLeft_eq]
   have a1 : m * 2 ^ (2 * 54 - m.log2 + p) < 2 ^ (m.log2 + 1) * 2 ^ (2 * 54 - m.log2 + p) := Nat.mul_lt_mul_of_pos_right (lt_log m) (Nat.two_pow_pos _)
   rw [<- Nat.pow_add] at a1
   exact Nat.lt_of_lt_of_le a1 (Nat.pow_le_pow_right (by decide) (by omega))
  have hn0 : m <<< (2 * 54 - m.log2 + p) ≠ 0 := by
   rw [Nat.shiftLeft_eq]
   exact Nat.mul_ne_zero h0 (Nat.ne_of_gt (Nat.two_pow_pos _))
  generalize m <<< (2 * 54 - m.log2 + p) = n at *
  have hl2 := log2_lt hn0 hn
  have hr := rootFrom_lt n (n.log2 / 2 + 1) 0
  have hr2 : 2 ^ (n.log2 / 2 + 1) <= 2 ^ 55 := Nat.pow_le_pow_right (by decide) (by omega)
  generalize Ieee.Datum.rootFrom n (n.log2 / 2 + 1) 0 = q at *
  refine ⟨_, _, rfl, .inr ⟨?_, ?_, ?_⟩⟩
  ·have : ∀ b : Bool, b.toNat <= 1 := fun b => by cases b <;> decide
   have := this (q * q != n)
   omega
  ·omega
  ·omega
theorem sq_fin {n : Int} (h1 : 1 <= n) (h2 : n <= 9223372036854775807) : FloatKind.f64.format.sqrt (FloatKind.f64.nearest n) = some (fSqrt (FloatKind.f64.nearest n)) /\ ∃ m, (FloatKind.f64.decode (fSqrt (FloatKind.f64.nearest n))).toInt .zero = some m /\ 0 <= m /\ m <= 9007199254740992 := by
 have hfmt : FloatKind.f64.format = Ieee.double := rfl
 have hneg : decide (n < 0) = false := decide_eq_false (by omega)
 have hnear : FloatKind.f64.nearest n = Ieee.double.nearest false n.natAbs 0 := by
  unfold FloatKind.nearest FloatKind.encode Ieee.Format.write
  rw [hfmt, hneg]
 rw [hnear, hfmt]
 have hn0 : n.natAbs ≠ 0 := by omega
 have hl := log2_lt hn0 (show n.natAbs < 2 ^ 63 by omega)
 have b1 := nearest_le n.natAbs 0 hn0 (by omega)
 generalize hr1 : Ieee.double.nearest false n.natAbs 0 = r1 at *
 have b1' : r1 <= 1086 * 2 ^ 52 := by
  have : (0 + (n.natAbs.log2 : Int) - 52 + 1074).toNat <= 1084 := by omega
  have := Nat.mul_le_mul_right (2 ^ 52) this
  omega
 obtain ⟨m, i, e1, e2, e3, e4⟩ := read_fin r1 b1'
 have hdiv : r1 / 2 ^ 52 <= 1086 := Nat.div_le_of_le_mul (by omega)
 obtain ⟨m', i', e5, e6⟩ := root_fin m i e2 e3 (by omega)
 have hs : Ieee.double.sqrt r1 = some (Ieee.double.nearest false m' i') := by
  unfold Ieee.Format.sqrt
  rw [e1]
  show ((Ieee.Datum.root 54 (.number false m i)).map Ieee.double.write) = _
  rw [e5]
  rfl
 have hf : fSqrt r1 = Ieee.double.nearest false m' i' := by unfold fSqrt; rw [hfmt, hs]; rfl
 refine ⟨by rw [hf]; exact hs, ?_⟩
 rw [hf]
 have b2 : Ieee.double.nearest false m' i' <= 1055 * 2 ^ 52 := by
  rcases e6 with rfl | ⟨e7, e8, e9⟩
  ·unfold Ieee.Format.nearest; rw [if_pos rfl]; decide
  ·by_cases hz : m' = 0
   ·subst hz; unfold Ieee.Format.nearest; rw [if_pos rfl]; decide
   have hl3 := log2_lt hz e7
   have b3 := nearest_le m' i' hz (by omega)
   have : (i' + (m'.log2 : Int) - 52 + 1074).toNat <= 1053 := by omega
   have := Nat.mul_le_mul_right (2 ^ 52) this
   omega
 generalize Ieee.double.nearest false m' i' = r2 at *
 obtain ⟨m3, i3, e7, e8, e9, e10⟩ := read_fin r2 (by omega)
 have hdiv2 : r2 / 2 ^ 52 <= 1055 := Nat.div_le_of_le_mul (by omega)
 have hi3 : i3 <= -20 := by omega
 unfold FloatKind.decode
 rw [hfmt, e7]
 have hi0 : i3.toNat = 0 := by omega
 simp only [Ieee.Datum.toInt, Ieee.Datum.integral, hi0, Nat.shiftLeft_zero]
 have hc := cut_zero false m3 (-i3).toNat
 refine ⟨_, rfl, ?_, ?_⟩
 ·unfold Ieee.signed; simp
 ·unfold Ieee.signed
  simp only [Bool.false_eq_true, if_false, Nat.shiftLeft_zero]
  omega
theorem sq_f2i {n : Int} (h1 : 1 <= n) (h2 : n <= 9223372036854775807) : F2iOk .f64 (fSqrt (FloatKind.f64.nearest n)) .i64 /\ 0 <= f2i .f64 (fSqrt (FloatKind.f64.nearest n)) /\ f2i .f64 (fSqrt (FloatKind.f64.nearest n)) <= 9007199254740992 := by
 obtain ⟨_, m, e1, e2, e3⟩ := sq_fin h1 h2
 have e4 : f2i .f64 (fSqrt (FloatKind.f64.nearest n)) = m := by unfold f2i; rw [e1]; rfl
 rw [e4]
 exact ⟨⟨m, e1, by rw [show IntKind.i64.min = -9223372036854775808 from by decide]; omega, by rw [show IntKind.i64.max = 9223372036854775807 from by decide]; omega⟩, e2, e3⟩
end
section
open Go.RowKit
theorem sqrt_now (x : Nat) : CallOk Try.prog 67 [.one (.val (.float .f64 x))] (.val [FloatKind.f64.format.sqrt x = some (fSqrt x)] (.av (.one (.val (.float .f64 (fSqrt x)))))) := by
 refine .inr ⟨_, _, rfl, fun M σ w args himm hc hargs => ?_⟩
 cases hargs with
 | cons ha ht =>
  cases ht
  obtain ⟨rfl, _⟩ := ha
  have h := hc.head
  refine ⟨.float .f64 (fSqrt x), ?_, rfl, rfl⟩
  have hf : Try.prog.funcs[67]? = some Try.f67 := Try.func67
  have h1 : (Try.f67.name == "runtime.NumGoroutine") = false := by decide
  have h2 : Try.f67.body.isNone = true := rfl
  have h3 : Extern.findNext Try.f67 = none := by kernel_rfl
  have h4 : Extern.find Try.f67 = some Extern.MathSqrt.sqrt := by kernel_rfl
  have e : Extern.MathSqrt.sqrt #[Value.float .f64 x] = (match FloatKind.f64.format.sqrt x with | some r => pure (Value.float .f64 r) | none => do pure (.float .f64 (<- choose (.nanBits .f64 x x)))) := rfl
  rw [h] at e
  simp only [callFunc, Sem.run_bind, run_program, Result.andThen_ok, hf, h1, h2, h3, h4, run_mark, Bool.false_eq_true, if_false, if_true, e, Sem.run_pure]
def FmathSqrt (x : Nat) : Nat := fSqrt x
def cmathSqrt (x : Nat) : FuncId × List Av × Ef := (33, [.one (.val (.float .f64 x))], .val [] (.av (.one (.val (.float .f64 (FmathSqrt x))))))
theorem pmathSqrt (x : Nat) (hx : FloatKind.f64.format.sqrt x = some (fSqrt x)) : Pure Try.prog 33 (cmathSqrt x).2.1 (.av (.one (.val (.float .f64 (FmathSqrt x))))) := by
 refine pure_of_awF Try.func33 rfl kr kr fun W0 M0 => ?_
 refine aw_seq ?_
 refine aw_region eqok [] [] [] [0] [] [] ⟨[(0, .av (.one (.val (.float .f64 x))))], []⟩ .nil kr .nil <| ath_n <| aw_seq ?_
 refine aw_region eqok [] [] [(4, (67, [.one (.val (.float .f64 x))], .val [FloatKind.f64.format.sqrt x = some (fSqrt x)] (.av (.one (.val (.float .f64 (fSqrt x)))))))] [2] [] [Same [.one (.val (.float .f64 x))], FloatKind.f64.format.sqrt x = some (fSqrt x)] ⟨[(2, .av (.one (.val (.float .f64 (fSqrt x)))))], []⟩ (.cons (sqrt_now x) .nil) kr (.cons rfl (.cons (by assumption) .nil)) <| ath_n <| aw_ret ?_
 exact ⟨_, Cv.refl _, .inl rfl, .av (.one (.val (.float .f64 (fSqrt x)))), by kernel_rfl, tve_eq (by rfl)⟩
theorem okmathSqrt (x : Nat) (hx : FloatKind.f64.format.sqrt x = some (fSqrt x)) : CallOk Try.prog (cmathSqrt x).1 (cmathSqrt x).2.1 (cmathSqrt x).2.2 := callOk_pure (fun _ _ => kr) fun _ => pmathSqrt x hx
def FlenSqrt_l1 (n : Int) (s : Int) (K0 : Int -> Int) : Nat -> Int -> Int
 | 0, _ => default
 | n1 + 1, s' => bif bif decide ((s' : Int) < 3037000499) then decide (((W64 ((s' + 1) * (s' + 1))) : Int) <= n) else false then ((FlenSqrt_l1 n s K0 n1) (s' + 1)) else (s')
def FlenSqrt_l0 (n : Int) : Nat -> Int -> Int
 | 0, _ => default
 | n0 + 1, s => bif decide ((n : Int) < (W64 (s * s))) then ((FlenSqrt_l0 n n0) (s - 1)) else (FlenSqrt_l1 n s (FlenSqrt_l0 n n0) ((3037000499 - s).toNat + 1) s)
def FlenSqrt (n : Int) : Int := bif decide ((n : Int) <= 0) then (0) else (FlenSqrt_l0 n ((min (f2i .f64 (FmathSqrt (FloatKind.f64.nearest n))) 3037000499).toNat + 1) (min (f2i .f64 (FmathSqrt (FloatKind.f64.nearest n))) 3037000499))
def clenSqrt (n : Int) : FuncId × List Av × Ef := (10, [.one (.i n)], .val [] (.av (.one (.i (FlenSqrt n)))))
theorem plenSqrt (n : Int) (hn : -9223372036854775808 ≤ n ∧ n ≤ 9223372036854775807) : Pure Try.prog 10 (clenSqrt n).2.1 (.av (.one (.i (FlenSqrt n)))) := by
  refine pure_of_awF Try.func10 rfl kr kr fun W0 M0 => ?_
  refine aw_seq ?_
  refine aw_region eqok [] [] [] [0] [] [] ⟨[(0, tI n)], []⟩ .nil kr .nil <| ath_n ?_
  refine aw_seq <| aw_seq ?_
  refine aw_region eqok [] [] [] [0, 5] [] [] ⟨[(0, tI n), (5, tB (decide ((n : Int) ≤ 0)))], []⟩ .nil kr .nil <| ath_n ?_
  refine aw_cond (decide ((n : Int) ≤ 0)) kr (fun h1 => ?_) (fun h1 => ?_)
  · have g1 := of_decide_eq_true h1
    refine aw_seq ?_
    refine aw_region eqok [] [] [] [2] [] [] ⟨[(2, tI 0)], []⟩ .nil kr .nil <| ath_n ?_
    refine aw_ret <| ath_r ?_
    exact ⟨_, Cv.refl _, .inl rfl, .av (.one (.i 0)), by kernel_rfl, tve_eq (by first | (simp only [FlenSqrt, h1, cond_true, cond_false] <;> rfl))⟩
  · have g1 := of_decide_eq_false h1
    refine aw_skip <| ath_n <| aw_seq ?_
    refine aw_region eqok [] [] [(8, cmathSqrt (FloatKind.f64.nearest n))] [0, 3] [] [Same (cmathSqrt (FloatKind.f64.nearest n)).2.1, F2iOk .f64 (FmathSqrt (FloatKind.f64.nearest n)) .i64] ⟨[(0, tI n), (3, tI (min (f2i .f64 (FmathSqrt (FloatKind.f64.nearest n))) 3037000499))], []⟩ (.cons (okmathSqrt (FloatKind.f64.nearest n) (sq_fin (by omega) (by omega)).1) .nil) kr (.cons rfl (.cons (by unfold FmathSqrt; exact (sq_f2i (by omega) (by omega)).1) .nil)) <| ath_n ?_
    refine aw_seq <| aw_block ?_
    refine aw_loopC (ι := Nat × Int) (fun x => ⟨[(0, tI n), (3, tI x.2)], []⟩) (fun x => x.2.toNat < x.1 ∧ (0 ≤ x.2 ∧ x.2 ≤ 3037000499) ∧ FlenSqrt_l0 n x.1 x.2 = FlenSqrt n) (fun x => x.1) ?_ ((min (f2i .f64 (FmathSqrt (FloatKind.f64.nearest n))) 3037000499).toNat + 1, min (f2i .f64 (FmathSqrt (FloatKind.f64.nearest n))) 3037000499) ⟨Nat.lt_succ_self _, (by show 0 ≤ (min (f2i .f64 (FmathSqrt (FloatKind.f64.nearest n))) 3037000499) ∧ (min (f2i .f64 (FmathSqrt (FloatKind.f64.nearest n))) 3037000499) ≤ 3037000499; (have h := sq_f2i (n := n) (by omega) (by omega); unfold FmathSqrt; omega)), (by simp only [FlenSqrt, h1, cond_true, cond_false])⟩
    rintro ⟨n0, s⟩ ⟨hn, hinv, hF⟩
    have hm0 : s.toNat < n0 := hn; have hinv0 : 0 ≤ s ∧ s ≤ 3037000499 := hinv; have hF0 : FlenSqrt_l0 n n0 s = FlenSqrt n := hF; clear hn hinv hF
    cases n0 with
    | zero => exact absurd hm0 (Nat.not_lt_zero _)
    | succ n0 =>
      have hs0 : n < W64 (s * s) → 0 < s := fun hq => by have hz : s ≠ 0 := fun e => by rw [e] at hq; simp only [W64_def] at hq; omega
                                                         omega
      refine aw_seq <| aw_seq ?_
      refine aw_region eqok [] [] [] [0, 3, 15] [] [] ⟨[(0, tI n), (3, tI s), (15, tB (decide ((n : Int) < (W64 (s * s)))))], []⟩ .nil kr .nil <| ath_n ?_
      refine aw_cond (decide ((n : Int) < (W64 (s * s)))) kr (fun h2 => ?_) (fun h2 => ?_)
      · have g2 := of_decide_eq_true h2
        refine aw_skip <| ath_n <| aw_block ?_
        refine aw_region eqok [] [] [] [0, 3] [] [] ⟨[(0, tI n), (3, tI (W64 (s - 1)))], []⟩ .nil kr .nil ?_
        (try rw [(show W64 (s - 1) = s - 1 from W64_id (by omega) (by omega))])
        refine abl_n <| ath_n ?_
        refine ⟨(n0, s - 1), ⟨?_, ?_, (by rw [← hF0]; simp only [FlenSqrt_l0, h2, cond_true, cond_false])⟩, Nat.lt_succ_self _, cv_eq kr⟩
        · show (s - 1).toNat < n0; omega
        · exact ⟨(by show 0 ≤ (s - 1); first | trivial | omega | exact at0 | exact at1 | exact at2 | (simp; omega) | simp), (by show (s - 1) ≤ 3037000499; first | trivial | omega | exact at0 | exact at1 | exact at2 | (simp; omega) | simp)⟩
      · have g2 := of_decide_eq_false h2
        refine aw_exit <| ath_e ?_
        refine ath_e <| abl_hit ?_
        refine ath_n <| aw_seq <| aw_block ?_
        refine aw_cv (Cv.trans (cv_keep [0, 3] [] (⟨[(0, tI n), (3, tI s)], []⟩) kr) (Cv.refl _)) ?_
        refine aw_loopC (ι := Nat × Int) (fun x => ⟨[(0, tI n), (3, tI x.2)], []⟩) (fun x => (3037000499 - x.2).toNat < x.1 ∧ (0 ≤ x.2 ∧ x.2 ≤ 3037000499) ∧ FlenSqrt_l1 n s (FlenSqrt_l0 n n0) x.1 x.2 = FlenSqrt n) (fun x => x.1) ?_ ((3037000499 - s).toNat + 1, s) ⟨Nat.lt_succ_self _, ⟨(by show 0 ≤ s; first | trivial | omega | exact at0 | exact at1 | exact at2 | (simp; omega) | simp), (by show s ≤ 3037000499; first | trivial | omega | exact at0 | exact at1 | exact at2 | (simp; omega) | simp)⟩, (by rw [← hF0]; simp only [FlenSqrt_l0, h2, cond_true, cond_false])⟩
        rintro ⟨n1, s'⟩ ⟨hn, hinv, hF⟩
        have hm1 : (3037000499 - s').toNat < n1 := hn; have hinv1 : 0 ≤ s' ∧ s' ≤ 3037000499 := hinv; have hF1 : FlenSqrt_l1 n s (FlenSqrt_l0 n n0) n1 s' = FlenSqrt n := hF; clear hn hinv hF
        cases n1 with
        | zero => exact absurd hm1 (Nat.not_lt_zero _)
        | succ n1 =>
          refine aw_seq <| aw_seq ?_
          refine aw_region eqok [] [] [] [0, 3, 28] [] [((decide ((s' : Int) < 3037000499)) = true) → ((decide ((s' : Int) < 3037000499)) = true), ((decide ((s' : Int) < 3037000499)) = true) → ((decide ((s' : Int) < 3037000499)) = true), ((decide ((s' : Int) < 3037000499)) = true) → ((decide ((s' : Int) < 3037000499)) = true), ((decide ((s' : Int) < 3037000499)) = true) → ((decide ((s' : Int) < 3037000499)) = true), ((decide ((s' : Int) < 3037000499)) = true) → ((decide ((s' : Int) < 3037000499)) = true), ((decide ((s' : Int) < 3037000499)) = true) → ((decide ((s' : Int) < 3037000499)) = true), (decide ((s' : Int) < 3037000499)) = true → ((decide ((s' : Int) < 3037000499)) = true)] ⟨[(0, tI n), (3, tI s'), (28, tB (bif decide ((s' : Int) < 3037000499) then decide (((W64 ((W64 (s' + 1)) * (W64 (s' + 1)))) : Int) ≤ n) else false))], []⟩ .nil kr (.cons id (.cons id (.cons id (.cons id (.cons id (.cons id (.cons id .nil))))))) ?_
          (try rw [(show W64 (s' + 1) = s' + 1 from W64_id (by omega) (by omega))])
          refine ath_n ?_
          refine aw_cond (bif decide ((s' : Int) < 3037000499) then decide (((W64 ((s' + 1) * (s' + 1))) : Int) ≤ n) else false) kr (fun h3 => ?_) (fun h3 => ?_)
          · have g3 := and_dec h3
            refine aw_skip <| ath_n <| aw_block ?_
            refine aw_region eqok [] [] [] [0, 3] [] [] ⟨[(0, tI n), (3, tI (W64 (s' + 1)))], []⟩ .nil kr .nil ?_
            (try rw [(show W64 (s' + 1) = s' + 1 from W64_id (by omega) (by omega))])
            refine abl_n <| ath_n ?_
            refine ⟨(n1, s' + 1), ⟨?_, ?_, (by rw [← hF1]; simp only [FlenSqrt_l1, h3, cond_true, cond_false])⟩, Nat.lt_succ_self _, cv_eq kr⟩
            · show (3037000499 - (s' + 1)).toNat < n1; omega
            · exact ⟨(by show 0 ≤ (s' + 1); first | trivial | omega | exact at0 | exact at1 | exact at2 | (simp; omega) | simp), (by show (s' + 1) ≤ 3037000499; first | trivial | omega | exact at0 | exact at1 | exact at2 | (simp; omega) | simp)⟩
          · refine aw_exit <| ath_e ?_
            refine ath_e <| abl_hit ?_
            refine ath_n <| aw_seq ?_
            refine aw_region eqok [] [] [] [2] [] [] ⟨[(2, tI s')], []⟩ .nil kr .nil <| ath_n <| aw_ret ?_
            exact ⟨_, Cv.refl _, .inl rfl, .av (.one (.i s')), by kernel_rfl, tve_eq (by rw [← hF1]; first | (simp only [FlenSqrt_l1, h3, cond_true, cond_false] <;> rfl))⟩
theorem oklenSqrt (n : Int) (hn : -9223372036854775808 <= n /\ n <= 9223372036854775807) : CallOk Try.prog (clenSqrt n).1 (clenSqrt n).2.1 (clenSqrt n).2.2 := callOk_pure (fun _ _ => kr) fun _ => plenSqrt n hn
theorem w64_rng (x : Int) : -9223372036854775808 <= W64 x /\ W64 x <= 9223372036854775807 := by rw [W64_def]; omega
theorem dot_rng (a c : TPoint) : -9223372036854775808 <= FvecDot a c /\ FvecDot a c <= 9223372036854775807 := w64_rng _
def FlenEdge (x0 : TEdge) : Int := bif !decide (((FCheck x0) : Int) = 0) then (0) else (bif !decide ((x0.Kind : Int) = 1) then (W64 (Int.tdiv (W64 (355 * (FRadius x0))) 226)) else (FlenSqrt (FvecDot (FvecSub x0.B x0.A) (FvecSub x0.B x0.A))))
def clenEdge (x0 : TEdge) : FuncId × List Av × Ef := (14, [.agg (TEdge.c x0)], .val [] (.av (.one (.i (FlenEdge x0)))))
theorem au17 {p : Prop} (h : p := by first | with_reducible assumption | exact w64_rng _ | exact dot_rng _ _ | omega | decide) : p := h
theorem plenEdge (x0 : TEdge) : Pure Try.prog 14 (clenEdge x0).2.1 (.av (.one (.i (FlenEdge x0)))) := by
 refine pure_of_awF Try.func14 rfl kr kr fun W0 M0 => ?_
 refine aw_seq ?_
 refine aw_region eqok [] [] [] [1] [1] [] ⟨[(1, tP 1 0)], [(1, .cells (TEdge.c x0) 33)]⟩ .nil kr .nil <| ath_n ?_
 refine aw_seq <| aw_block <| aw_seq ?_
 refine aw_region eqok [] [] [(6, cCheck x0)] [1, 4] [1] [Same (cCheck x0).2.1] ⟨[(1, tP 1 0), (4, tB (!decide (((FCheck x0) : Int) = 0)))], [(1, .cells (TEdge.c x0) 33)]⟩ (.cons (okCheck x0) .nil) kr (.cons rfl .nil) <| ath_n ?_
 refine aw_cond (!decide (((FCheck x0) : Int) = 0)) kr (fun h1 => ?_) (fun h1 => ?_)
 ·have g1 := of_not_decide_true h1
  refine aw_seq ?_
  refine aw_region eqok [] [] [] [2] [] [] ⟨[(2, tI 0)], []⟩ .nil kr .nil <| ath_n ?_
  refine aw_ret <| abl_r <| ath_r ?_
  exact ⟨_, Cv.refl _, .inl rfl, .av (.one (.i 0)), by kernel_rfl, tve_eq (by first | (simp only [FlenEdge, h1, cond_true, cond_false] <;> rfl))⟩
 ·have g1 := of_not_decide_false h1
  refine aw_seq ?_
  refine aw_region eqok [] [] [] [1, 8] [1] [] ⟨[(1, tP 1 0), (8, tB (!decide ((x0.Kind : Int) = 1)))], [(1, .cells (TEdge.c x0) 33)]⟩ .nil kr .nil <| ath_n ?_
  refine aw_cond (!decide ((x0.Kind : Int) = 1)) kr (fun h2 => ?_) (fun h2 => ?_)
  ·have g2 := of_not_decide_true h2
   refine aw_seq ?_
   refine aw_region eqok [] [] [(13, cRadius x0)] [2] [] [Same (cRadius x0).2.1, (226 : Int) ≠ 0] ⟨[(2, tI (W64 (Int.tdiv (W64 (355 * (FRadius x0))) 226)))], []⟩ (.cons (okRadius x0) .nil) kr (.cons rfl (.cons au13 .nil)) <| ath_n ?_
   refine aw_ret <| abl_r <| ath_r ?_
   exact ⟨_, Cv.refl _, .inl rfl, .av (.one (.i (W64 (Int.tdiv (W64 (355 * (FRadius x0))) 226)))), by kernel_rfl, tve_eq (by first | (simp only [FlenEdge, h1, h2, cond_true, cond_false] <;> rfl))⟩
  ·have g2 := of_not_decide_false h2
   refine aw_skip <| abl_n ?_
   refine ath_n <| aw_seq ?_
   refine aw_region eqok [] [] [(20, cvecSub x0.B x0.A)] [3] [3] [Same (cvecSub x0.B x0.A).2.1] ⟨[(3, tP 3 0)], [(3, .cells (TPoint.c (FvecSub x0.B x0.A)) 31)]⟩ (.cons (okvecSub x0.B x0.A) .nil) kr (.cons rfl .nil) <| ath_n <| aw_seq ?_
   refine aw_region eqok [] [] [(23, cvecDot (FvecSub x0.B x0.A) (FvecSub x0.B x0.A)), (24, clenSqrt (FvecDot (FvecSub x0.B x0.A) (FvecSub x0.B x0.A)))] [2] [] [Same (cvecDot (FvecSub x0.B x0.A) (FvecSub x0.B x0.A)).2.1, Same (clenSqrt (FvecDot (FvecSub x0.B x0.A) (FvecSub x0.B x0.A))).2.1] ⟨[(2, tI (FlenSqrt (FvecDot (FvecSub x0.B x0.A) (FvecSub x0.B x0.A))))], []⟩ (.cons (okvecDot (FvecSub x0.B x0.A) (FvecSub x0.B x0.A)) (.cons (oklenSqrt (FvecDot (FvecSub x0.B x0.A) (FvecSub x0.B x0.A)) au17) .nil)) kr (.cons rfl (.cons rfl .nil)) <| ath_n <| aw_ret ?_
   exact ⟨_, Cv.refl _, .inl rfl, .av (.one (.i (FlenSqrt (FvecDot (FvecSub x0.B x0.A) (FvecSub x0.B x0.A))))), by kernel_rfl, tve_eq (by first | (simp only [FlenEdge, h1, h2, cond_true, cond_false] <;> rfl))⟩
theorem oklenEdge (x0 : TEdge) : CallOk Try.prog (clenEdge x0).1 (clenEdge x0).2.1 (clenEdge x0).2.2 := callOk_pure (fun _ _ => kr) fun _ => plenEdge x0
def FsumE_l0 (xs : (List TEdge)) : Nat -> Int -> Int -> Int
 | 0, _, _ => default
 | n0 + 1, n_, v10 => bif decide ((v10 : Int) < ((xs.length : Int))) then ((FsumE_l0 xs n0) (W64 (n_ + (FlenEdge (xs.getD v10.toNat default)))) (v10 + 1)) else (n_)
def FsumE (xs : (List TEdge)) : Int := FsumE_l0 xs (((((xs.length : Int))) - 0).toNat + 1) 0 0
theorem psumE  (xs : (List TEdge)) (hx : (xs.length : Int) <= 9223372036854775807) : Pure Try.prog 50 [.one (lst 7 TEdge.c xs), .one (.clo 14 0 (fun _ => default))] (.av (.one (.i (FsumE xs)))) := by
 refine pure_of_awF Try.func50 rfl kr kr fun W0 M0 => ?_
 refine aw_seq ?_
 refine aw_region eqok [] [] [] [0, 1] [] [] ⟨[(0, .av (.one (lst 7 TEdge.c xs))), (1, .av (.one (.clo 14 0 (fun _ => default))))], []⟩ .nil kr .nil <| ath_n <| aw_seq ?_
 refine aw_region eqok [] [] [] [0, 1, 5] [] [] ⟨[(0, .av (.one (lst 7 TEdge.c xs))), (1, .av (.one (.clo 14 0 (fun _ => default)))), (5, tI 0)], []⟩ .nil kr .nil <| ath_n ?_
 refine aw_seq <| aw_seq ?_
 refine aw_region eqok [] [] [] [1, 5, 8, 9, 10] [] [] ⟨[(1, .av (.one (.clo 14 0 (fun _ => default)))), (5, tI 0), (8, .av (.one (lst 7 TEdge.c xs))), (9, tI ((xs.length : Int))), (10, tI 0)], []⟩ .nil kr .nil <| ath_n <| aw_block ?_
 refine aw_loopC (ι := Nat × Int × Int) (fun x => ⟨[(1, .av (.one (.clo 14 0 (fun _ => default)))), (5, tI x.2.1), (8, .av (.one (lst 7 TEdge.c xs))), (9, tI ((xs.length : Int))), (10, tI x.2.2)], []⟩) (fun x => ((((xs.length : Int))) - x.2.2).toNat < x.1 /\ (0 <= x.2.2 /\ (x.2.2 <= ((xs.length : Int)) \/ x.2.2 = 0)) /\ FsumE_l0 xs x.1 x.2.1 x.2.2 = FsumE xs) (fun x => x.1) ?_ (((((xs.length : Int))) - 0).toNat + 1, 0, 0) ⟨Nat.lt_succ_self _, ⟨(by show 0 <= 0; first | trivial | omega | exact at0 | exact at1 | exact at2 | (simp; omega) | simp), (by show (0 <= ((xs.length : Int)) \/ 0 = 0); first | trivial | omega | exact at0 | exact at1 | exact at2 | (simp; omega) | simp)⟩, (by simp only [FsumE, cond_true, cond_false])⟩
 rintro ⟨n0, n_, v10⟩ ⟨hn, hinv, hF⟩
 have hm0 : ((((xs.length : Int))) - v10).toNat < n0 := hn; have hinv0 : 0 <= v10 /\ (v10 <= ((xs.length : Int)) \/ v10 = 0) := hinv; have hF0 : FsumE_l0 xs n0 n_ v10 = FsumE xs := hF; clear hn hinv hF
 cases n0 with
 | zero => exact absurd hm0 (Nat.not_lt_zero _)
 | succ n0 =>
  refine aw_seq ?_
  refine aw_region eqok [] [] [] [1, 5, 8, 9, 10, 11] [] [] ⟨[(1, .av (.one (.clo 14 0 (fun _ => default)))), (5, tI n_), (8, .av (.one (lst 7 TEdge.c xs))), (9, tI ((xs.length : Int))), (10, tI v10), (11, tB (decide ((v10 : Int) < ((xs.length : Int)))))], []⟩ .nil kr .nil <| ath_n <| aw_seq ?_
  refine aw_cond (decide ((v10 : Int) < ((xs.length : Int)))) kr (fun h1 => ?_) (fun h1 => ?_)
  ·have g1 := of_decide_eq_true h1
   refine aw_skip <| ath_n ?_
   refine aw_seq <| aw_block <| aw_seq ?_
   refine aw_region eqok [] [] [] [1, 5, 7, 8, 9, 10] [7] [0 <= (v10 : Int) /\ (v10 : Int) < ((xs.length : Nat) : Int)] ⟨[(1, .av (.one (.clo 14 0 (fun _ => default)))), (5, tI n_), (7, tP 7 0), (8, .av (.one (lst 7 TEdge.c xs))), (9, tI ((xs.length : Int))), (10, tI v10)], [(7, .cells (TEdge.c (xs.getD v10.toNat default)) 33)]⟩ .nil kr (.cons au6 .nil) <| ath_n ?_
   refine aw_region eqok [] [] [(17, clenEdge (xs.getD v10.toNat default))] [1, 5, 8, 9, 10] [] [Same (clenEdge (xs.getD v10.toNat default)).2.1] ⟨[(1, .av (.one (.clo 14 0 (fun _ => default)))), (5, tI (W64 (n_ + (FlenEdge (xs.getD v10.toNat default))))), (8, .av (.one (lst 7 TEdge.c xs))), (9, tI ((xs.length : Int))), (10, tI v10)], []⟩ (.cons (oklenEdge (xs.getD v10.toNat default)) .nil) kr (.cons rfl .nil) <| abl_n <| ath_n ?_
   refine aw_region eqok [] [] [] [1, 5, 8, 9, 10] [] [] ⟨[(1, .av (.one (.clo 14 0 (fun _ => default)))), (5, tI (W64 (n_ + (FlenEdge (xs.getD v10.toNat default))))), (8, .av (.one (lst 7 TEdge.c xs))), (9, tI ((xs.length : Int))), (10, tI (W64 (v10 + 1)))], []⟩ .nil kr .nil ?_
   (try rw [(show W64 (v10 + 1) = v10 + 1 from W64_id (by omega) au10)])
   refine ath_n ?_
   refine ⟨(n0, W64 (n_ + (FlenEdge (xs.getD v10.toNat default))), v10 + 1), ⟨?_, ?_, (by rw [<- hF0]; simp only [FsumE_l0, h1, cond_true, cond_false])⟩, Nat.lt_succ_self _, cv_eq kr⟩
   ·show ((((xs.length : Int))) - (v10 + 1)).toNat < n0; omega
   ·exact ⟨(by show 0 <= (v10 + 1); first | trivial | omega | exact at0 | exact at1 | exact at2 | (simp; omega) | simp), (by show ((v10 + 1) <= ((xs.length : Int)) \/ (v10 + 1) = 0); first | trivial | omega | exact at0 | exact at1 | exact at2 | (simp; omega) | simp)⟩
  ·have g1 := of_decide_eq_false h1
   refine aw_exit <| ath_e ?_
   refine ath_e <| abl_hit ?_
   refine ath_n <| aw_seq ?_
   refine aw_region eqok [] [] [] [4] [] [] ⟨[(4, tI n_)], []⟩ .nil kr .nil <| ath_n <| aw_ret ?_
   exact ⟨_, Cv.refl _, .inl rfl, .av (.one (.i n_)), by kernel_rfl, tve_eq (by rw [<- hF0]; first | (simp only [FsumE_l0, h1, cond_true, cond_false] <;> rfl))⟩
def FlenShape (s : TShape) : Int := bif !decide (((FCheckS s) : Int) = 0) then (0) else (FsumE s.Edges)
def clenShape (s : TShape) : FuncId × List Av × Ef := (16, [.agg (TShape.c s)], .val [] (.av (.one (.i (FlenShape s)))))
theorem plenShape (s : TShape) (hl : (s.Edges.length : Int) <= 1000000) : Pure Try.prog 16 (clenShape s).2.1 (.av (.one (.i (FlenShape s)))) := by
 refine pure_of_awF Try.func16 rfl kr kr fun W0 M0 => ?_
 refine aw_seq ?_
 refine aw_region eqok [] [] [] [1] [1] [] ⟨[(1, tP 1 0)], [(1, .cells (TShape.c s) 36)]⟩ .nil kr .nil <| ath_n ?_
 refine aw_seq <| aw_seq ?_
 refine aw_region eqok [] [] [(4, cCheckS s)] [1, 5] [1] [Same (cCheckS s).2.1] ⟨[(1, tP 1 0), (5, tB (!decide (((FCheckS s) : Int) = 0)))], [(1, .cells (TShape.c s) 36)]⟩ (.cons (okCheckS s au18) .nil) kr (.cons rfl .nil) <| ath_n ?_
 refine aw_cond (!decide (((FCheckS s) : Int) = 0)) kr (fun h1 => ?_) (fun h1 => ?_)
 ·have g1 := of_not_decide_true h1
  refine aw_seq ?_
  refine aw_region eqok [] [] [] [2] [] [] ⟨[(2, tI 0)], []⟩ .nil kr .nil <| ath_n ?_
  refine aw_ret <| ath_r ?_
  exact ⟨_, Cv.refl _, .inl rfl, .av (.one (.i 0)), by kernel_rfl, tve_eq (by first | (simp only [FlenShape, h1, cond_true, cond_false] <;> rfl))⟩
 ·have g1 := of_not_decide_false h1
  refine aw_skip <| ath_n <| aw_seq ?_
  refine aw_region eqok [] [] [(8, (50, [.one (lst 7 TEdge.c s.Edges), .one (.clo 14 0 (fun _ => default))], .val [] (tI (FsumE s.Edges))))] [2] [] [Same [.one (lst 7 TEdge.c s.Edges), .one (.clo 14 0 (fun _ => default))]] ⟨[(2, tI (FsumE s.Edges))], []⟩ (.cons (callOk_pure (fun _ _ => kr) fun _ => psumE s.Edges au18) .nil) kr (.cons rfl .nil) <| ath_n <| aw_ret ?_
  exact ⟨_, Cv.refl _, .inl rfl, .av (.one (.i (FsumE s.Edges))), by kernel_rfl, tve_eq (by first | (simp only [FlenShape, h1, cond_true, cond_false] <;> rfl))⟩
theorem oklenShape (s : TShape) (hl : (s.Edges.length : Int) <= 1000000) : CallOk Try.prog (clenShape s).1 (clenShape s).2.1 (clenShape s).2.2 := callOk_pure (fun _ _ => kr) fun _ => plenShape s hl
end
section
open Go.RowKit
def Fnet1 (t : TTrack) (net : ByteArray) : Int := bif !(t.Net.toList == net.toList) then (0) else (FlenShape t.Shape)
theorem pnet1  (t : TTrack) (net : ByteArray) (h0 : (t.Shape.Edges.length : Int) <= 1000000) : Pure Try.prog 63 [.agg (TTrack.c t), .one (.eptr 1 1 (fun _ j => ([.s net] : List Cl).getD j default) 0 0)] (.av (.one (.i (Fnet1 t net)))) := by
 refine pure_of_awF Try.func63 rfl kr kr fun W0 M0 => ?_
 refine aw_seq ?_
 refine aw_region eqok [] [] [] [1, 2] [2] [] ⟨[(1, .av (.one (.eptr 1 1 (fun _ j => ([.s net] : List Cl).getD j default) 0 0))), (2, tP 2 0)], [(2, .cells (TTrack.c t) 81)]⟩ .nil kr .nil <| ath_n ?_
 refine aw_seq <| aw_seq ?_
 refine aw_region eqok [] [] [] [2, 7] [2] [] ⟨[(2, tP 2 0), (7, tB (!(t.Net.toList == net.toList)))], [(2, .cells (TTrack.c t) 81)]⟩ .nil kr .nil <| ath_n ?_
 refine aw_cond (!(t.Net.toList == net.toList)) kr (fun h1 => ?_) (fun h1 => ?_)
 ·refine aw_seq ?_
  refine aw_region eqok [] [] [] [3] [] [] ⟨[(3, tI 0)], []⟩ .nil kr .nil <| ath_n ?_
  refine aw_ret <| ath_r ?_
  exact ⟨_, Cv.refl _, .inl rfl, .av (.one (.i 0)), by kernel_rfl, tve_eq (by first | (simp only [Fnet1, h1, cond_true, cond_false] <;> rfl))⟩
 ·refine aw_skip <| ath_n <| aw_seq ?_
  refine aw_region eqok [] [] [(10, clenShape t.Shape)] [3] [] [Same (clenShape t.Shape).2.1] ⟨[(3, tI (FlenShape t.Shape))], []⟩ (.cons (oklenShape t.Shape au18) .nil) kr (.cons rfl .nil) <| ath_n <| aw_ret ?_
  exact ⟨_, Cv.refl _, .inl rfl, .av (.one (.i (FlenShape t.Shape))), by kernel_rfl, tve_eq (by first | (simp only [Fnet1, h1, cond_true, cond_false] <;> rfl))⟩
def Z0j (xs : (List TTrack)) (v10 : Int) (net : ByteArray) : FuncId × List Av × Ef := (63, [.agg (TTrack.c (xs.getD v10.toNat default)), .one (.eptr 1 1 (fun _ j => ([.s net] : List Cl).getD j default) 0 0)], .val [] (tI (Fnet1 (xs.getD v10.toNat default) net)))
def FsumT_l0 (xs : (List TTrack)) (net : ByteArray) : Nat -> Int -> Int -> Int
 | 0, _, _ => default
 | n0 + 1, n_, v10 => bif decide ((v10 : Int) < ((xs.length : Int))) then ((FsumT_l0 xs net n0) (W64 (n_ + (Fnet1 (xs.getD v10.toNat default) net))) (v10 + 1)) else (n_)
def FsumT (xs : (List TTrack)) (net : ByteArray) : Int := FsumT_l0 xs net (((((xs.length : Int))) - 0).toNat + 1) 0 0
theorem au16 {p : Prop} (h : p := by first | (exact ht _) | (exact hb1 _) | with_reducible assumption | omega | decide | (simp only [List.length_cons, List.length_nil, List.length_append]; omega) | assumption) : p := h
theorem psumT  (xs : (List TTrack)) (net : ByteArray) (hx : (xs.length : Int) <= 1000000) (ht : (∀ i, (((xs.getD i default).Shape.Edges.length : Int) <= 1000000))) : Pure Try.prog 62 [.one (lst 6 TTrack.c xs), .one (.clo 63 1 (listF [.eptr 1 1 (fun _ j => ([.s net] : List Cl).getD j default) 0 0]))] (.av (.one (.i (FsumT xs net)))) := by
 refine pure_of_awF Try.func62 rfl kr kr fun W0 M0 => ?_
 refine aw_seq ?_
 refine aw_region eqok [] [] [] [0, 1] [] [] ⟨[(0, .av (.one (lst 6 TTrack.c xs))), (1, .av (.one (.clo 63 1 (listF [.eptr 1 1 (fun _ j => ([.s net] : List Cl).getD j default) 0 0]))))], []⟩ .nil kr .nil <| ath_n <| aw_seq ?_
 refine aw_region eqok [] [] [] [0, 1, 5] [] [] ⟨[(0, .av (.one (lst 6 TTrack.c xs))), (1, .av (.one (.clo 63 1 (listF [.eptr 1 1 (fun _ j => ([.s net] : List Cl).getD j default) 0 0])))), (5, tI 0)], []⟩ .nil kr .nil <| ath_n ?_
 refine aw_seq <| aw_seq ?_
 refine aw_region eqok [] [] [] [1, 5, 8, 9, 10] [] [] ⟨[(1, .av (.one (.clo 63 1 (listF [.eptr 1 1 (fun _ j => ([.s net] : List Cl).getD j default) 0 0])))), (5, tI 0), (8, .av (.one (lst 6 TTrack.c xs))), (9, tI ((xs.length : Int))), (10, tI 0)], []⟩ .nil kr .nil <| ath_n <| aw_block ?_
 refine aw_loopC (ι := Nat × Int × Int) (fun x => ⟨[(1, .av (.one (.clo 63 1 (listF [.eptr 1 1 (fun _ j => ([.s net] : List Cl).getD j default) 0 0])))), (5, tI x.2.1), (8, .av (.one (lst 6 TTrack.c xs))), (9, tI ((xs.length : Int))), (10, tI x.2.2)], []⟩) (fun x => ((((xs.length : Int))) - x.2.2).toNat < x.1 /\ (0 <= x.2.2 /\ (x.2.2 <= ((xs.length : Int)) \/ x.2.2 = 0)) /\ FsumT_l0 xs net x.1 x.2.1 x.2.2 = FsumT xs net) (fun x => x.1) ?_ (((((xs.length : Int))) - 0).toNat + 1, 0, 0) ⟨Nat.lt_succ_self _, ⟨(by show 0 <= 0; first | trivial | omega | exact at0 | exact at1 | exact at2 | (simp; omega) | simp), (by show (0 <= ((xs.length : Int)) \/ 0 = 0); first | trivial | omega | exact at0 | exact at1 | exact at2 | (simp; omega) | simp)⟩, (by simp only [FsumT, cond_true, cond_false])⟩
 rintro ⟨n0, n_, v10⟩ ⟨hn, hinv, hF⟩
 have hm0 : ((((xs.length : Int))) - v10).toNat < n0 := hn; have hinv0 : 0 <= v10 /\ (v10 <= ((xs.length : Int)) \/ v10 = 0) := hinv; have hF0 : FsumT_l0 xs net n0 n_ v10 = FsumT xs net := hF; clear hn hinv hF
 cases n0 with
 | zero => exact absurd hm0 (Nat.not_lt_zero _)
 | succ n0 =>
  refine aw_seq ?_
  refine aw_region eqok [] [] [] [1, 5, 8, 9, 10, 11] [] [] ⟨[(1, .av (.one (.clo 63 1 (listF [.eptr 1 1 (fun _ j => ([.s net] : List Cl).getD j default) 0 0])))), (5, tI n_), (8, .av (.one (lst 6 TTrack.c xs))), (9, tI ((xs.length : Int))), (10, tI v10), (11, tB (decide ((v10 : Int) < ((xs.length : Int)))))], []⟩ .nil kr .nil <| ath_n <| aw_seq ?_
  refine aw_cond (decide ((v10 : Int) < ((xs.length : Int)))) kr (fun h1 => ?_) (fun h1 => ?_)
  ·have g1 := of_decide_eq_true h1
   refine aw_skip <| ath_n ?_
   refine aw_seq <| aw_block <| aw_seq ?_
   refine aw_region eqok [] [] [] [1, 5, 7, 8, 9, 10] [7] [0 <= (v10 : Int) /\ (v10 : Int) < ((xs.length : Nat) : Int)] ⟨[(1, .av (.one (.clo 63 1 (listF [.eptr 1 1 (fun _ j => ([.s net] : List Cl).getD j default) 0 0])))), (5, tI n_), (7, tP 7 0), (8, .av (.one (lst 6 TTrack.c xs))), (9, tI ((xs.length : Int))), (10, tI v10)], [(7, .cells (TTrack.c (xs.getD v10.toNat default)) 81)]⟩ .nil kr (.cons au6 .nil) <| ath_n ?_
   refine aw_region eqok [] [] [(17, (Z0j xs v10 net))] [1, 5, 8, 9, 10] [] [Same (Z0j xs v10 net).2.1] ⟨[(1, .av (.one (.clo 63 1 (listF [.eptr 1 1 (fun _ j => ([.s net] : List Cl).getD j default) 0 0])))), (5, tI (W64 (n_ + (Fnet1 (xs.getD v10.toNat default) net)))), (8, .av (.one (lst 6 TTrack.c xs))), (9, tI ((xs.length : Int))), (10, tI v10)], []⟩ (.cons (callOk_pure (fun _ _ => kr) fun _ => pnet1 (xs.getD v10.toNat default) net au16) .nil) kr (.cons rfl .nil) <| abl_n <| ath_n ?_
   refine aw_region eqok [] [] [] [1, 5, 8, 9, 10] [] [] ⟨[(1, .av (.one (.clo 63 1 (listF [.eptr 1 1 (fun _ j => ([.s net] : List Cl).getD j default) 0 0])))), (5, tI (W64 (n_ + (Fnet1 (xs.getD v10.toNat default) net)))), (8, .av (.one (lst 6 TTrack.c xs))), (9, tI ((xs.length : Int))), (10, tI (W64 (v10 + 1)))], []⟩ .nil kr .nil ?_
   (try rw [(show W64 (v10 + 1) = v10 + 1 from W64_id (by omega) au10)])
   refine ath_n ?_
   refine ⟨(n0, W64 (n_ + (Fnet1 (xs.getD v10.toNat default) net)), v10 + 1), ⟨?_, ?_, (by rw [<- hF0]; simp only [FsumT_l0, h1, cond_true, cond_false])⟩, Nat.lt_succ_self _, cv_eq kr⟩
   ·show ((((xs.length : Int))) - (v10 + 1)).toNat < n0; omega
   ·exact ⟨(by show 0 <= (v10 + 1); first | trivial | omega | exact at0 | exact at1 | exact at2 | (simp; omega) | simp), (by show ((v10 + 1) <= ((xs.length : Int)) \/ (v10 + 1) = 0); first | trivial | omega | exact at0 | exact at1 | exact at2 | (simp; omega) | simp)⟩
  ·have g1 := of_decide_eq_false h1
   refine aw_exit <| ath_e ?_
   refine ath_e <| abl_hit ?_
   refine ath_n <| aw_seq ?_
   refine aw_region eqok [] [] [] [4] [] [] ⟨[(4, tI n_)], []⟩ .nil kr .nil <| ath_n <| aw_ret ?_
   exact ⟨_, Cv.refl _, .inl rfl, .av (.one (.i n_)), by kernel_rfl, tve_eq (by rw [<- hF0]; first | (simp only [FsumT_l0, h1, cond_true, cond_false] <;> rfl))⟩
def Z0k (net : ByteArray) : Bool := (net.toList == (({ data := #[] } : ByteArray)).toList)
def FlenNet (b : TBoard) (net : ByteArray) : Int := bif Z0k net then (0) else (FsumT b.Tracks net)
def clenNet (b : TBoard) (net : ByteArray) : FuncId × List Av × Ef := (25, [.agg (TBoard.c b), .one (.s net)], .val [] (.av (.one (.i (FlenNet b net)))))
theorem plenNet (b : TBoard) (net : ByteArray) (hb0 : (b.Tracks.length : Int) <= 1000000) (hb1 : (∀ i, (((b.Tracks.getD i default).Shape.Edges.length : Int) <= 1000000))) : Pure Try.prog 25 (clenNet b net).2.1 (.av (.one (.i (FlenNet b net)))) := by
 refine pure_of_awF Try.func25 rfl kr kr fun W0 M0 => ?_
 refine aw_seq ?_
 refine aw_region eqok [] [] [] [2, 3] [2, 3] [] ⟨[(2, tP 2 0), (3, tP 3 0)], [(2, .cells (TBoard.c b) 62), (3, .cells [.s net] 9)]⟩ .nil kr .nil <| ath_n ?_
 refine aw_seq <| aw_seq ?_
 refine aw_region eqok [] [] [] [2, 3, 6] [2, 3] [] ⟨[(2, tP 2 0), (3, tP 3 0), (6, tB (Z0k net))], [(2, .cells (TBoard.c b) 62), (3, .cells [.s net] 9)]⟩ .nil kr .nil <| ath_n ?_
 refine aw_cond (Z0k net) kr (fun h1 => ?_) (fun h1 => ?_)
 ·refine aw_seq ?_
  refine aw_region eqok [] [] [] [4] [] [] ⟨[(4, tI 0)], []⟩ .nil kr .nil <| ath_n ?_
  refine aw_ret <| ath_r ?_
  exact ⟨_, Cv.refl _, .inl rfl, .av (.one (.i 0)), by kernel_rfl, tve_eq (by first | (simp only [FlenNet, h1, cond_true, cond_false] <;> rfl))⟩
 ·refine aw_skip <| ath_n <| aw_seq ?_
  refine aw_region eqok [] [] [(10, (62, [.one (lst 6 TTrack.c b.Tracks), .one (.clo 63 1 (listF [.ptr 3 0]))], rdI [3] [.cells [.s net] 9] (tI (FsumT b.Tracks net))))] [4] [] [Same [.one (lst 6 TTrack.c b.Tracks), .one (.clo 63 1 (listF [.ptr 3 0]))], SameBs [.cells [.s net] 9]] ⟨[(4, tI (FsumT b.Tracks net))], []⟩ (.cons (callOk_rd (fun _ _ => kr) kr kr (pure_ce (psumT b.Tracks net au16 au16) (.cons (AvE.refl _) (.cons (.one (.clo 63 1 _ _ (tab_get kr))) .nil)))) .nil) kr (.cons rfl (.cons rfl .nil)) <| ath_n <| aw_ret ?_
  exact ⟨_, Cv.refl _, .inl rfl, .av (.one (.i (FsumT b.Tracks net))), by kernel_rfl, tve_eq (by first | (simp only [FlenNet, h1, cond_true, cond_false] <;> rfl))⟩
theorem oklenNet (b : TBoard) (net : ByteArray) (hb0 : (b.Tracks.length : Int) <= 1000000) (hb1 : (∀ i, (((b.Tracks.getD i default).Shape.Edges.length : Int) <= 1000000))) : CallOk Try.prog (clenNet b net).1 (clenNet b net).2.1 (clenNet b net).2.2 := callOk_pure (fun _ _ => kr) fun _ => plenNet b net hb0 hb1
def Z0l (lengths : List (ByteArray × Int)) (m : TMatch) (v21 : Int) : Bool := mhas eqS lengths (m.Nets.getD v21.toNat default)
def FlenSpread_l0 (b : TBoard) (m : TMatch) : Nat -> List (ByteArray × Int) -> Int -> Int -> Int -> (Int × Bool)
 | 0, _, _, _, _ => default
 | n0 + 1, lengths, low, high, v21 => bif decide ((v21 : Int) < ((m.Nets.length : Int))) then ((FlenSpread_l0 b m n0) (bif !(Z0l lengths m v21) then (mput eqS lengths (m.Nets.getD v21.toNat default) (FlenNet b (m.Nets.getD v21.toNat default))) else lengths) (min low (bif !(Z0l lengths m v21) then (FlenNet b (m.Nets.getD v21.toNat default)) else (bif mhas eqS lengths (m.Nets.getD v21.toNat default) then (lengths.getD (mfind eqS lengths (m.Nets.getD v21.toNat default)) default).2 else 0))) (max high (bif !(Z0l lengths m v21) then (FlenNet b (m.Nets.getD v21.toNat default)) else (bif mhas eqS lengths (m.Nets.getD v21.toNat default) then (lengths.getD (mfind eqS lengths (m.Nets.getD v21.toNat default)) default).2 else 0))) (v21 + 1)) else ((W64 (high - low), true))
def FlenSpread (b : TBoard) (m : TMatch) : (Int × Bool) := bif decide ((((m.Nets.length : Int)) : Int) = 0) then ((0, false)) else (FlenSpread_l0 b m (((((m.Nets.length : Int))) - 0).toNat + 1) (([] : List (ByteArray × Int))) 9223372036854775807 ((-9223372036854775808)) 0)
def clenSpread (b : TBoard) (m : TMatch) : FuncId × List Av × Ef := (27, [.agg (TBoard.c b), .agg (TMatch.c m)], .val [] (.tup [.one (.i ((FlenSpread b m).1)), .one (.b ((FlenSpread b m).2))]))
theorem lr {p : Prop} (h : p := by repeat (first | exact .nil | refine .cons ⟨rfl, .refl _⟩ ?_)) : p := h
theorem plenSpread (b : TBoard) (m : TMatch) (hb0 : (b.Tracks.length : Int) <= 1000000) (hb1 : (∀ i, (((b.Tracks.getD i default).Shape.Edges.length : Int) <= 1000000))) (hm : (m.Nets.length : Int) <= 1000000) : Pure Try.prog 27 (clenSpread b m).2.1 (.tup [.one (.i ((FlenSpread b m).1)), .one (.b ((FlenSpread b m).2))]) := by
 refine pure_of_awF Try.func27 rfl kr kr fun W0 M0 => ?_
 refine aw_seq ?_
 refine aw_region eqok [] [] [] [2, 3] [2, 3] [] ⟨[(2, tP 2 0), (3, tP 3 0)], [(2, .cells (TBoard.c b) 62), (3, .cells (TMatch.c m) 78)]⟩ .nil kr .nil <| ath_n ?_
 refine aw_seq <| aw_seq ?_
 refine aw_region eqok [] [] [] [2, 3, 16] [2, 3] [] ⟨[(2, tP 2 0), (3, tP 3 0), (16, tB (decide ((((m.Nets.length : Int)) : Int) = 0)))], [(2, .cells (TBoard.c b) 62), (3, .cells (TMatch.c m) 78)]⟩ .nil kr .nil <| ath_n ?_
 refine aw_cond (decide ((((m.Nets.length : Int)) : Int) = 0)) kr (fun h1 => ?_) (fun h1 => ?_)
 ·have g1 := of_decide_eq_true h1
  refine aw_seq ?_
  refine aw_region eqok [] [] [] [4, 5] [] [] ⟨[(4, tI 0), (5, tB false)], []⟩ .nil kr .nil <| ath_n ?_
  refine aw_ret <| ath_r ?_
  exact ⟨_, Cv.refl _, .inl rfl, .tup [.one (.i 0), .one (.b false)], by kernel_rfl, tve_eq (by first | (simp only [FlenSpread, h1, cond_true, cond_false] <;> rfl))⟩
 ·have g1 := of_decide_eq_false h1
  refine aw_skip <| ath_n <| aw_seq ?_
  refine aw_region eqok [] [] [] [2, 3, 6] [2, 3, 17] [] ⟨[(2, tP 2 0), (3, tP 3 0), (6, .av (.one (.om 17)))], [(2, .cells (TBoard.c b) 62), (3, .cells (TMatch.c m) 78), (17, .omap false 1 0 (fun _ => undef) (fun _ _ => default))]⟩ .nil kr .nil <| ath_n ?_
  refine aw_cv (Cv.trans (cv_ce (⟨[(2, tP 2 0), (3, tP 3 0), (6, .av (.one (.om 17)))], [(2, .cells (TBoard.c b) 62), (3, .cells (TMatch.c m) 78), (17, .omap false 1 ((([] : List (ByteArray × Int))).length) (kfG Value.string (([] : List (ByteArray × Int)))) (vfG (fun x => [.i x]) (([] : List (ByteArray × Int)))))]⟩) lr (.cons ⟨rfl, .refl _⟩ (.cons ⟨rfl, .refl _⟩ (.cons ⟨rfl, bke_mnew (ck := Value.string) (cv := (fun x => [.i x]))⟩ .nil)))) (Cv.refl _)) <| aw_seq ?_
  refine aw_region eqok [] [] [] [2, 3, 6, 7, 8] [2, 3, 17] [] ⟨[(2, tP 2 0), (3, tP 3 0), (6, .av (.one (.om 17))), (7, tI 9223372036854775807), (8, tI ((-9223372036854775808)))], [(2, .cells (TBoard.c b) 62), (3, .cells (TMatch.c m) 78), (17, .omap false 1 ((([] : List (ByteArray × Int))).length) (kfG Value.string (([] : List (ByteArray × Int)))) (vfG (fun x => [.i x]) (([] : List (ByteArray × Int)))))]⟩ .nil kr .nil <| ath_n ?_
  refine aw_seq <| aw_seq ?_
  refine aw_region eqok [] [] [] [2, 6, 7, 8, 19, 20, 21] [2, 17] [] ⟨[(2, tP 2 0), (6, .av (.one (.om 17))), (7, tI 9223372036854775807), (8, tI ((-9223372036854775808))), (19, .av (.one (lst 1 (fun x => [.s x]) m.Nets))), (20, tI ((m.Nets.length : Int))), (21, tI 0)], [(2, .cells (TBoard.c b) 62), (17, .omap false 1 ((([] : List (ByteArray × Int))).length) (kfG Value.string (([] : List (ByteArray × Int)))) (vfG (fun x => [.i x]) (([] : List (ByteArray × Int)))))]⟩ .nil kr .nil <| ath_n <| aw_block ?_
  refine aw_loopC (ι := Nat × List (ByteArray × Int) × Int × Int × Int) (fun x => ⟨[(2, tP 2 0), (6, .av (.one (.om 17))), (7, tI x.2.2.1), (8, tI x.2.2.2.1), (19, .av (.one (lst 1 (fun x => [.s x]) m.Nets))), (20, tI ((m.Nets.length : Int))), (21, tI x.2.2.2.2)], [(2, .cells (TBoard.c b) 62), (17, .omap false 1 x.2.1.length (kfG Value.string x.2.1) (vfG (fun x => [.i x]) x.2.1))]⟩) (fun x => ((((m.Nets.length : Int))) - x.2.2.2.2).toNat < x.1 /\ (0 <= x.2.2.2.2 /\ (x.2.2.2.2 <= ((m.Nets.length : Int)) \/ x.2.2.2.2 = 0)) /\ FlenSpread_l0 b m x.1 x.2.1 x.2.2.1 x.2.2.2.1 x.2.2.2.2 = FlenSpread b m) (fun x => x.1) ?_ (((((m.Nets.length : Int))) - 0).toNat + 1, ([] : List (ByteArray × Int)), 9223372036854775807, (-9223372036854775808), 0) ⟨Nat.lt_succ_self _, ⟨(by show 0 <= 0; first | trivial | omega | exact at0 | exact at1 | exact at2 | (simp; omega) | simp), (by show (0 <= ((m.Nets.length : Int)) \/ 0 = 0); first | trivial | omega | exact at0 | exact at1 | exact at2 | (simp; omega) | simp)⟩, (by simp only [FlenSpread, h1, cond_true, cond_false])⟩
  rintro ⟨n0, lengths, low, high, v21⟩ ⟨hn, hinv, hF⟩
  have hm0 : ((((m.Nets.length : Int))) - v21).toNat < n0 := hn; have hinv0 : 0 <= v21 /\ (v21 <= ((m.Nets.length : Int)) \/ v21 = 0) := hinv; have hF0 : FlenSpread_l0 b m n0 lengths low high v21 = FlenSpread b m := hF; clear hn hinv hF
  cases n0 with
  | zero => exact absurd hm0 (Nat.not_lt_zero _)
  | succ n0 =>
   refine aw_seq ?_
   refine aw_region eqok [] [] [] [2, 6, 7, 8, 19, 20, 21, 22] [2, 17] [] ⟨[(2, tP 2 0), (6, .av (.one (.om 17))), (7, tI low), (8, tI high), (19, .av (.one (lst 1 (fun x => [.s x]) m.Nets))), (20, tI ((m.Nets.length : Int))), (21, tI v21), (22, tB (decide ((v21 : Int) < ((m.Nets.length : Int)))))], [(2, .cells (TBoard.c b) 62), (17, .omap false 1 lengths.length (kfG Value.string lengths) (vfG (fun x => [.i x]) lengths))]⟩ .nil kr .nil <| ath_n <| aw_seq ?_
   refine aw_cond (decide ((v21 : Int) < ((m.Nets.length : Int)))) kr (fun h2 => ?_) (fun h2 => ?_)
   ·have g2 := of_decide_eq_true h2
    refine aw_skip <| ath_n ?_
    refine aw_seq <| aw_block <| aw_seq ?_
    refine aw_region eqok [] [] [] [2, 6, 7, 8, 10, 19, 20, 21] [2, 17] [0 <= (v21 : Int) /\ (v21 : Int) < ((m.Nets.length : Nat) : Int)] ⟨[(2, tP 2 0), (6, .av (.one (.om 17))), (7, tI low), (8, tI high), (10, .av (.one (.s (m.Nets.getD v21.toNat default)))), (19, .av (.one (lst 1 (fun x => [.s x]) m.Nets))), (20, tI ((m.Nets.length : Int))), (21, tI v21)], [(2, .cells (TBoard.c b) 62), (17, .omap false 1 lengths.length (kfG Value.string lengths) (vfG (fun x => [.i x]) lengths))]⟩ .nil kr (.cons au6 .nil) <| ath_n <| aw_seq ?_
    refine aw_region eqok [] [(28, ((mhas eqS lengths (m.Nets.getD v21.toNat default)), (mfind eqS lengths (m.Nets.getD v21.toNat default))))] [] [2, 6, 7, 8, 10, 11, 12, 19, 20, 21] [2, 17] [LookK Try.prog eqE 9 (lengths).length (kfG Value.string lengths) (Value.string (m.Nets.getD v21.toNat default)) (mhas eqS lengths (m.Nets.getD v21.toNat default)) (mfind eqS lengths (m.Nets.getD v21.toNat default))] ⟨[(2, tP 2 0), (6, .av (.one (.om 17))), (7, tI low), (8, tI high), (10, .av (.one (.s (m.Nets.getD v21.toNat default)))), (11, tI (bif mhas eqS lengths (m.Nets.getD v21.toNat default) then (lengths.getD (mfind eqS lengths (m.Nets.getD v21.toNat default)) default).2 else 0)), (12, tB (Z0l lengths m v21)), (19, .av (.one (lst 1 (fun x => [.s x]) m.Nets))), (20, tI ((m.Nets.length : Int))), (21, tI v21)], [(2, .cells (TBoard.c b) 62), (17, .omap false 1 lengths.length (kfG Value.string lengths) (vfG (fun x => [.i x]) lengths))]⟩ .nil kr (.cons (lookK_of eqS_ok (fit_str Try.underlying9) _ _) .nil) <| ath_n ?_
    refine aw_seq <| aw_seq ?_
    refine aw_region eqok [] [] [] [2, 6, 7, 8, 10, 11, 19, 20, 21, 32] [2, 17] [] ⟨[(2, tP 2 0), (6, .av (.one (.om 17))), (7, tI low), (8, tI high), (10, .av (.one (.s (m.Nets.getD v21.toNat default)))), (11, tI (bif mhas eqS lengths (m.Nets.getD v21.toNat default) then (lengths.getD (mfind eqS lengths (m.Nets.getD v21.toNat default)) default).2 else 0)), (19, .av (.one (lst 1 (fun x => [.s x]) m.Nets))), (20, tI ((m.Nets.length : Int))), (21, tI v21), (32, tB (!(Z0l lengths m v21)))], [(2, .cells (TBoard.c b) 62), (17, .omap false 1 lengths.length (kfG Value.string lengths) (vfG (fun x => [.i x]) lengths))]⟩ .nil kr .nil <| ath_n ?_
    refine aw_joinC (⟨[(2, tP 2 0), (6, .av (.one (.om 17))), (7, tI low), (8, tI high), (11, tI (bif !(Z0l lengths m v21) then (FlenNet b (m.Nets.getD v21.toNat default)) else (bif mhas eqS lengths (m.Nets.getD v21.toNat default) then (lengths.getD (mfind eqS lengths (m.Nets.getD v21.toNat default)) default).2 else 0))), (19, .av (.one (lst 1 (fun x => [.s x]) m.Nets))), (20, tI ((m.Nets.length : Int))), (21, tI v21)], [(2, .cells (TBoard.c b) 62), (17, .omap false 1 ((bif !(Z0l lengths m v21) then (mput eqS lengths (m.Nets.getD v21.toNat default) (FlenNet b (m.Nets.getD v21.toNat default))) else lengths).length) (kfG Value.string (bif !(Z0l lengths m v21) then (mput eqS lengths (m.Nets.getD v21.toNat default) (FlenNet b (m.Nets.getD v21.toNat default))) else lengths)) (vfG (fun x => [.i x]) (bif !(Z0l lengths m v21) then (mput eqS lengths (m.Nets.getD v21.toNat default) (FlenNet b (m.Nets.getD v21.toNat default))) else lengths)))]⟩) ?_ ?_
    ·refine aw_cond (!(Z0l lengths m v21)) kr (fun h3 => ?_) (fun h3 => ?_)
     ·refine aw_seq ?_
      refine aw_region eqok [] [] [(35, clenNet b (m.Nets.getD v21.toNat default))] [2, 6, 7, 8, 10, 11, 19, 20, 21] [2, 17] [Same (clenNet b (m.Nets.getD v21.toNat default)).2.1] ⟨[(2, tP 2 0), (6, .av (.one (.om 17))), (7, tI low), (8, tI high), (10, .av (.one (.s (m.Nets.getD v21.toNat default)))), (11, tI (FlenNet b (m.Nets.getD v21.toNat default))), (19, .av (.one (lst 1 (fun x => [.s x]) m.Nets))), (20, tI ((m.Nets.length : Int))), (21, tI v21)], [(2, .cells (TBoard.c b) 62), (17, .omap false 1 lengths.length (kfG Value.string lengths) (vfG (fun x => [.i x]) lengths))]⟩ (.cons (oklenNet b (m.Nets.getD v21.toNat default) au16 au16) .nil) kr (.cons rfl .nil) <| ath_n ?_
      refine aw_region eqok [] [(999999, ((mhas eqS lengths (m.Nets.getD v21.toNat default)), (mfind eqS lengths (m.Nets.getD v21.toNat default))))] [] [2, 6, 7, 8, 11, 19, 20, 21] [2, 17] [LookK Try.prog eqE 9 (lengths).length (kfG Value.string lengths) (Value.string (m.Nets.getD v21.toNat default)) (mhas eqS lengths (m.Nets.getD v21.toNat default)) (mfind eqS lengths (m.Nets.getD v21.toNat default))] ⟨[(2, tP 2 0), (6, .av (.one (.om 17))), (7, tI low), (8, tI high), (11, tI (FlenNet b (m.Nets.getD v21.toNat default))), (19, .av (.one (lst 1 (fun x => [.s x]) m.Nets))), (20, tI ((m.Nets.length : Int))), (21, tI v21)], [(2, .cells (TBoard.c b) 62), (17, .omap false 1 (bif mhas eqS lengths (m.Nets.getD v21.toNat default) then (lengths).length else (lengths).length + 1) (fun j => bif Nat.beq j (bif mhas eqS lengths (m.Nets.getD v21.toNat default) then mfind eqS lengths (m.Nets.getD v21.toNat default) else (lengths).length) then Value.string (m.Nets.getD v21.toNat default) else kfG Value.string lengths j) (fun j c => bif Nat.beq j (bif mhas eqS lengths (m.Nets.getD v21.toNat default) then mfind eqS lengths (m.Nets.getD v21.toNat default) else (lengths).length) then ([.i (FlenNet b (m.Nets.getD v21.toNat default))] : List Cl).getD c default else vfG (fun x => [.i x]) lengths j c))]⟩ .nil kr (.cons (lookK_of eqS_ok (fit_str Try.underlying9) _ _) .nil) <| ath_n ?_
      refine Cv.trans (cv_ce (⟨[(2, tP 2 0), (6, .av (.one (.om 17))), (7, tI low), (8, tI high), (11, tI (FlenNet b (m.Nets.getD v21.toNat default))), (19, .av (.one (lst 1 (fun x => [.s x]) m.Nets))), (20, tI ((m.Nets.length : Int))), (21, tI v21)], [(2, .cells (TBoard.c b) 62), (17, .omap false 1 ((mput eqS lengths (m.Nets.getD v21.toNat default) (FlenNet b (m.Nets.getD v21.toNat default))).length) (kfG Value.string (mput eqS lengths (m.Nets.getD v21.toNat default) (FlenNet b (m.Nets.getD v21.toNat default)))) (vfG (fun x => [.i x]) (mput eqS lengths (m.Nets.getD v21.toNat default) (FlenNet b (m.Nets.getD v21.toNat default)))))]⟩) lr (.cons ⟨rfl, .refl _⟩ (.cons ⟨rfl, bke_mput (ck := Value.string) (cv := (fun x => [.i x])) (eq := eqS) lengths (m.Nets.getD v21.toNat default) (FlenNet b (m.Nets.getD v21.toNat default)) [.i (FlenNet b (m.Nets.getD v21.toNat default))] rfl⟩ .nil))) (cv_eq ?_)
      first | rfl | (simp only [h3, cond_true, cond_false] <;> rfl)
     ·refine aw_skip <| ath_n ?_
      refine Cv.trans (cv_keep [2, 6, 7, 8, 11, 19, 20, 21] [2, 17] (⟨[(2, tP 2 0), (6, .av (.one (.om 17))), (7, tI low), (8, tI high), (11, tI (bif mhas eqS lengths (m.Nets.getD v21.toNat default) then (lengths.getD (mfind eqS lengths (m.Nets.getD v21.toNat default)) default).2 else 0)), (19, .av (.one (lst 1 (fun x => [.s x]) m.Nets))), (20, tI ((m.Nets.length : Int))), (21, tI v21)], [(2, .cells (TBoard.c b) 62), (17, .omap false 1 lengths.length (kfG Value.string lengths) (vfG (fun x => [.i x]) lengths))]⟩) kr) (cv_eq ?_)
      first | rfl | (simp only [h3, cond_true, cond_false] <;> rfl)
    refine aw_region eqok [] [] [] [2, 6, 7, 8, 19, 20, 21] [2, 17] [] ⟨[(2, tP 2 0), (6, .av (.one (.om 17))), (7, tI (min low (bif !(Z0l lengths m v21) then (FlenNet b (m.Nets.getD v21.toNat default)) else (bif mhas eqS lengths (m.Nets.getD v21.toNat default) then (lengths.getD (mfind eqS lengths (m.Nets.getD v21.toNat default)) default).2 else 0)))), (8, tI (max high (bif !(Z0l lengths m v21) then (FlenNet b (m.Nets.getD v21.toNat default)) else (bif mhas eqS lengths (m.Nets.getD v21.toNat default) then (lengths.getD (mfind eqS lengths (m.Nets.getD v21.toNat default)) default).2 else 0)))), (19, .av (.one (lst 1 (fun x => [.s x]) m.Nets))), (20, tI ((m.Nets.length : Int))), (21, tI v21)], [(2, .cells (TBoard.c b) 62), (17, .omap false 1 ((bif !(Z0l lengths m v21) then (mput eqS lengths (m.Nets.getD v21.toNat default) (FlenNet b (m.Nets.getD v21.toNat default))) else lengths).length) (kfG Value.string (bif !(Z0l lengths m v21) then (mput eqS lengths (m.Nets.getD v21.toNat default) (FlenNet b (m.Nets.getD v21.toNat default))) else lengths)) (vfG (fun x => [.i x]) (bif !(Z0l lengths m v21) then (mput eqS lengths (m.Nets.getD v21.toNat default) (FlenNet b (m.Nets.getD v21.toNat default))) else lengths)))]⟩ .nil kr .nil <| abl_n <| ath_n ?_
    refine aw_region eqok [] [] [] [2, 6, 7, 8, 19, 20, 21] [2, 17] [] ⟨[(2, tP 2 0), (6, .av (.one (.om 17))), (7, tI (min low (bif !(Z0l lengths m v21) then (FlenNet b (m.Nets.getD v21.toNat default)) else (bif mhas eqS lengths (m.Nets.getD v21.toNat default) then (lengths.getD (mfind eqS lengths (m.Nets.getD v21.toNat default)) default).2 else 0)))), (8, tI (max high (bif !(Z0l lengths m v21) then (FlenNet b (m.Nets.getD v21.toNat default)) else (bif mhas eqS lengths (m.Nets.getD v21.toNat default) then (lengths.getD (mfind eqS lengths (m.Nets.getD v21.toNat default)) default).2 else 0)))), (19, .av (.one (lst 1 (fun x => [.s x]) m.Nets))), (20, tI ((m.Nets.length : Int))), (21, tI (W64 (v21 + 1)))], [(2, .cells (TBoard.c b) 62), (17, .omap false 1 ((bif !(Z0l lengths m v21) then (mput eqS lengths (m.Nets.getD v21.toNat default) (FlenNet b (m.Nets.getD v21.toNat default))) else lengths).length) (kfG Value.string (bif !(Z0l lengths m v21) then (mput eqS lengths (m.Nets.getD v21.toNat default) (FlenNet b (m.Nets.getD v21.toNat default))) else lengths)) (vfG (fun x => [.i x]) (bif !(Z0l lengths m v21) then (mput eqS lengths (m.Nets.getD v21.toNat default) (FlenNet b (m.Nets.getD v21.toNat default))) else lengths)))]⟩ .nil kr .nil ?_
    (try rw [(show W64 (v21 + 1) = v21 + 1 from W64_id (by omega) au10)])
    refine ath_n ?_
    refine ⟨(n0, bif !(Z0l lengths m v21) then (mput eqS lengths (m.Nets.getD v21.toNat default) (FlenNet b (m.Nets.getD v21.toNat default))) else lengths, min low (bif !(Z0l lengths m v21) then (FlenNet b (m.Nets.getD v21.toNat default)) else (bif mhas eqS lengths (m.Nets.getD v21.toNat default) then (lengths.getD (mfind eqS lengths (m.Nets.getD v21.toNat default)) default).2 else 0)), max high (bif !(Z0l lengths m v21) then (FlenNet b (m.Nets.getD v21.toNat default)) else (bif mhas eqS lengths (m.Nets.getD v21.toNat default) then (lengths.getD (mfind eqS lengths (m.Nets.getD v21.toNat default)) default).2 else 0)), v21 + 1), ⟨?_, ?_, (by rw [<- hF0]; simp only [FlenSpread_l0, h2, cond_true, cond_false])⟩, Nat.lt_succ_self _, cv_eq kr⟩
    ·show ((((m.Nets.length : Int))) - (v21 + 1)).toNat < n0; omega
    ·exact ⟨(by show 0 <= (v21 + 1); first | trivial | omega | exact at0 | exact at1 | exact at2 | (simp; omega) | simp), (by show ((v21 + 1) <= ((m.Nets.length : Int)) \/ (v21 + 1) = 0); first | trivial | omega | exact at0 | exact at1 | exact at2 | (simp; omega) | simp)⟩
   ·have g2 := of_decide_eq_false h2
    refine aw_exit <| ath_e ?_
    refine ath_e <| abl_hit ?_
    refine ath_n <| aw_seq ?_
    refine aw_region eqok [] [] [] [4, 5] [] [] ⟨[(4, tI (W64 (high - low))), (5, tB true)], []⟩ .nil kr .nil <| ath_n <| aw_ret ?_
    exact ⟨_, Cv.refl _, .inl rfl, .tup [.one (.i (W64 (high - low))), .one (.b true)], by kernel_rfl, tve_eq (by rw [<- hF0]; first | (simp only [FlenSpread_l0, h2, cond_true, cond_false] <;> rfl))⟩
theorem oklenSpread (b : TBoard) (m : TMatch) (hb0 : (b.Tracks.length : Int) <= 1000000) (hb1 : (∀ i, (((b.Tracks.getD i default).Shape.Edges.length : Int) <= 1000000))) (hm : (m.Nets.length : Int) <= 1000000) : CallOk Try.prog (clenSpread b m).1 (clenSpread b m).2.1 (clenSpread b m).2.2 := callOk_pure (fun _ _ => kr) fun _ => plenSpread b m hb0 hb1 hm
end
section
open Go.RowKit
def Flaw25line (x0 : TPoint) (x1 : TPoint) : TEdge := TEdge.mk 1 x0 x1 (TPoint.mk 0 0)
def claw25line (x0 : TPoint) (x1 : TPoint) : FuncId × List Av × Ef := (19, [.agg (TPoint.c x0), .agg (TPoint.c x1)], .val [] (.av (.agg (TEdge.c (Flaw25line x0 x1)))))
theorem plaw25line (x0 : TPoint) (x1 : TPoint) : Pure Try.prog 19 (claw25line x0 x1).2.1 (.av (.agg (TEdge.c (Flaw25line x0 x1)))) := by
 refine pure_of_awF Try.func19 rfl kr kr fun W0 M0 => ?_
 refine aw_seq ?_
 refine aw_region eqok [] [] [] [2, 3, 4] [2, 3, 4] [] ⟨[(2, tP 2 0), (3, tP 3 0), (4, tP 4 0)], [(2, .cells (TPoint.c x0) 31), (3, .cells (TPoint.c x1) 31), (4, .cells [.i 0, .i 0, .i 0, .i 0, .i 0, .i 0, .i 0] 33)]⟩ .nil kr .nil <| ath_n <| aw_seq ?_
 refine aw_region eqok [] [] [] [4] [4] [] ⟨[(4, tP 4 0)], [(4, .cells [.i 1, .i x0.X, .i x0.Y, .i x1.X, .i x1.Y, .i 0, .i 0] 33)]⟩ .nil kr .nil <| ath_n <| aw_ret ?_
 exact ⟨_, Cv.refl _, .inl rfl, .av (.agg [.i 1, .i x0.X, .i x0.Y, .i x1.X, .i x1.Y, .i 0, .i 0]), by kernel_rfl, tve_eq (by rfl)⟩
theorem oklaw25line (x0 : TPoint) (x1 : TPoint) : CallOk Try.prog (claw25line x0 x1).1 (claw25line x0 x1).2.1 (claw25line x0 x1).2.2 := callOk_pure (fun _ _ => kr) fun _ => plaw25line x0 x1
def Flaw25sanity_1 (x0 : Int) : TEdge := TEdge.mk 2 (TPoint.mk x0 0) (TPoint.mk 0 x0) (TPoint.mk 0 0)
def claw25sanity_1 (x0 : Int) : FuncId × List Av × Ef := (32, [.one (.i x0)], .val [] (.av (.agg (TEdge.c (Flaw25sanity_1 x0)))))
theorem plaw25sanity_1 (x0 : Int) : Pure Try.prog 32 (claw25sanity_1 x0).2.1 (.av (.agg (TEdge.c (Flaw25sanity_1 x0)))) := by
 refine pure_of_awF Try.func32 rfl kr kr fun W0 M0 => ?_
 refine aw_seq ?_
 refine aw_region eqok [] [] [] [0, 2] [2] [] ⟨[(0, tI x0), (2, tP 2 0)], [(2, .cells [.i 0, .i 0, .i 0, .i 0, .i 0, .i 0, .i 0] 33)]⟩ .nil kr .nil <| ath_n <| aw_seq ?_
 refine aw_region eqok [] [] [] [2] [2] [] ⟨[(2, tP 2 0)], [(2, .cells [.i 2, .i x0, .i 0, .i 0, .i x0, .i 0, .i 0] 33)]⟩ .nil kr .nil <| ath_n <| aw_ret ?_
 exact ⟨_, Cv.refl _, .inl rfl, .av (.agg [.i 2, .i x0, .i 0, .i 0, .i x0, .i 0, .i 0]), by kernel_rfl, tve_eq (by rfl)⟩
theorem oklaw25sanity_1 (x0 : Int) : CallOk Try.prog (claw25sanity_1 x0).1 (claw25sanity_1 x0).2.1 (claw25sanity_1 x0).2.2 := callOk_pure (fun _ _ => kr) fun _ => plaw25sanity_1 x0
theorem trk_ok {t u : TTrack} (ht : (t.Shape.Edges.length : Int) <= 1000000) (hu : (u.Shape.Edges.length : Int) <= 1000000) : ∀ i, ((([t, u].getD i default).Shape.Edges.length : Int) <= 1000000) := by
 intro i
 match i with
 | 0 => exact ht
 | 1 => exact hu
 | i + 2 => exact (by decide : ((0 : Nat) : Int) <= 1000000)
def Z0m : Bool := bif decide (((FlenSqrt 0) : Int) = 0) then decide (((FlenSqrt 15) : Int) = 3) else false
def Z0n : Bool := bif Z0m then decide (((FlenSqrt 16) : Int) = 4) else false
def Z0o : Bool := bif Z0n then decide (((FlenSqrt ((-4))) : Int) = 0) else false
def Z0p : TEdge := Flaw25line (TPoint.mk 0 0) (TPoint.mk 3 4)
def Z0q : Bool := decide (((FlenEdge Z0p) : Int) = 5)
def Z0r : Bool := bif Z0q then decide (((FlenEdge (Flaw25line (TPoint.mk 0 0) (TPoint.mk 1 1))) : Int) = 1) else false
def Z0s : Bool := bif Z0r then decide (((FlenEdge (Flaw25sanity_1 226)) : Int) = 355) else false
def Z0t : Bool := bif Z0s then decide (((FlenEdge (Flaw25sanity_1 1)) : Int) = 1) else false
def Z0u : TEdge := Flaw25line (TPoint.mk 3 4) (TPoint.mk 3 10)
def Z0v : (Nat -> Nat -> Cl) := colsC 7 2 [.i Z0p.Kind, .i Z0p.A.X, .i Z0p.A.Y, .i Z0p.B.X, .i Z0p.B.Y, .i Z0p.C.X, .i Z0p.C.Y, .i Z0u.Kind, .i Z0u.A.X, .i Z0u.A.Y, .i Z0u.B.X, .i Z0u.B.Y, .i Z0u.C.X, .i Z0u.C.Y]
def Z0w : Blk := .cells [.i 1, .list true 7 2 Z0v, .i 1] 36
def Z0x : (Nat -> Nat -> Cl) := colsC 7 1 [.i Z0p.Kind, .i Z0p.A.X, .i Z0p.A.Y, .i Z0p.B.X, .i Z0p.B.Y, .i Z0p.C.X, .i Z0p.C.Y]
def Z0y : (Nat -> Nat -> Cl) := colsC 6 2 [.i 1, .s (({ data := #[97] } : ByteArray)), .i 0, .i 1, .list true 7 2 Z0v, .i 1, .i 2, .s (({ data := #[97] } : ByteArray)), .i 0, .i 1, .list true 7 1 Z0x, .i 0]
abbrev vN : Cl := .val (.slice none 0 0)
def Z0z : Blk := .cells [.i 0, .i 0, vN, .i 0, vN, vN, .list true 6 2 Z0y, vN, vN, vN, vN, vN, vN, vN, vN] 62
def Z0A : Bool := bif Z0o then Z0t else false
def Z0B : Bool := bif Z0A then decide (((FlenShape (TShape.mk 1 [Z0p, Z0u] 1)) : Int) = 11) else false
def Z0C : Bool := bif Z0B then decide (((FlenNet (TBoard.mk 0 (TShape.mk 0 [] 0) [] [] [TTrack.mk 1 (({ data := #[97] } : ByteArray)) 0 (TShape.mk 1 [Z0p, Z0u] 1), TTrack.mk 2 (({ data := #[97] } : ByteArray)) 0 (TShape.mk 1 [Z0p] 0)] [] [] [] [] [] [] [] []) (({ data := #[97] } : ByteArray))) : Int) = 16) else false
def Z0D : Bool := bif Z0C then (FlenSpread (TBoard.mk 0 (TShape.mk 0 [] 0) [] [] [TTrack.mk 1 (({ data := #[97] } : ByteArray)) 0 (TShape.mk 1 [Z0p, Z0u] 1), TTrack.mk 2 (({ data := #[97] } : ByteArray)) 0 (TShape.mk 1 [Z0p] 0)] [] [] [] [] [] [] [] []) (TMatch.mk (⟨#[]⟩) [({ data := #[97] } : ByteArray), ({ data := #[98] } : ByteArray)] 0)).2 else false
def Z0E : Bool := bif Z0D then decide ((((FlenSpread (TBoard.mk 0 (TShape.mk 0 [] 0) [] [] [TTrack.mk 1 (({ data := #[97] } : ByteArray)) 0 (TShape.mk 1 [Z0p, Z0u] 1), TTrack.mk 2 (({ data := #[97] } : ByteArray)) 0 (TShape.mk 1 [Z0p] 0)] [] [] [] [] [] [] [] []) (TMatch.mk (⟨#[]⟩) [({ data := #[97] } : ByteArray), ({ data := #[98] } : ByteArray)] 0)).1) : Int) = 16) else false
def Fsanity25 : Bool := Z0E
def csanity25 : FuncId × List Av × Ef := (9, [], .val [] (.av (.one (.b Fsanity25))))
theorem au9 {p : Prop} (h : p := by first | (exact hb1 _) | (exact trk_ok (by decide) (by decide)) | with_reducible assumption | omega | decide | (simp only [List.length_cons, List.length_nil, List.length_append]; omega) | assumption) : p := h
theorem psanity25  : Pure Try.prog 9 (csanity25 ).2.1 (.av (.one (.b Fsanity25))) := by
 refine pure_of_awF Try.func9 rfl kr kr fun W0 M0 => ?_
 refine aw_seq ?_
 refine aw_region eqok [] [] [] [] [] [] ⟨[], []⟩ .nil kr .nil <| ath_n <| aw_seq ?_
 refine aw_region eqok [] [] [(11, clenSqrt 0), (14, clenSqrt 15), (18, clenSqrt 16), (22, clenSqrt ((-4)))] [1] [] [Same (clenSqrt 0).2.1, ((decide (((FlenSqrt 0) : Int) = 0)) = true) -> (Same (clenSqrt 15).2.1), ((decide (((FlenSqrt 0) : Int) = 0)) = true) -> ((decide (((FlenSqrt 0) : Int) = 0)) = true), (decide (((FlenSqrt 0) : Int) = 0)) = true -> ((decide (((FlenSqrt 0) : Int) = 0)) = true), ((Z0m) = true) -> (Same (clenSqrt 16).2.1), ((Z0m) = true) -> ((Z0m) = true), (Z0m) = true -> ((Z0m) = true), ((Z0n) = true) -> (Same (clenSqrt ((-4))).2.1), ((Z0n) = true) -> ((Z0n) = true), (Z0n) = true -> ((Z0n) = true)] ⟨[(1, tB Z0o)], []⟩ (.cons (oklenSqrt 0 au17) (.cons (oklenSqrt 15 au17) (.cons (oklenSqrt 16 au17) (.cons (oklenSqrt ((-4)) au17) .nil)))) kr (.cons rfl (.cons (fun _ => rfl) (.cons id (.cons id (.cons (fun _ => rfl) (.cons id (.cons id (.cons (fun _ => rfl) (.cons id (.cons id .nil)))))))))) <| ath_n <| aw_seq ?_
 refine aw_region eqok [] [] [] [1, 2, 3, 4] [2, 3, 4] [] ⟨[(1, tB Z0o), (2, tP 2 0), (3, tP 3 0), (4, tP 4 0)], [(2, .cells [.i 0, .i 0] 31), (3, .cells [.i 3, .i 4] 31), (4, .cells [.i 3, .i 10] 31)]⟩ .nil kr .nil <| ath_n <| aw_seq ?_
 refine aw_region eqok [] [] [] [1, 2, 3, 4, 5] [2, 3, 4] [] ⟨[(1, tB Z0o), (2, tP 2 0), (3, tP 3 0), (4, tP 4 0), (5, .av (.one (.clo 32 0 (fun _ => default))))], [(2, .cells [.i 0, .i 0] 31), (3, .cells [.i 3, .i 4] 31), (4, .cells [.i 3, .i 10] 31)]⟩ .nil kr .nil <| ath_n <| aw_seq ?_
 refine aw_region eqok [] [] [(30, claw25line (TPoint.mk 0 0) (TPoint.mk 3 4)), (31, clenEdge Z0p), (36, claw25line (TPoint.mk 0 0) (TPoint.mk 1 1)), (37, clenEdge (Flaw25line (TPoint.mk 0 0) (TPoint.mk 1 1))), (42, claw25sanity_1 226), (43, clenEdge (Flaw25sanity_1 226)), (48, claw25sanity_1 1), (49, clenEdge (Flaw25sanity_1 1))] [1, 2, 3, 4, 6] [2, 3, 4] [Same (claw25line (TPoint.mk 0 0) (TPoint.mk 3 4)).2.1, Same (clenEdge Z0p).2.1, ((Z0q) = true) -> ((Z0q) = true), ((Z0q) = true) -> ((Z0q) = true), ((Z0q) = true) -> (Same (claw25line (TPoint.mk 0 0) (TPoint.mk 1 1)).2.1), ((Z0q) = true) -> ((Z0q) = true), ((Z0q) = true) -> (Same (clenEdge (Flaw25line (TPoint.mk 0 0) (TPoint.mk 1 1))).2.1), ((Z0q) = true) -> ((Z0q) = true), (Z0q) = true -> ((Z0q) = true), ((Z0r) = true) -> ((Z0r) = true), ((Z0r) = true) -> (Same (claw25sanity_1 226).2.1), ((Z0r) = true) -> ((Z0r) = true), ((Z0r) = true) -> (Same (clenEdge (Flaw25sanity_1 226)).2.1), ((Z0r) = true) -> ((Z0r) = true), (Z0r) = true -> ((Z0r) = true), ((Z0s) = true) -> ((Z0s) = true), ((Z0s) = true) -> (Same (claw25sanity_1 1).2.1), ((Z0s) = true) -> ((Z0s) = true), ((Z0s) = true) -> (Same (clenEdge (Flaw25sanity_1 1)).2.1), ((Z0s) = true) -> ((Z0s) = true), (Z0s) = true -> ((Z0s) = true)] ⟨[(1, tB Z0o), (2, tP 2 0), (3, tP 3 0), (4, tP 4 0), (6, tB Z0t)], [(2, .cells [.i 0, .i 0] 31), (3, .cells [.i 3, .i 4] 31), (4, .cells [.i 3, .i 10] 31)]⟩ (.cons (oklaw25line (TPoint.mk 0 0) (TPoint.mk 3 4)) (.cons (oklenEdge Z0p) (.cons (oklaw25line (TPoint.mk 0 0) (TPoint.mk 1 1)) (.cons (oklenEdge (Flaw25line (TPoint.mk 0 0) (TPoint.mk 1 1))) (.cons (oklaw25sanity_1 226) (.cons (oklenEdge (Flaw25sanity_1 226)) (.cons (oklaw25sanity_1 1) (.cons (oklenEdge (Flaw25sanity_1 1)) .nil)))))))) kr (.cons rfl (.cons rfl (.cons id (.cons id (.cons (fun _ => rfl) (.cons id (.cons (fun _ => rfl) (.cons id (.cons id (.cons id (.cons (fun _ => rfl) (.cons id (.cons (fun _ => rfl) (.cons id (.cons id (.cons id (.cons (fun _ => rfl) (.cons id (.cons (fun _ => rfl) (.cons id (.cons id .nil))))))))))))))))))))) <| ath_n <| aw_seq ?_
 refine aw_draw mixed eqok [] [] [(54, claw25line (TPoint.mk 0 0) (TPoint.mk 3 4)), (57, claw25line (TPoint.mk 3 4) (TPoint.mk 3 10))] [1, 2, 3, 6, 7] [2, 3, 7] [Same (claw25line (TPoint.mk 0 0) (TPoint.mk 3 4)).2.1, Same (claw25line (TPoint.mk 3 4) (TPoint.mk 3 10)).2.1] ⟨[(1, tB Z0o), (2, tP 2 0), (3, tP 3 0), (6, tB Z0t), (7, tP 7 0)], [(2, .cells [.i 0, .i 0] 31), (3, .cells [.i 3, .i 4] 31), (7, Z0w)]⟩ (.cons (oklaw25line (TPoint.mk 0 0) (TPoint.mk 3 4)) (.cons (oklaw25line (TPoint.mk 3 4) (TPoint.mk 3 10)) .nil)) kr kr (.cons rfl (.cons rfl .nil)) <| ath_n <| aw_seq ?_
 refine aw_draw mixed eqok [] [] [(64, claw25line (TPoint.mk 0 0) (TPoint.mk 3 4))] [1, 6, 7, 8] [7, 8] [Same (claw25line (TPoint.mk 0 0) (TPoint.mk 3 4)).2.1] ⟨[(1, tB Z0o), (6, tB Z0t), (7, tP 7 0), (8, tP 8 0)], [(7, Z0w), (8, Z0z)]⟩ (.cons (oklaw25line (TPoint.mk 0 0) (TPoint.mk 3 4)) .nil) kr kr (.cons rfl .nil) <| ath_n <| aw_seq ?_
 refine aw_region eqok [] [] [(74, ceI [.agg [.i 0, .i 0, vN, .i 0, vN, vN, .list true 6 2 Z0y, vN, vN, vN, vN, vN, vN, vN, vN], .agg [.s (⟨#[]⟩), .list true 1 2 (colsC 1 2 [.s (({ data := #[97] } : ByteArray)), .s (({ data := #[98] } : ByteArray))]), .i 0]] (clenSpread (TBoard.mk 0 (TShape.mk 0 [] 0) [] [] [TTrack.mk 1 (({ data := #[97] } : ByteArray)) 0 (TShape.mk 1 [Z0p, Z0u] 1), TTrack.mk 2 (({ data := #[97] } : ByteArray)) 0 (TShape.mk 1 [Z0p] 0)] [] [] [] [] [] [] [] []) (TMatch.mk (⟨#[]⟩) [({ data := #[97] } : ByteArray), ({ data := #[98] } : ByteArray)] 0)))] [1, 6, 7, 8, 9, 10] [7, 8] [Same (ceI [.agg [.i 0, .i 0, vN, .i 0, vN, vN, .list true 6 2 Z0y, vN, vN, vN, vN, vN, vN, vN, vN], .agg [.s (⟨#[]⟩), .list true 1 2 (colsC 1 2 [.s (({ data := #[97] } : ByteArray)), .s (({ data := #[98] } : ByteArray))]), .i 0]] (clenSpread (TBoard.mk 0 (TShape.mk 0 [] 0) [] [] [TTrack.mk 1 (({ data := #[97] } : ByteArray)) 0 (TShape.mk 1 [Z0p, Z0u] 1), TTrack.mk 2 (({ data := #[97] } : ByteArray)) 0 (TShape.mk 1 [Z0p] 0)] [] [] [] [] [] [] [] []) (TMatch.mk (⟨#[]⟩) [({ data := #[97] } : ByteArray), ({ data := #[98] } : ByteArray)] 0))).2.1] ⟨[(1, tB Z0o), (6, tB Z0t), (7, tP 7 0), (8, tP 8 0), (9, tI ((FlenSpread (TBoard.mk 0 (TShape.mk 0 [] 0) [] [] [TTrack.mk 1 (({ data := #[97] } : ByteArray)) 0 (TShape.mk 1 [Z0p, Z0u] 1), TTrack.mk 2 (({ data := #[97] } : ByteArray)) 0 (TShape.mk 1 [Z0p] 0)] [] [] [] [] [] [] [] []) (TMatch.mk (⟨#[]⟩) [({ data := #[97] } : ByteArray), ({ data := #[98] } : ByteArray)] 0)).1)), (10, tB ((FlenSpread (TBoard.mk 0 (TShape.mk 0 [] 0) [] [] [TTrack.mk 1 (({ data := #[97] } : ByteArray)) 0 (TShape.mk 1 [Z0p, Z0u] 1), TTrack.mk 2 (({ data := #[97] } : ByteArray)) 0 (TShape.mk 1 [Z0p] 0)] [] [] [] [] [] [] [] []) (TMatch.mk (⟨#[]⟩) [({ data := #[97] } : ByteArray), ({ data := #[98] } : ByteArray)] 0)).2))], [(7, Z0w), (8, Z0z)]⟩ (.cons (callOk_ce (oklenSpread (TBoard.mk 0 (TShape.mk 0 [] 0) [] [] [TTrack.mk 1 (({ data := #[97] } : ByteArray)) 0 (TShape.mk 1 [Z0p, Z0u] 1), TTrack.mk 2 (({ data := #[97] } : ByteArray)) 0 (TShape.mk 1 [Z0p] 0)] [] [] [] [] [] [] [] []) (TMatch.mk (⟨#[]⟩) [({ data := #[97] } : ByteArray), ({ data := #[98] } : ByteArray)] 0) au9 au9 au9) (.cons (.agg (.cons (.refl _) (.cons (.refl _) (.cons (cle_nil 7 TEdge.c) (.cons (.refl _) (.cons (cle_nil 7 TPlaced.c) (.cons (cle_nil 2 TNet.c) (.cons (cle_told true (told_litE (c := TTrack.c) (xs := ([TTrack.mk 1 (({ data := #[97] } : ByteArray)) 0 (TShape.mk 1 [Z0p, Z0u] 1), TTrack.mk 2 (({ data := #[97] } : ByteArray)) 0 (TShape.mk 1 [Z0p] 0)] : List TTrack)) (y := [[.i 1, .s (({ data := #[97] } : ByteArray)), .i 0, .i 1, .list true 7 2 Z0v, .i 1], [.i 2, .s (({ data := #[97] } : ByteArray)), .i 0, .i 1, .list true 7 1 Z0x, .i 0]]) (z := [[.i 1, .s (({ data := #[97] } : ByteArray)), .i 0, .i 1, lst 7 TEdge.c [Z0p, Z0u], .i 1], [.i 2, .s (({ data := #[97] } : ByteArray)), .i 0, .i 1, lst 7 TEdge.c [Z0p], .i 0]]) rfl kr kr (.cons (.cons (.refl _) (.cons (.refl _) (.cons (.refl _) (.cons (.refl _) (.cons (cle_told true (told_lit (c := TEdge.c) (xs := ([Z0p, Z0u] : List TEdge)) rfl kr)) (.cons (.refl _) .nil)))))) (.cons (.cons (.refl _) (.cons (.refl _) (.cons (.refl _) (.cons (.refl _) (.cons (cle_told true (told_lit (c := TEdge.c) (xs := ([Z0p] : List TEdge)) rfl kr)) (.cons (.refl _) .nil)))))) .nil)))) (.cons (cle_nil 8 TVia.c) (.cons (cle_nil 8 TPour.c) (.cons (cle_nil 5 TKeep.c) (.cons (cle_nil 4 TSlot.c) (.cons (cle_nil 2 TClass.c) (.cons (cle_nil 20 TRule.c) (.cons (cle_nil 3 TWaiver.c) (.cons (cle_nil 3 TMatch.c) .nil)))))))))))))))) (.cons (.agg (.cons (.refl _) (.cons (cle_told true (told_lit (c := (fun x => [.s x])) (xs := ([({ data := #[97] } : ByteArray), ({ data := #[98] } : ByteArray)] : List ByteArray)) rfl kr)) (.cons (.refl _) .nil)))) .nil))) .nil) kr (.cons rfl .nil) <| ath_n <| aw_seq ?_
 refine aw_region eqok [] [] [(83, ceI [.agg [.i 1, .list true 7 2 Z0v, .i 1]] (clenShape (TShape.mk 1 [Z0p, Z0u] 1))), (88, ceI [.agg [.i 0, .i 0, vN, .i 0, vN, vN, .list true 6 2 Z0y, vN, vN, vN, vN, vN, vN, vN, vN], .one (.s (({ data := #[97] } : ByteArray)))] (clenNet (TBoard.mk 0 (TShape.mk 0 [] 0) [] [] [TTrack.mk 1 (({ data := #[97] } : ByteArray)) 0 (TShape.mk 1 [Z0p, Z0u] 1), TTrack.mk 2 (({ data := #[97] } : ByteArray)) 0 (TShape.mk 1 [Z0p] 0)] [] [] [] [] [] [] [] []) (({ data := #[97] } : ByteArray))))] [0] [] [(Z0o) = true -> ((Z0o) = true), ((Z0A) = true) -> ((Z0A) = true), ((Z0A) = true) -> (Same (ceI [.agg [.i 1, .list true 7 2 Z0v, .i 1]] (clenShape (TShape.mk 1 [Z0p, Z0u] 1))).2.1), ((Z0A) = true) -> ((Z0A) = true), (Z0A) = true -> ((Z0A) = true), ((Z0B) = true) -> ((Z0B) = true), ((Z0B) = true) -> (Same (ceI [.agg [.i 0, .i 0, vN, .i 0, vN, vN, .list true 6 2 Z0y, vN, vN, vN, vN, vN, vN, vN, vN], .one (.s (({ data := #[97] } : ByteArray)))] (clenNet (TBoard.mk 0 (TShape.mk 0 [] 0) [] [] [TTrack.mk 1 (({ data := #[97] } : ByteArray)) 0 (TShape.mk 1 [Z0p, Z0u] 1), TTrack.mk 2 (({ data := #[97] } : ByteArray)) 0 (TShape.mk 1 [Z0p] 0)] [] [] [] [] [] [] [] []) (({ data := #[97] } : ByteArray)))).2.1), ((Z0B) = true) -> ((Z0B) = true), (Z0B) = true -> ((Z0B) = true), (Z0C) = true -> ((Z0C) = true), ((Z0D) = true) -> ((Z0D) = true), (Z0D) = true -> ((Z0D) = true)] ⟨[(0, tB Z0E)], []⟩ (.cons (callOk_ce (oklenShape (TShape.mk 1 [Z0p, Z0u] 1) au9) (.cons (.agg (.cons (.refl _) (.cons (cle_told true (told_lit (c := TEdge.c) (xs := ([Z0p, Z0u] : List TEdge)) rfl kr)) (.cons (.refl _) .nil)))) .nil)) (.cons (callOk_ce (oklenNet (TBoard.mk 0 (TShape.mk 0 [] 0) [] [] [TTrack.mk 1 (({ data := #[97] } : ByteArray)) 0 (TShape.mk 1 [Z0p, Z0u] 1), TTrack.mk 2 (({ data := #[97] } : ByteArray)) 0 (TShape.mk 1 [Z0p] 0)] [] [] [] [] [] [] [] []) (({ data := #[97] } : ByteArray)) au9 au9) (.cons (.agg (.cons (.refl _) (.cons (.refl _) (.cons (cle_nil 7 TEdge.c) (.cons (.refl _) (.cons (cle_nil 7 TPlaced.c) (.cons (cle_nil 2 TNet.c) (.cons (cle_told true (told_litE (c := TTrack.c) (xs := ([TTrack.mk 1 (({ data := #[97] } : ByteArray)) 0 (TShape.mk 1 [Z0p, Z0u] 1), TTrack.mk 2 (({ data := #[97] } : ByteArray)) 0 (TShape.mk 1 [Z0p] 0)] : List TTrack)) (y := [[.i 1, .s (({ data := #[97] } : ByteArray)), .i 0, .i 1, .list true 7 2 Z0v, .i 1], [.i 2, .s (({ data := #[97] } : ByteArray)), .i 0, .i 1, .list true 7 1 Z0x, .i 0]]) (z := [[.i 1, .s (({ data := #[97] } : ByteArray)), .i 0, .i 1, lst 7 TEdge.c [Z0p, Z0u], .i 1], [.i 2, .s (({ data := #[97] } : ByteArray)), .i 0, .i 1, lst 7 TEdge.c [Z0p], .i 0]]) rfl kr kr (.cons (.cons (.refl _) (.cons (.refl _) (.cons (.refl _) (.cons (.refl _) (.cons (cle_told true (told_lit (c := TEdge.c) (xs := ([Z0p, Z0u] : List TEdge)) rfl kr)) (.cons (.refl _) .nil)))))) (.cons (.cons (.refl _) (.cons (.refl _) (.cons (.refl _) (.cons (.refl _) (.cons (cle_told true (told_lit (c := TEdge.c) (xs := ([Z0p] : List TEdge)) rfl kr)) (.cons (.refl _) .nil)))))) .nil)))) (.cons (cle_nil 8 TVia.c) (.cons (cle_nil 8 TPour.c) (.cons (cle_nil 5 TKeep.c) (.cons (cle_nil 4 TSlot.c) (.cons (cle_nil 2 TClass.c) (.cons (cle_nil 20 TRule.c) (.cons (cle_nil 3 TWaiver.c) (.cons (cle_nil 3 TMatch.c) .nil)))))))))))))))) (.cons (AvE.refl _) .nil))) .nil)) kr (.cons id (.cons id (.cons (fun _ => rfl) (.cons id (.cons id (.cons id (.cons (fun _ => rfl) (.cons id (.cons id (.cons id (.cons id (.cons id .nil)))))))))))) <| ath_n <| aw_ret ?_
 exact ⟨_, Cv.refl _, .inl rfl, .av (.one (.b Z0E)), by kernel_rfl, tve_eq (by rfl)⟩
theorem oksanity25  : CallOk Try.prog (csanity25 ).1 (csanity25 ).2.1 (csanity25 ).2.2 := callOk_pure (fun _ _ => kr) fun _ => psanity25
end
end Go.Proofs.Ytgmhnkoifdpemaa
