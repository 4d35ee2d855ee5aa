/-
  No statement is proved in this text. It holds a part of what the proof of PlaceRaw needs.
-/
import Derived.Test.YtdbampcfmjbgmaaPlaceRawQb
namespace Go.Proofs.Ytdbampcfmjbgmaa
set_option maxRecDepth 100000
set_option linter.unusedVariables false
set_option linter.unusedSimpArgs false
section
open Go.RowKit
theorem UF : Try.prog.follows .mixedOrders = true := by kernel_rfl
structure AE where
 X : Int
 Y : Int
 deriving Inhabited
def AE.c (x : AE) : List Cl := [.i x.X, .i x.Y]
structure AO where
 At : AE
 Turn : Int
 Mirror : Bool
 deriving Inhabited
def AO.c (x : AO) : List Cl := [.i x.At.X, .i x.At.Y, .i x.Turn, .b x.Mirror]
structure AH where
 Kind : Int
 A : AE
 B : AE
 C : AE
 deriving Inhabited
def AH.c (x : AH) : List Cl := [.i x.Kind, .i x.A.X, .i x.A.Y, .i x.B.X, .i x.B.Y, .i x.C.X, .i x.C.Y]
structure An where
 X0 : Int
 Y0 : Int
 X1 : Int
 Y1 : Int
 deriving Inhabited
def An.c (x : An) : List Cl := [.i x.X0, .i x.Y0, .i x.X1, .i x.Y1]
structure AB where
 L : (List Int)
 At : Int
 deriving Inhabited
def AB.c (x : AB) : List Cl := [lst 1 (fun x => [.i x]) x.L, .i x.At]
structure OpL where
 len : Nat
 f : Nat -> Nat -> Cl
 deriving Inhabited
abbrev opL (x : OpL) : Cl := .list false 8 x.len x.f
structure AR where
 Ref : ByteArray
 Pad : ByteArray
 deriving Inhabited
def AR.c (x : AR) : List Cl := [.s x.Ref, .s x.Pad]
structure Ad where
 Name : ByteArray
 Pins : (List AR)
 deriving Inhabited
def Ad.c (x : Ad) : List Cl := [.s x.Name, lst 2 AR.c x.Pins]
structure AD where
 Id : Int
 Ref : ByteArray
 Type' : ByteArray
 At : AE
 Turn : Int
 Under : Bool
 deriving Inhabited
def AD.c (x : AD) : List Cl := [.i x.Id, .s x.Ref, .s x.Type', .i x.At.X, .i x.At.Y, .i x.Turn, .b x.Under]
structure AQ where
 Kind : Int
 Edges : (List AH)
 R : Int
 deriving Inhabited
def AQ.c (x : AQ) : List Cl := [.i x.Kind, lst 7 AH.c x.Edges, .i x.R]
structure Ap where
 Name : ByteArray
 Shape : AQ
 At : AE
 Drill : Int
 deriving Inhabited
def Ap.c (x : Ap) : List Cl := [.s x.Name, .i x.Shape.Kind, lst 7 AH.c x.Shape.Edges, .i x.Shape.R, .i x.At.X, .i x.At.Y, .i x.Drill]
structure BT where
 Pad : ByteArray
 Group : Int
 deriving Inhabited
def BT.c (x : BT) : List Cl := [.s x.Pad, .i x.Group]
structure As where
 Kind : Int
 Legs : (List BT)
 deriving Inhabited
def As.c (x : As) : List Cl := [.i x.Kind, lst 2 BT.c x.Legs]
structure AG where
 Name : ByteArray
 Pads : (List Ap)
 Gates : (List As)
 deriving Inhabited
def AG.c (x : AG) : List Cl := [.s x.Name, lst 7 Ap.c x.Pads, lst 2 As.c x.Gates]
structure Am where
 Id : Int
 Net : ByteArray
 Layer : Int
 Shape : AQ
 deriving Inhabited
def Am.c (x : Am) : List Cl := [.i x.Id, .s x.Net, .i x.Layer, .i x.Shape.Kind, lst 7 AH.c x.Shape.Edges, .i x.Shape.R]
structure BS where
 Id : Int
 Net : ByteArray
 At : AE
 R : Int
 Drill : Int
 From : Int
 To : Int
 deriving Inhabited
def BS.c (x : BS) : List Cl := [.i x.Id, .s x.Net, .i x.At.X, .i x.At.Y, .i x.R, .i x.Drill, .i x.From, .i x.To]
structure A5 where
 Id : Int
 Net : ByteArray
 Layer : Int
 Pitch : Int
 Priority : Int
 Relief : Int
 Spoke : Int
 Rects : (List An)
 deriving Inhabited
def A5.c (x : A5) : List Cl := [.i x.Id, .s x.Net, .i x.Layer, .i x.Pitch, .i x.Priority, .i x.Relief, .i x.Spoke, lst 4 An.c x.Rects]
structure BG where
 Id : Int
 Layer : Int
 Shape : AQ
 deriving Inhabited
def BG.c (x : BG) : List Cl := [.i x.Id, .i x.Layer, .i x.Shape.Kind, lst 7 AH.c x.Shape.Edges, .i x.Shape.R]
structure BW where
 Id : Int
 Shape : AQ
 deriving Inhabited
def BW.c (x : BW) : List Cl := [.i x.Id, .i x.Shape.Kind, lst 7 AH.c x.Shape.Edges, .i x.Shape.R]
structure Bj where
 Name : ByteArray
 Nets : (List ByteArray)
 deriving Inhabited
def Bj.c (x : Bj) : List Cl := [.s x.Name, lst 1 (fun x => [.s x]) x.Nets]
structure Dt where
 Op : Int
 Text : ByteArray
 N : Int
 Box : An
 L : OpL
 deriving Inhabited
def Dt.c (x : Dt) : List Cl := [.i x.Op, .s x.Text, .i x.N, .i x.Box.X0, .i x.Box.Y0, .i x.Box.X1, .i x.Box.Y1, opL x.L]
structure A4 where
 Name : ByteArray
 Priority : Int
 What : Int
 A : Dt
 B : Dt
 Value : Int
 deriving Inhabited
def A4.c (x : A4) : List Cl := [.s x.Name, .i x.Priority, .i x.What, .i x.A.Op, .s x.A.Text, .i x.A.N, .i x.A.Box.X0, .i x.A.Box.Y0, .i x.A.Box.X1, .i x.A.Box.Y1, opL x.A.L, .i x.B.Op, .s x.B.Text, .i x.B.N, .i x.B.Box.X0, .i x.B.Box.Y0, .i x.B.Box.X1, .i x.B.Box.Y1, opL x.B.L, .i x.Value]
structure Bf where
 A : Int
 B : Int
 Rule : ByteArray
 deriving Inhabited
def Bf.c (x : Bf) : List Cl := [.i x.A, .i x.B, .s x.Rule]
structure CE where
 Name : ByteArray
 Nets : (List ByteArray)
 Within : Int
 deriving Inhabited
def CE.c (x : CE) : List Cl := [.s x.Name, lst 1 (fun x => [.s x]) x.Nets, .i x.Within]
structure AF where
 Layers : Int
 Outline : AQ
 Parts : (List AD)
 Nets : (List Ad)
 Tracks : (List Am)
 Vias : (List BS)
 Pours : (List A5)
 Keeps : (List BG)
 Slots : (List BW)
 Classes : (List Bj)
 Rules : (List A4)
 Waivers : (List Bf)
 Matches : (List CE)
 deriving Inhabited
def AF.c (x : AF) : List Cl := [.i x.Layers, .i x.Outline.Kind, lst 7 AH.c x.Outline.Edges, .i x.Outline.R, lst 7 AD.c x.Parts, lst 2 Ad.c x.Nets, lst 6 Am.c x.Tracks, lst 8 BS.c x.Vias, lst 8 A5.c x.Pours, lst 5 BG.c x.Keeps, lst 4 BW.c x.Slots, lst 2 Bj.c x.Classes, lst 20 A4.c x.Rules, lst 3 Bf.c x.Waivers, lst 3 CE.c x.Matches]
structure Ar where
 Id : Int
 Pad : ByteArray
 Kind : Int
 Net : ByteArray
 From : Int
 To : Int
 Shape : AQ
 deriving Inhabited
def Ar.c (x : Ar) : List Cl := [.i x.Id, .s x.Pad, .i x.Kind, .s x.Net, .i x.From, .i x.To, .i x.Shape.Kind, lst 7 AH.c x.Shape.Edges, .i x.Shape.R]
structure UH where
 deriving Inhabited
def UH.c (x : UH) : List Cl := []
def eqE : TypeId -> Option (List Kd) := fun T => get [(25, [.str, .str]), (52, [.int .i64, .int .i64]), (66, [.int .i64, .int .i64, .int .i64, .bool]), (76, [.int .i64, .int .i64, .int .i64, .int .i64]), (133, [.int .i64, .int .i64, .int .i64, .int .i64, .int .i64, .int .i64, .int .i64])] T
theorem Dz : HZ Try.prog ⟨fun _ => none, eqE, fun _ => false, fun _ => none⟩ := by
 intro T ks h
 have hm : (T, ks) ∈ _ := DU h
 simp only [List.mem_cons, Prod.mk.injEq, List.not_mem_nil, or_false] at hm
 rcases hm with ⟨rfl, rfl⟩ | ⟨rfl, rfl⟩ | ⟨rfl, rfl⟩ | ⟨rfl, rfl⟩ | ⟨rfl, rfl⟩
 all_goals exact ⟨by kernel_rfl, by kernel_rfl, _, rfl, rfl⟩
theorem rg {rd : Option Nat} {N : Nat} {W0 : World} {X : Nat → Option Loc} {M0 : Nat → Option Obj} {Q : Exit → AS → Prop} {s : AS} {id : Nat} {l : List Oper} (S : AS) (h : Q .normal S) (hr : Mw Try.prog ⟨Gr [], eqE, Bc [], get []⟩ N l (S.t.map Prod.fst) (S.h.map Prod.fst) s = some ([], S) := by kernel_rfl) : AWp Try.prog rd N W0 X M0 (.region id l.toArray false) Q s := Da Dz [] [] [] _ _ [] S .nil hr .nil h
theorem rn {rd : Option Nat} {N : Nat} {W0 : World} {X : Nat → Option Loc} {M0 : Nat → Option Obj} {K : AS → Prop} {Q : Exit → AS → Prop} {s : AS} {id : Nat} {l : List Oper} (S : AS) (h : K S) (hr : Mw Try.prog ⟨Gr [], eqE, Bc [], get []⟩ N l (S.t.map Prod.fst) (S.h.map Prod.fst) s = some ([], S) := by kernel_rfl) : AWp Try.prog rd N W0 X M0 (.region id l.toArray false) (ATh K Q) s := rg S (AJ h) hr
theorem rc {rd : Option Nat} {N : Nat} {W0 : World} {X : Nat → Option Loc} {M0 : Nat → Option Obj} {Q : Exit → AS → Prop} {s : AS} {id : Nat} {l : List Oper} (tbl : List (Nat × FuncId × List Av × Ef)) (cs : List Prop) (S : AS) (htbl : GM Try.prog tbl) (hc : CA cs) (h : Q .normal S) (hr : Mw Try.prog ⟨Gr tbl, eqE, Bc [], get []⟩ N l (S.t.map Prod.fst) (S.h.map Prod.fst) s = some (cs, S) := by kernel_rfl) : AWp Try.prog rd N W0 X M0 (.region id l.toArray false) Q s := Da Dz [] [] tbl _ _ cs S htbl hr hc h
abbrev tO (c : Cl) : Tv := .av (.one c)
abbrev gD (l : List Cl) : Nat → Nat → Cl := fun _ j_ => l.getD j_ default
theorem rr {a : Cl} {x y : List Cl} (h : L2 ClE x y) : L2 ClE (a :: x) (a :: y) := .cons (.refl _) h
theorem oT {p : Prop} [Decidable p] (h : decide p = true) : p := of_decide_eq_true h
theorem oF {p : Prop} [Decidable p] (h : decide p = false) : ¬ p := of_decide_eq_false h
theorem dw {rd : Option Nat} {N : Nat} {W0 : World} {X : Nat → Option Loc} {M0 : Nat → Option Obj} {Q : Exit → AS → Prop} {s : AS} {id : Nat} {l : List Oper} (ow : List Nat) (tbl : List (Nat × FuncId × List Av × Ef)) (cs : List Prop) (S : AS) (htbl : GM Try.prog tbl) (hc : CA cs) (h : Q .normal S) (hr : Mw Try.prog ⟨Gr tbl, eqE, Bc ow, get []⟩ N l (S.t.map Prod.fst) (S.h.map Prod.fst) s = some (cs, S) := by kernel_rfl) (hd : P0 Try.prog ⟨Gr tbl, eqE, Bc ow, get []⟩ N l s = true := by kernel_rfl) : AWp Try.prog rd N W0 X M0 (.region id l.toArray true) Q s := P3 UF Dz ow [] tbl _ _ cs S htbl hr hd hc h
def BQ (x0 : AE) : Bool := bif decide (((max x0.X x0.Y) : Int) <= 67108864) then decide ((((-67108864)) : Int) <= (min x0.X x0.Y)) else false
def Bh (x0 : AE) : FuncId × List Av × Ef := (90, [.agg (AE.c x0)], .val [] (.av (.one (.b (BQ x0)))))
theorem kr {p : Prop} (h : p := by kernel_rfl) : p := h
theorem QD (x0 : AE) : Bo Try.prog 90 (Bh x0).2.1 (tO (.b (BQ x0))) := by
 refine AX Try.func90 rfl kr kr fun W0 M0 => ?_
 refine AC <| rn ⟨[(1, tP 1 0)], [(1, .cells (AE.c x0) 52)]⟩ <| AC ?_
 refine rc [] [((decide (((max x0.X x0.Y) : Int) <= 67108864)) = true) -> ((decide (((max x0.X x0.Y) : Int) <= 67108864)) = true), ((decide (((max x0.X x0.Y) : Int) <= 67108864)) = true) -> ((decide (((max x0.X x0.Y) : Int) <= 67108864)) = true), ((decide (((max x0.X x0.Y) : Int) <= 67108864)) = true) -> ((decide (((max x0.X x0.Y) : Int) <= 67108864)) = true), ((decide (((max x0.X x0.Y) : Int) <= 67108864)) = true) -> ((decide (((max x0.X x0.Y) : Int) <= 67108864)) = true), ((decide (((max x0.X x0.Y) : Int) <= 67108864)) = true) -> ((decide (((max x0.X x0.Y) : Int) <= 67108864)) = true), (decide (((max x0.X x0.Y) : Int) <= 67108864)) = true -> ((decide (((max x0.X x0.Y) : Int) <= 67108864)) = true)] ⟨[(2, tB (bif decide (((max x0.X x0.Y) : Int) <= 67108864) then decide ((((-67108864)) : Int) <= (min x0.X x0.Y)) else false))], []⟩ .nil (.cons id (.cons id (.cons id (.cons id (.cons id (.cons id .nil)))))) <| AJ <| Aj ?_
 exact ⟨_, Cv.refl _, .inl rfl, tO (.b (bif decide (((max x0.X x0.Y) : Int) <= 67108864) then decide ((((-67108864)) : Int) <= (min x0.X x0.Y)) else false)), by kernel_rfl, Ao (by rfl)⟩
theorem Ci (x0 : AE) : A1 Try.prog (Bh x0).1 (Bh x0).2.1 (Bh x0).2.2 := Aa (fun _ _ => by kernel_rfl) fun _ => QD x0
def Ay (x0 : AE) (x1 : AE) : AE := AE.mk (W64 (x0.X - x1.X)) (W64 (x0.Y - x1.Y))
def Fk (x0 : AE) (x1 : AE) : FuncId × List Av × Ef := (110, [.agg (AE.c x0), .agg (AE.c x1)], .val [] (.av (.agg (AE.c (Ay x0 x1)))))
theorem S6 (x0 : AE) (x1 : AE) : Bo Try.prog 110 (Fk x0 x1).2.1 (.av (.agg (AE.c (Ay x0 x1)))) := by
 refine AX Try.func110 rfl kr kr fun W0 M0 => ?_
 refine AC <| rn ⟨[(2, tP 2 0), (3, tP 3 0), (4, tP 4 0)], [(2, .cells (AE.c x0) 52), (3, .cells (AE.c x1) 52), (4, .cells [.i 0, .i 0] 52)]⟩ <| AC ?_
 refine rn ⟨[(4, tP 4 0)], [(4, .cells [.i (W64 (x0.X - x1.X)), .i (W64 (x0.Y - x1.Y))] 52)]⟩ <| Aj ?_
 exact ⟨_, Cv.refl _, .inl rfl, .av (.agg [.i (W64 (x0.X - x1.X)), .i (W64 (x0.Y - x1.Y))]), by kernel_rfl, Ao (by rfl)⟩
theorem NC (x0 : AE) (x1 : AE) : A1 Try.prog (Fk x0 x1).1 (Fk x0 x1).2.1 (Fk x0 x1).2.2 := Aa (fun _ _ => by kernel_rfl) fun _ => S6 x0 x1
def FG (x0 : AE) (x1 : AE) : AE := AE.mk (W64 (x0.X + x1.X)) (W64 (x0.Y + x1.Y))
def HJ (x0 : AE) (x1 : AE) : FuncId × List Av × Ef := (65, [.agg (AE.c x0), .agg (AE.c x1)], .val [] (.av (.agg (AE.c (FG x0 x1)))))
theorem S7 (x0 : AE) (x1 : AE) : Bo Try.prog 65 (HJ x0 x1).2.1 (.av (.agg (AE.c (FG x0 x1)))) := by
 refine AX Try.func65 rfl kr kr fun W0 M0 => ?_
 refine AC <| rn ⟨[(2, tP 2 0), (3, tP 3 0), (4, tP 4 0)], [(2, .cells (AE.c x0) 52), (3, .cells (AE.c x1) 52), (4, .cells [.i 0, .i 0] 52)]⟩ <| AC ?_
 refine rn ⟨[(4, tP 4 0)], [(4, .cells [.i (W64 (x0.X + x1.X)), .i (W64 (x0.Y + x1.Y))] 52)]⟩ <| Aj ?_
 exact ⟨_, Cv.refl _, .inl rfl, .av (.agg [.i (W64 (x0.X + x1.X)), .i (W64 (x0.Y + x1.Y))]), by kernel_rfl, Ao (by rfl)⟩
theorem Rc (x0 : AE) (x1 : AE) : A1 Try.prog (HJ x0 x1).1 (HJ x0 x1).2.1 (HJ x0 x1).2.2 := Aa (fun _ _ => by kernel_rfl) fun _ => S7 x0 x1
def CB (m : AO) : Int := A64 m.Turn 3
def FK (m : AO) : FuncId × List Av × Ef := (64, [.agg (AO.c m)], .val [] (.av (.one (.i (CB m)))))
theorem QC (m : AO) : Bo Try.prog 64 (FK m).2.1 (tO (.i (CB m))) := by
 refine AX Try.func64 rfl kr kr fun W0 M0 => ?_
 refine AC <| rn ⟨[(1, tP 1 0)], [(1, .cells (AO.c m) 66)]⟩ <| AC ?_
 refine rn ⟨[(2, tI (A64 m.Turn 3))], []⟩ <| Aj ?_
 exact ⟨_, Cv.refl _, .inl rfl, tO (.i (A64 m.Turn 3)), by kernel_rfl, Ao (by rfl)⟩
theorem Oe (m : AO) : A1 Try.prog (FK m).1 (FK m).2.1 (FK m).2.2 := Aa (fun _ _ => by kernel_rfl) fun _ => QC m
theorem A64_3 (t : Int) : 0 <= A64 t 3 /\ A64 t 3 <= 3 := by
 unfold A64
 rw [IntKind.wrap_i64]
 have h : ((BitVec.ofInt 64 t &&& BitVec.ofInt 64 3).toNat) <= 3 := by
  rw [BitVec.toNat_and]
  exact Nat.le_trans Nat.and_le_right (by decide)
 generalize (BitVec.ofInt 64 t &&& BitVec.ofInt 64 3).toNat = n at *
 omega
theorem PM (m : AO) : 0 <= CB m /\ CB m <= 3 := A64_3 m.Turn
def B6 (m : AO) (p : AE) : Nat -> AE -> Int -> AE
 | 0, _, _ => default
 | n0 + 1, p', v13 => bif decide ((v13 : Int) < (CB m)) then ((B6 m p n0) (AE.mk (W64 (0 - p'.Y)) p'.X) (v13 + 1)) else (FG p' m.At)
def AW (m : AO) (p : AE) : AE := B6 m p ((((CB m)) - 0).toNat + 1) (AE.mk (bif m.Mirror then (W64 (0 - p.X)) else p.X) p.Y) 0
def Bb (m : AO) (p : AE) : FuncId × List Av × Ef := (33, [.agg (AO.c m), .agg (AE.c p)], .val [] (.av (.agg (AE.c (AW m p)))))
theorem at0 {p : Prop} (h : p := by simp only [List.length_append, List.length_cons, List.length_nil]; omega) : p := h
theorem at1 {p : Prop} (h : p := by simp only [List.length_set, List.length_append, List.length_cons, List.length_nil]; omega) : p := h
theorem at2 {p : Prop} (h : p := by simp only [C1]; omega) : p := h
theorem ax0 {p : Prop} (h : p := by first | omega | (dsimp only <;> first | trivial | omega | exact at0 | exact at1 | exact at2 | (simp; omega) | simp) | (first | trivial | omega | exact at0 | exact at1 | exact at2 | (simp; omega) | simp)) : p := h
theorem QE (m : AO) (p : AE) : Bo Try.prog 33 (Bb m p).2.1 (.av (.agg (AE.c (AW m p)))) := by
 refine AX Try.func33 rfl kr kr fun W0 M0 => ?_
 refine AC <| rn ⟨[(2, tP 2 0), (3, tP 3 0), (4, tP 4 0)], [(2, .cells (AO.c m) 66), (3, .cells (AE.c p) 52), (4, .cells [.i 0, .i 0] 52)]⟩ ?_
 refine AC <| AC ?_
 refine rn ⟨[(2, tP 2 0), (3, tP 3 0), (4, tP 4 0), (6, tB m.Mirror)], [(2, .cells (AO.c m) 66), (3, .cells (AE.c p) 52), (4, .cells [.i 0, .i 0] 52)]⟩ ?_
 refine Bm (⟨[(2, tP 2 0), (3, tP 3 0), (4, tP 4 0)], [(2, .cells (AO.c m) 66), (3, .cells [.i (bif m.Mirror then (W64 (0 - p.X)) else p.X), .i p.Y] 52), (4, .cells [.i 0, .i 0] 52)]⟩) ?_ ?_
 ·refine Ae _ rfl (fun h1 => ?_) (fun h1 => ?_)
  ·refine rn ⟨[(2, tP 2 0), (3, tP 3 0), (4, tP 4 0)], [(2, .cells (AO.c m) 66), (3, .cells [.i (W64 (0 - p.X)), .i p.Y] 52), (4, .cells [.i 0, .i 0] 52)]⟩ ?_
   refine A6 ?_
   first | rfl | (simp only [h1, cond_true, cond_false] <;> rfl)
  ·refine Ak <| AJ ?_
   refine Cv.trans (BA [2, 3, 4] [2, 3, 4] (⟨[(2, tP 2 0), (3, tP 3 0), (4, tP 4 0)], [(2, .cells (AO.c m) 66), (3, .cells (AE.c p) 52), (4, .cells [.i 0, .i 0] 52)]⟩) kr) (A6 ?_)
   first | rfl | (simp only [h1, cond_true, cond_false] <;> rfl)
 refine AC <| AC ?_
 refine rc [(12, FK m)] [Al (FK m).2.1] ⟨[(2, tP 2 0), (3, tP 3 0), (4, tP 4 0), (12, tI (CB m)), (13, tI 0)], [(2, .cells (AO.c m) 66), (3, .cells [.i (bif m.Mirror then (W64 (0 - p.X)) else p.X), .i p.Y] 52), (4, .cells [.i 0, .i 0] 52)]⟩ (.cons (Oe m) .nil) (.cons rfl .nil) <| AJ <| Af ?_
 refine BL (ι := Nat × AE × Int) (fun x => ⟨[(2, tP 2 0), (3, tP 3 0), (4, tP 4 0), (12, tI (CB m)), (13, tI x.2.2)], [(2, .cells (AO.c m) 66), (3, .cells (AE.c x.2.1) 52), (4, .cells [.i 0, .i 0] 52)]⟩) (fun x => (((CB m)) - x.2.2).toNat < x.1 /\ (0 <= x.2.2 /\ x.2.2 <= CB m) /\ B6 m p x.1 x.2.1 x.2.2 = AW m p) (fun x => x.1) ?_ ((((CB m)) - 0).toNat + 1, AE.mk (bif m.Mirror then (W64 (0 - p.X)) else p.X) p.Y, 0) ⟨Nat.lt_succ_self _, (by show 0 <= 0 /\ 0 <= CB m; (have := PM m; omega)), (by simp only [AW, cond_true, cond_false])⟩
 rintro ⟨n0, p', v13⟩ ⟨hn, hinv, hF⟩
 have hm0 := hn; have hinv0 := hinv; have hF0 := hF; try dsimp only at hm0 hinv0 hF0
 clear hn hinv hF
 cases n0 with
 | zero => exact absurd hm0 (Nat.not_lt_zero _)
 | succ n0 =>
  have ht := PM m
  have e1 : W64 (v13 + 1) = v13 + 1 := BP (by omega) (by omega)
  refine AC <| rn ⟨[(2, tP 2 0), (3, tP 3 0), (4, tP 4 0), (12, tI (CB m)), (13, tI v13), (14, tB (decide ((v13 : Int) < (CB m))))], [(2, .cells (AO.c m) 66), (3, .cells (AE.c p') 52), (4, .cells [.i 0, .i 0] 52)]⟩ <| AC ?_
  refine Ae _ rfl (fun h1 => ?_) (fun h1 => ?_)
  ·have g1 := oT h1
   refine Ak <| AJ ?_
   refine AC <| Af ?_
   refine rg ⟨[(2, tP 2 0), (3, tP 3 0), (4, tP 4 0), (12, tI (CB m)), (13, tI v13)], [(2, .cells (AO.c m) 66), (3, .cells [.i (W64 (0 - p'.Y)), .i p'.X] 52), (4, .cells [.i 0, .i 0] 52)]⟩ <| Bq <| AJ ?_
   refine rg ⟨[(2, tP 2 0), (3, tP 3 0), (4, tP 4 0), (12, tI (CB m)), (13, tI (W64 (v13 + 1)))], [(2, .cells (AO.c m) 66), (3, .cells [.i (W64 (0 - p'.Y)), .i p'.X] 52), (4, .cells [.i 0, .i 0] 52)]⟩ ?_
   (try rw [e1])
   refine AJ ?_
   refine ⟨(n0, AE.mk (W64 (0 - p'.Y)) p'.X, v13 + 1), ⟨?_, ?_, (by rw [<- hF0]; simp only [B6, h1, cond_true, cond_false])⟩, Nat.lt_succ_self _, A6 kr⟩
   ·show (((CB m)) - (v13 + 1)).toNat < n0; omega
   ·exact ax0
  ·have g1 := oF h1
   refine BZ <| BI ?_
   refine BI <| Ba ?_
   refine AJ <| AC ?_
   refine rc [(25, HJ p' m.At)] [Al (HJ p' m.At).2.1] ⟨[(4, tP 4 0)], [(4, .cells (AE.c (FG p' m.At)) 52)]⟩ (.cons (Rc p' m.At) .nil) (.cons rfl .nil) <| AJ <| Aj ?_
   exact ⟨_, Cv.refl _, .inl rfl, .av (.agg (AE.c (FG p' m.At))), by kernel_rfl, Ao (by rw [<- hF0]; first | (simp only [B6, h1, cond_true, cond_false] <;> rfl))⟩
theorem CV (m : AO) (p : AE) : A1 Try.prog (Bb m p).1 (Bb m p).2.1 (Bb m p).2.2 := Aa (fun _ _ => by kernel_rfl) fun _ => QE m p
def CT (x0 : AH) : An := An.mk (min x0.A.X x0.B.X) (min x0.A.Y x0.B.Y) (max x0.A.X x0.B.X) (max x0.A.Y x0.B.Y)
def E1 (x0 : AH) : FuncId × List Av × Ef := (51, [.agg (AH.c x0)], .val [] (.av (.agg (An.c (CT x0)))))
theorem RR (x0 : AH) : Bo Try.prog 51 (E1 x0).2.1 (.av (.agg (An.c (CT x0)))) := by
 refine AX Try.func51 rfl kr kr fun W0 M0 => ?_
 refine AC <| rn ⟨[(1, tP 1 0), (2, tP 2 0)], [(1, .cells (AH.c x0) 133), (2, .cells [.i 0, .i 0, .i 0, .i 0] 76)]⟩ <| AC ?_
 refine rn ⟨[(2, tP 2 0)], [(2, .cells [.i (min x0.A.X x0.B.X), .i (min x0.A.Y x0.B.Y), .i (max x0.A.X x0.B.X), .i (max x0.A.Y x0.B.Y)] 76)]⟩ <| Aj ?_
 exact ⟨_, Cv.refl _, .inl rfl, .av (.agg [.i (min x0.A.X x0.B.X), .i (min x0.A.Y x0.B.Y), .i (max x0.A.X x0.B.X), .i (max x0.A.Y x0.B.Y)]), by kernel_rfl, Ao (by rfl)⟩
theorem LE (x0 : AH) : A1 Try.prog (E1 x0).1 (E1 x0).2.1 (E1 x0).2.2 := Aa (fun _ _ => by kernel_rfl) fun _ => RR x0
def C3 (x0 : AH) (x1 : Int) : Bool := bif !((decide ((((Ay x0.A x0.C).X) : Int) = 0)) == (decide ((((Ay x0.A x0.C).Y) : Int) = 0))) then (decide (((Ay x0.B x0.C).X) = ((AW (AO.mk (AE.mk 0 0) x1 false) (Ay x0.A x0.C)).X)) && (decide (((Ay x0.B x0.C).Y) = ((AW (AO.mk (AE.mk 0 0) x1 false) (Ay x0.A x0.C)).Y)) && true)) else false
def C0 (x0 : AH) (x1 : Int) : FuncId × List Av × Ef := (106, [.agg (AH.c x0), .one (.i x1)], .val [] (.av (.one (.b (C3 x0 x1)))))
theorem L4 (x0 : AH) (x1 : Int) : Bo Try.prog 106 (C0 x0 x1).2.1 (tO (.b (C3 x0 x1))) := by
 refine AX Try.func106 rfl kr kr fun W0 M0 => ?_
 refine AC <| rn ⟨[(1, tI x1), (2, tP 2 0)], [(2, .cells (AH.c x0) 133)]⟩ <| AC ?_
 refine rc [(10, Fk x0.A x0.C)] [Al (Fk x0.A x0.C).2.1] ⟨[(1, tI x1), (2, tP 2 0), (5, tP 5 0)], [(2, .cells (AH.c x0) 133), (5, .cells (AE.c (Ay x0.A x0.C)) 52)]⟩ (.cons (NC x0.A x0.C) .nil) (.cons rfl .nil) <| AJ <| AC ?_
 refine dw [] [(23, Fk x0.B x0.C), (27, Bb (AO.mk (AE.mk 0 0) x1 false) (Ay x0.A x0.C))] [((!((decide ((((Ay x0.A x0.C).X) : Int) = 0)) == (decide ((((Ay x0.A x0.C).Y) : Int) = 0)))) = true) -> ((!((decide ((((Ay x0.A x0.C).X) : Int) = 0)) == (decide ((((Ay x0.A x0.C).Y) : Int) = 0)))) = true), ((!((decide ((((Ay x0.A x0.C).X) : Int) = 0)) == (decide ((((Ay x0.A x0.C).Y) : Int) = 0)))) = true) -> ((!((decide ((((Ay x0.A x0.C).X) : Int) = 0)) == (decide ((((Ay x0.A x0.C).Y) : Int) = 0)))) = true), ((!((decide ((((Ay x0.A x0.C).X) : Int) = 0)) == (decide ((((Ay x0.A x0.C).Y) : Int) = 0)))) = true) -> ((!((decide ((((Ay x0.A x0.C).X) : Int) = 0)) == (decide ((((Ay x0.A x0.C).Y) : Int) = 0)))) = true), ((!((decide ((((Ay x0.A x0.C).X) : Int) = 0)) == (decide ((((Ay x0.A x0.C).Y) : Int) = 0)))) = true) -> ((!((decide ((((Ay x0.A x0.C).X) : Int) = 0)) == (decide ((((Ay x0.A x0.C).Y) : Int) = 0)))) = true), ((!((decide ((((Ay x0.A x0.C).X) : Int) = 0)) == (decide ((((Ay x0.A x0.C).Y) : Int) = 0)))) = true) -> (Al (Fk x0.B x0.C).2.1), ((!((decide ((((Ay x0.A x0.C).X) : Int) = 0)) == (decide ((((Ay x0.A x0.C).Y) : Int) = 0)))) = true) -> ((!((decide ((((Ay x0.A x0.C).X) : Int) = 0)) == (decide ((((Ay x0.A x0.C).Y) : Int) = 0)))) = true), ((!((decide ((((Ay x0.A x0.C).X) : Int) = 0)) == (decide ((((Ay x0.A x0.C).Y) : Int) = 0)))) = true) -> ((!((decide ((((Ay x0.A x0.C).X) : Int) = 0)) == (decide ((((Ay x0.A x0.C).Y) : Int) = 0)))) = true), ((!((decide ((((Ay x0.A x0.C).X) : Int) = 0)) == (decide ((((Ay x0.A x0.C).Y) : Int) = 0)))) = true) -> ((!((decide ((((Ay x0.A x0.C).X) : Int) = 0)) == (decide ((((Ay x0.A x0.C).Y) : Int) = 0)))) = true), ((!((decide ((((Ay x0.A x0.C).X) : Int) = 0)) == (decide ((((Ay x0.A x0.C).Y) : Int) = 0)))) = true) -> (Al (Bb (AO.mk (AE.mk 0 0) x1 false) (Ay x0.A x0.C)).2.1), ((!((decide ((((Ay x0.A x0.C).X) : Int) = 0)) == (decide ((((Ay x0.A x0.C).Y) : Int) = 0)))) = true) -> ((!((decide ((((Ay x0.A x0.C).X) : Int) = 0)) == (decide ((((Ay x0.A x0.C).Y) : Int) = 0)))) = true), ((!((decide ((((Ay x0.A x0.C).X) : Int) = 0)) == (decide ((((Ay x0.A x0.C).Y) : Int) = 0)))) = true) -> ((!((decide ((((Ay x0.A x0.C).X) : Int) = 0)) == (decide ((((Ay x0.A x0.C).Y) : Int) = 0)))) = true), (!((decide ((((Ay x0.A x0.C).X) : Int) = 0)) == (decide ((((Ay x0.A x0.C).Y) : Int) = 0)))) = true -> ((!((decide ((((Ay x0.A x0.C).X) : Int) = 0)) == (decide ((((Ay x0.A x0.C).Y) : Int) = 0)))) = true)] ⟨[(4, tB (bif !((decide ((((Ay x0.A x0.C).X) : Int) = 0)) == (decide ((((Ay x0.A x0.C).Y) : Int) = 0))) then (decide (((Ay x0.B x0.C).X) = ((AW (AO.mk (AE.mk 0 0) x1 false) (Ay x0.A x0.C)).X)) && (decide (((Ay x0.B x0.C).Y) = ((AW (AO.mk (AE.mk 0 0) x1 false) (Ay x0.A x0.C)).Y)) && true)) else false))], []⟩ (.cons (NC x0.B x0.C) (.cons (CV (AO.mk (AE.mk 0 0) x1 false) (Ay x0.A x0.C)) .nil)) (.cons id (.cons id (.cons id (.cons id (.cons (fun _ => rfl) (.cons id (.cons id (.cons id (.cons (fun _ => rfl) (.cons id (.cons id (.cons id .nil)))))))))))) <| AJ <| Aj ?_
 exact ⟨_, Cv.refl _, .inl rfl, tO (.b (bif !((decide ((((Ay x0.A x0.C).X) : Int) = 0)) == (decide ((((Ay x0.A x0.C).Y) : Int) = 0))) then (decide (((Ay x0.B x0.C).X) = ((AW (AO.mk (AE.mk 0 0) x1 false) (Ay x0.A x0.C)).X)) && (decide (((Ay x0.B x0.C).Y) = ((AW (AO.mk (AE.mk 0 0) x1 false) (Ay x0.A x0.C)).Y)) && true)) else false)), by kernel_rfl, Ao (by rfl)⟩
theorem Ha (x0 : AH) (x1 : Int) : A1 Try.prog (C0 x0 x1).1 (C0 x0 x1).2.1 (C0 x0 x1).2.2 := Aa (fun _ _ => by kernel_rfl) fun _ => L4 x0 x1
def JA (x0 : AH) : Bool := (decide (x0.C.X = 0) && (decide (x0.C.Y = 0) && true))
def FM (x0 : AH) : FuncId × List Av × Ef := (95, [.agg (AH.c x0)], .val [] (.av (.one (.b (JA x0)))))
theorem QJ (x0 : AH) : Bo Try.prog 95 (FM x0).2.1 (tO (.b (JA x0))) := by
 refine AX Try.func95 rfl kr kr fun W0 M0 => ?_
 refine AC <| rn ⟨[(1, tP 1 0)], [(1, .cells (AH.c x0) 133)]⟩ <| AC ?_
 refine rn ⟨[(2, tB ((decide (x0.C.X = 0) && (decide (x0.C.Y = 0) && true))))], []⟩ <| Aj ?_
 exact ⟨_, Cv.refl _, .inl rfl, tO (.b ((decide (x0.C.X = 0) && (decide (x0.C.Y = 0) && true)))), by kernel_rfl, Ao (by rfl)⟩
theorem Oh (x0 : AH) : A1 Try.prog (FM x0).1 (FM x0).2.1 (FM x0).2.2 := Aa (fun _ _ => by kernel_rfl) fun _ => QJ x0
def Fe (x0 : AH) : Bool := C3 x0 1
def DK (x0 : AH) : FuncId × List Av × Ef := (98, [.agg (AH.c x0)], .val [] (.av (.one (.b (Fe x0)))))
theorem J3 (x0 : AH) : Bo Try.prog 98 (DK x0).2.1 (tO (.b (Fe x0))) := by
 refine AX Try.func98 rfl kr kr fun W0 M0 => ?_
 refine AC <| rn ⟨[(1, tP 1 0)], [(1, .cells (AH.c x0) 133)]⟩ <| AC ?_
 refine rc [(4, C0 x0 1)] [Al (C0 x0 1).2.1] ⟨[(2, tB (C3 x0 1))], []⟩ (.cons (Ha x0 1) .nil) (.cons rfl .nil) <| AJ <| Aj ?_
 exact ⟨_, Cv.refl _, .inl rfl, tO (.b (C3 x0 1)), by kernel_rfl, Ao (by rfl)⟩
theorem JY (x0 : AH) : A1 Try.prog (DK x0).1 (DK x0).2.1 (DK x0).2.2 := Aa (fun _ _ => by kernel_rfl) fun _ => J3 x0
def FA (x0 : AH) : Bool := C3 x0 3
def Cx (x0 : AH) : FuncId × List Av × Ef := (101, [.agg (AH.c x0)], .val [] (.av (.one (.b (FA x0)))))
theorem JW (x0 : AH) : Bo Try.prog 101 (Cx x0).2.1 (tO (.b (FA x0))) := by
 refine AX Try.func101 rfl kr kr fun W0 M0 => ?_
 refine AC <| rn ⟨[(1, tP 1 0)], [(1, .cells (AH.c x0) 133)]⟩ <| AC ?_
 refine rc [(4, C0 x0 3)] [Al (C0 x0 3).2.1] ⟨[(2, tB (C3 x0 3))], []⟩ (.cons (Ha x0 3) .nil) (.cons rfl .nil) <| AJ <| Aj ?_
 exact ⟨_, Cv.refl _, .inl rfl, tO (.b (C3 x0 3)), by kernel_rfl, Ao (by rfl)⟩
theorem Il (x0 : AH) : A1 Try.prog (Cx x0).1 (Cx x0).2.1 (Cx x0).2.2 := Aa (fun _ _ => by kernel_rfl) fun _ => JW x0
def Eh : FuncId × List Av × Ef := (89, [.one (.i 1)], .val [] (.tup [.agg [.clo 95 0 (fun _ => default), .clo 96 0 (fun _ => default), .clo 97 0 (fun _ => default), .i 1], .one (.b true)]))
theorem OY  : Bo Try.prog 89 (Eh ).2.1 (.tup [.agg [.clo 95 0 (fun _ => default), .clo 96 0 (fun _ => default), .clo 97 0 (fun _ => default), .i 1], .one (.b true)]) := by
 refine AX Try.func89 rfl kr kr fun W0 M0 => ?_
 refine AC <| rn ⟨[(0, tI 1), (2, tP 2 0)], [(2, .cells [.val .nilFunc, .val .nilFunc, .val .nilFunc, .i 0] 173)]⟩ ?_
 refine AC <| AC ?_
 refine rn ⟨[(0, tI 1), (2, tP 2 0), (4, tI 1)], [(2, .cells [.val .nilFunc, .val .nilFunc, .val .nilFunc, .i 0] 173)]⟩ ?_
 refine Af <| AC ?_
 refine rn ⟨[(0, tI 1), (2, tP 2 0), (4, tI 1), (5, tB true)], [(2, .cells [.val .nilFunc, .val .nilFunc, .val .nilFunc, .i 0] 173)]⟩ ?_
 refine Db kr <| AC ?_
 refine rn ⟨[(2, tP 2 0), (3, tB true)], [(2, .cells [.clo 95 0 (fun _ => default), .clo 96 0 (fun _ => default), .clo 97 0 (fun _ => default), .i 1] 173)]⟩ ?_
 refine Aj <| CD <| BO ?_
 exact ⟨_, Cv.refl _, .inl rfl, .tup [.agg [.clo 95 0 (fun _ => default), .clo 96 0 (fun _ => default), .clo 97 0 (fun _ => default), .i 1], .one (.b true)], by kernel_rfl, Ao rfl⟩
theorem NJ  : A1 Try.prog (Eh ).1 (Eh ).2.1 (Eh ).2.2 := Aa (fun _ _ => by kernel_rfl) fun _ => OY
def Ee : FuncId × List Av × Ef := (89, [.one (.i 2)], .val [] (.tup [.agg [.clo 98 0 (fun _ => default), .clo 99 0 (fun _ => default), .clo 100 0 (fun _ => default), .i 3], .one (.b true)]))
theorem OX  : Bo Try.prog 89 (Ee ).2.1 (.tup [.agg [.clo 98 0 (fun _ => default), .clo 99 0 (fun _ => default), .clo 100 0 (fun _ => default), .i 3], .one (.b true)]) := by
 refine AX Try.func89 rfl kr kr fun W0 M0 => ?_
 refine AC <| rn ⟨[(0, tI 2), (2, tP 2 0)], [(2, .cells [.val .nilFunc, .val .nilFunc, .val .nilFunc, .i 0] 173)]⟩ ?_
 refine AC <| AC ?_
 refine rn ⟨[(0, tI 2), (2, tP 2 0), (4, tI 2)], [(2, .cells [.val .nilFunc, .val .nilFunc, .val .nilFunc, .i 0] 173)]⟩ ?_
 refine Af <| AC ?_
 refine rn ⟨[(0, tI 2), (2, tP 2 0), (4, tI 2), (5, tB false)], [(2, .cells [.val .nilFunc, .val .nilFunc, .val .nilFunc, .i 0] 173)]⟩ ?_
 refine EH kr <| AC ?_
 refine rn ⟨[(0, tI 2), (2, tP 2 0), (4, tI 2), (8, tB true)], [(2, .cells [.val .nilFunc, .val .nilFunc, .val .nilFunc, .i 0] 173)]⟩ ?_
 refine Db kr <| AC ?_
 refine rn ⟨[(2, tP 2 0), (3, tB true)], [(2, .cells [.clo 98 0 (fun _ => default), .clo 99 0 (fun _ => default), .clo 100 0 (fun _ => default), .i 3] 173)]⟩ ?_
 refine Aj <| CD <| BO ?_
 exact ⟨_, Cv.refl _, .inl rfl, .tup [.agg [.clo 98 0 (fun _ => default), .clo 99 0 (fun _ => default), .clo 100 0 (fun _ => default), .i 3], .one (.b true)], by kernel_rfl, Ao rfl⟩
theorem NI  : A1 Try.prog (Ee ).1 (Ee ).2.1 (Ee ).2.2 := Aa (fun _ _ => by kernel_rfl) fun _ => OX
def Ed : FuncId × List Av × Ef := (89, [.one (.i 3)], .val [] (.tup [.agg [.clo 101 0 (fun _ => default), .clo 99 0 (fun _ => default), .clo 100 0 (fun _ => default), .i 2], .one (.b true)]))
theorem OW  : Bo Try.prog 89 (Ed ).2.1 (.tup [.agg [.clo 101 0 (fun _ => default), .clo 99 0 (fun _ => default), .clo 100 0 (fun _ => default), .i 2], .one (.b true)]) := by
 refine AX Try.func89 rfl kr kr fun W0 M0 => ?_
 refine AC <| rn ⟨[(0, tI 3), (2, tP 2 0)], [(2, .cells [.val .nilFunc, .val .nilFunc, .val .nilFunc, .i 0] 173)]⟩ ?_
 refine AC <| AC ?_
 refine rn ⟨[(0, tI 3), (2, tP 2 0), (4, tI 3)], [(2, .cells [.val .nilFunc, .val .nilFunc, .val .nilFunc, .i 0] 173)]⟩ ?_
 refine Af <| AC ?_
 refine rn ⟨[(0, tI 3), (2, tP 2 0), (4, tI 3), (5, tB false)], [(2, .cells [.val .nilFunc, .val .nilFunc, .val .nilFunc, .i 0] 173)]⟩ ?_
 refine EH kr <| AC ?_
 refine rn ⟨[(0, tI 3), (2, tP 2 0), (4, tI 3), (8, tB false)], [(2, .cells [.val .nilFunc, .val .nilFunc, .val .nilFunc, .i 0] 173)]⟩ ?_
 refine EH kr <| AC ?_
 refine rn ⟨[(0, tI 3), (2, tP 2 0), (11, tB true)], [(2, .cells [.val .nilFunc, .val .nilFunc, .val .nilFunc, .i 0] 173)]⟩ ?_
 refine Db kr <| AC ?_
 refine rn ⟨[(2, tP 2 0), (3, tB true)], [(2, .cells [.clo 101 0 (fun _ => default), .clo 99 0 (fun _ => default), .clo 100 0 (fun _ => default), .i 2] 173)]⟩ ?_
 refine Aj <| CD <| BO ?_
 exact ⟨_, Cv.refl _, .inl rfl, .tup [.agg [.clo 101 0 (fun _ => default), .clo 99 0 (fun _ => default), .clo 100 0 (fun _ => default), .i 2], .one (.b true)], by kernel_rfl, Ao rfl⟩
theorem NH  : A1 Try.prog (Ed ).1 (Ed ).2.1 (Ed ).2.2 := Aa (fun _ _ => by kernel_rfl) fun _ => OW
def Ec (k : Int) : FuncId × List Av × Ef := (89, [.one (.i k)], .val [] (.tup [.agg [.val .nilFunc, .val .nilFunc, .val .nilFunc, .i k], .one (.b false)]))
theorem OV (k : Int) (k1 : ¬ k = 1) (k2 : ¬ k = 2) (k3 : ¬ k = 3) : Bo Try.prog 89 (Ec k).2.1 (.tup [.agg [.val .nilFunc, .val .nilFunc, .val .nilFunc, .i k], .one (.b false)]) := by
 refine AX Try.func89 rfl kr kr fun W0 M0 => ?_
 refine AC <| rn ⟨[(0, tI k), (2, tP 2 0)], [(2, .cells [.val .nilFunc, .val .nilFunc, .val .nilFunc, .i 0] 173)]⟩ ?_
 refine AC <| AC ?_
 refine rn ⟨[(0, tI k), (2, tP 2 0), (4, tI k)], [(2, .cells [.val .nilFunc, .val .nilFunc, .val .nilFunc, .i 0] 173)]⟩ ?_
 refine Af <| AC ?_
 refine rn ⟨[(0, tI k), (2, tP 2 0), (4, tI k), (5, tB (decide ((k : Int) = 1)))], [(2, .cells [.val .nilFunc, .val .nilFunc, .val .nilFunc, .i 0] 173)]⟩ ?_
 refine Ae _ rfl (fun h => absurd ((decide_eq_false k1).symm.trans h) (by decide)) (fun _ => ?_)
 refine AC <| rn ⟨[(0, tI k), (2, tP 2 0), (4, tI k), (8, tB (decide ((k : Int) = 2)))], [(2, .cells [.val .nilFunc, .val .nilFunc, .val .nilFunc, .i 0] 173)]⟩ ?_
 refine Ae _ rfl (fun h => absurd ((decide_eq_false k2).symm.trans h) (by decide)) (fun _ => ?_)
 refine AC <| rn ⟨[(0, tI k), (2, tP 2 0), (11, tB (decide ((k : Int) = 3)))], [(2, .cells [.val .nilFunc, .val .nilFunc, .val .nilFunc, .i 0] 173)]⟩ ?_
 refine Ae _ rfl (fun h => absurd ((decide_eq_false k3).symm.trans h) (by decide)) (fun _ => ?_)
 refine Ak <| Bq ?_
 refine AJ <| AC ?_
 refine rn ⟨[(2, tP 2 0), (3, tB false)], [(2, .cells [.val .nilFunc, .val .nilFunc, .val .nilFunc, .i k] 173)]⟩ <| Aj ?_
 exact ⟨_, Cv.refl _, .inl rfl, .tup [.agg [.val .nilFunc, .val .nilFunc, .val .nilFunc, .i k], .one (.b false)], by kernel_rfl, Ao rfl⟩
theorem NG (k : Int) (k1 : ¬ k = 1) (k2 : ¬ k = 2) (k3 : ¬ k = 3) : A1 Try.prog (Ec k).1 (Ec k).2.1 (Ec k).2.2 := Aa (fun _ _ => by kernel_rfl) fun _ => OV k k1 k2 k3
def Z00 (a0 : AE) (a1 : AE) : Bool := bif BQ a0 then BQ a1 else false
def Z01 (a0 : AE) (a1 : AE) (a2 : AE) : Bool := bif Z00 a0 a1 then BQ a2 else false
def Z02 (a0 : AE) (a1 : AE) (a2 : AE) : Bool := bif Z01 a0 a1 a2 then JA (AH.mk 1 a0 a1 a2) else false
def Qu (a0 : AE) (a1 : AE) (a2 : AE) : FuncId × List Av × Ef := (73, [.agg [.i 1, .i a0.X, .i a0.Y, .i a1.X, .i a1.Y, .i a2.X, .i a2.Y]], .val [] (.tup [.agg [.clo 95 0 (fun _ => default), .clo 96 0 (fun _ => default), .clo 97 0 (fun _ => default), .i 1], .one (.b (Z02 a0 a1 a2))]))
theorem pof1 (a0 : AE) (a1 : AE) (a2 : AE) : Bo Try.prog 73 (Qu a0 a1 a2).2.1 (.tup [.agg [.clo 95 0 (fun _ => default), .clo 96 0 (fun _ => default), .clo 97 0 (fun _ => default), .i 1], .one (.b (Z02 a0 a1 a2))]) := by
 refine AX Try.func73 rfl kr kr fun W0 M0 => ?_
 refine AC <| rn ⟨[(1, tP 1 0), (2, tP 2 0)], [(1, .cells [.i 1, .i a0.X, .i a0.Y, .i a1.X, .i a1.Y, .i a2.X, .i a2.Y] 133), (2, .cells [.val .nilFunc, .val .nilFunc, .val .nilFunc, .i 0] 173)]⟩ <| AC ?_
 refine rc [(9, Eh)] [Al (Eh).2.1] ⟨[(1, tP 1 0), (2, tP 2 0), (4, tP 4 0), (5, tB true)], [(1, .cells [.i 1, .i a0.X, .i a0.Y, .i a1.X, .i a1.Y, .i a2.X, .i a2.Y] 133), (2, .cells [.val .nilFunc, .val .nilFunc, .val .nilFunc, .i 0] 173), (4, .cells [.clo 95 0 (fun _ => default), .clo 96 0 (fun _ => default), .clo 97 0 (fun _ => default), .i 1] 173)]⟩ (.cons (NJ) .nil) (.cons rfl .nil) <| AJ <| AC ?_
 refine dw [] [(17, Bh a0), (22, Bh a1), (27, Bh a2), (33, FM (AH.mk 1 a0 a1 a2))] [((true) = true) -> ((true) = true), ((true) = true) -> ((true) = true), ((true) = true) -> (Al (Bh a0).2.1), (true) = true -> ((true) = true), ((BQ a0) = true) -> ((BQ a0) = true), ((BQ a0) = true) -> ((BQ a0) = true), ((BQ a0) = true) -> (Al (Bh a1).2.1), (BQ a0) = true -> ((BQ a0) = true), ((Z00 a0 a1) = true) -> ((Z00 a0 a1) = true), ((Z00 a0 a1) = true) -> ((Z00 a0 a1) = true), ((Z00 a0 a1) = true) -> (Al (Bh a2).2.1), (Z00 a0 a1) = true -> ((Z00 a0 a1) = true), ((Z01 a0 a1 a2) = true) -> ((Z01 a0 a1 a2) = true), ((Z01 a0 a1 a2) = true) -> ((Z01 a0 a1 a2) = true), ((Z01 a0 a1 a2) = true) -> ((Z01 a0 a1 a2) = true), ((Z01 a0 a1 a2) = true) -> (Al (FM (AH.mk 1 a0 a1 a2)).2.1), (Z01 a0 a1 a2) = true -> ((Z01 a0 a1 a2) = true)] ⟨[(2, tP 2 0), (3, tB (Z02 a0 a1 a2))], [(2, .cells [.clo 95 0 (fun _ => default), .clo 96 0 (fun _ => default), .clo 97 0 (fun _ => default), .i 1] 173)]⟩ (.cons (Ci a0) (.cons (Ci a1) (.cons (Ci a2) (.cons (Oh (AH.mk 1 a0 a1 a2)) .nil)))) (.cons id (.cons id (.cons (fun _ => rfl) (.cons id (.cons id (.cons id (.cons (fun _ => rfl) (.cons id (.cons id (.cons id (.cons (fun _ => rfl) (.cons id (.cons id (.cons id (.cons id (.cons (fun _ => rfl) (.cons id .nil))))))))))))))))) <| AJ <| Aj ?_
 exact ⟨_, Cv.refl _, .inl rfl, .tup [.agg [.clo 95 0 (fun _ => default), .clo 96 0 (fun _ => default), .clo 97 0 (fun _ => default), .i 1], .one (.b (Z02 a0 a1 a2))], by kernel_rfl, Ao rfl⟩
theorem okof1 (a0 : AE) (a1 : AE) (a2 : AE) : A1 Try.prog (Qu a0 a1 a2).1 (Qu a0 a1 a2).2.1 (Qu a0 a1 a2).2.2 := Aa (fun _ _ => by kernel_rfl) fun _ => pof1 a0 a1 a2
def Z03 (a0 : AE) (a1 : AE) : Bool := bif BQ a0 then BQ a1 else false
def Z04 (a0 : AE) (a1 : AE) (a2 : AE) : Bool := bif Z03 a0 a1 then BQ a2 else false
def Z05 (a0 : AE) (a1 : AE) (a2 : AE) : Bool := bif Z04 a0 a1 a2 then Fe (AH.mk 2 a0 a1 a2) else false
def Qt (a0 : AE) (a1 : AE) (a2 : AE) : FuncId × List Av × Ef := (73, [.agg [.i 2, .i a0.X, .i a0.Y, .i a1.X, .i a1.Y, .i a2.X, .i a2.Y]], .val [] (.tup [.agg [.clo 98 0 (fun _ => default), .clo 99 0 (fun _ => default), .clo 100 0 (fun _ => default), .i 3], .one (.b (Z05 a0 a1 a2))]))
theorem pof2 (a0 : AE) (a1 : AE) (a2 : AE) : Bo Try.prog 73 (Qt a0 a1 a2).2.1 (.tup [.agg [.clo 98 0 (fun _ => default), .clo 99 0 (fun _ => default), .clo 100 0 (fun _ => default), .i 3], .one (.b (Z05 a0 a1 a2))]) := by
 refine AX Try.func73 rfl kr kr fun W0 M0 => ?_
 refine AC <| rn ⟨[(1, tP 1 0), (2, tP 2 0)], [(1, .cells [.i 2, .i a0.X, .i a0.Y, .i a1.X, .i a1.Y, .i a2.X, .i a2.Y] 133), (2, .cells [.val .nilFunc, .val .nilFunc, .val .nilFunc, .i 0] 173)]⟩ <| AC ?_
 refine rc [(9, Ee)] [Al (Ee).2.1] ⟨[(1, tP 1 0), (2, tP 2 0), (4, tP 4 0), (5, tB true)], [(1, .cells [.i 2, .i a0.X, .i a0.Y, .i a1.X, .i a1.Y, .i a2.X, .i a2.Y] 133), (2, .cells [.val .nilFunc, .val .nilFunc, .val .nilFunc, .i 0] 173), (4, .cells [.clo 98 0 (fun _ => default), .clo 99 0 (fun _ => default), .clo 100 0 (fun _ => default), .i 3] 173)]⟩ (.cons (NI) .nil) (.cons rfl .nil) <| AJ <| AC ?_
 refine dw [] [(17, Bh a0), (22, Bh a1), (27, Bh a2), (33, DK (AH.mk 2 a0 a1 a2))] [((true) = true) -> ((true) = true), ((true) = true) -> ((true) = true), ((true) = true) -> (Al (Bh a0).2.1), (true) = true -> ((true) = true), ((BQ a0) = true) -> ((BQ a0) = true), ((BQ a0) = true) -> ((BQ a0) = true), ((BQ a0) = true) -> (Al (Bh a1).2.1), (BQ a0) = true -> ((BQ a0) = true), ((Z03 a0 a1) = true) -> ((Z03 a0 a1) = true), ((Z03 a0 a1) = true) -> ((Z03 a0 a1) = true), ((Z03 a0 a1) = true) -> (Al (Bh a2).2.1), (Z03 a0 a1) = true -> ((Z03 a0 a1) = true), ((Z04 a0 a1 a2) = true) -> ((Z04 a0 a1 a2) = true), ((Z04 a0 a1 a2) = true) -> ((Z04 a0 a1 a2) = true), ((Z04 a0 a1 a2) = true) -> ((Z04 a0 a1 a2) = true), ((Z04 a0 a1 a2) = true) -> (Al (DK (AH.mk 2 a0 a1 a2)).2.1), (Z04 a0 a1 a2) = true -> ((Z04 a0 a1 a2) = true)] ⟨[(2, tP 2 0), (3, tB (Z05 a0 a1 a2))], [(2, .cells [.clo 98 0 (fun _ => default), .clo 99 0 (fun _ => default), .clo 100 0 (fun _ => default), .i 3] 173)]⟩ (.cons (Ci a0) (.cons (Ci a1) (.cons (Ci a2) (.cons (JY (AH.mk 2 a0 a1 a2)) .nil)))) (.cons id (.cons id (.cons (fun _ => rfl) (.cons id (.cons id (.cons id (.cons (fun _ => rfl) (.cons id (.cons id (.cons id (.cons (fun _ => rfl) (.cons id (.cons id (.cons id (.cons id (.cons (fun _ => rfl) (.cons id .nil))))))))))))))))) <| AJ <| Aj ?_
 exact ⟨_, Cv.refl _, .inl rfl, .tup [.agg [.clo 98 0 (fun _ => default), .clo 99 0 (fun _ => default), .clo 100 0 (fun _ => default), .i 3], .one (.b (Z05 a0 a1 a2))], by kernel_rfl, Ao rfl⟩
theorem okof2 (a0 : AE) (a1 : AE) (a2 : AE) : A1 Try.prog (Qt a0 a1 a2).1 (Qt a0 a1 a2).2.1 (Qt a0 a1 a2).2.2 := Aa (fun _ _ => by kernel_rfl) fun _ => pof2 a0 a1 a2
def Z06 (a0 : AE) (a1 : AE) : Bool := bif BQ a0 then BQ a1 else false
def Z07 (a0 : AE) (a1 : AE) (a2 : AE) : Bool := bif Z06 a0 a1 then BQ a2 else false
def Z08 (a0 : AE) (a1 : AE) (a2 : AE) : Bool := bif Z07 a0 a1 a2 then FA (AH.mk 3 a0 a1 a2) else false
def Qs (a0 : AE) (a1 : AE) (a2 : AE) : FuncId × List Av × Ef := (73, [.agg [.i 3, .i a0.X, .i a0.Y, .i a1.X, .i a1.Y, .i a2.X, .i a2.Y]], .val [] (.tup [.agg [.clo 101 0 (fun _ => default), .clo 99 0 (fun _ => default), .clo 100 0 (fun _ => default), .i 2], .one (.b (Z08 a0 a1 a2))]))
theorem pof3 (a0 : AE) (a1 : AE) (a2 : AE) : Bo Try.prog 73 (Qs a0 a1 a2).2.1 (.tup [.agg [.clo 101 0 (fun _ => default), .clo 99 0 (fun _ => default), .clo 100 0 (fun _ => default), .i 2], .one (.b (Z08 a0 a1 a2))]) := by
 refine AX Try.func73 rfl kr kr fun W0 M0 => ?_
 refine AC <| rn ⟨[(1, tP 1 0), (2, tP 2 0)], [(1, .cells [.i 3, .i a0.X, .i a0.Y, .i a1.X, .i a1.Y, .i a2.X, .i a2.Y] 133), (2, .cells [.val .nilFunc, .val .nilFunc, .val .nilFunc, .i 0] 173)]⟩ <| AC ?_
 refine rc [(9, Ed)] [Al (Ed).2.1] ⟨[(1, tP 1 0), (2, tP 2 0), (4, tP 4 0), (5, tB true)], [(1, .cells [.i 3, .i a0.X, .i a0.Y, .i a1.X, .i a1.Y, .i a2.X, .i a2.Y] 133), (2, .cells [.val .nilFunc, .val .nilFunc, .val .nilFunc, .i 0] 173), (4, .cells [.clo 101 0 (fun _ => default), .clo 99 0 (fun _ => default), .clo 100 0 (fun _ => default), .i 2] 173)]⟩ (.cons (NH) .nil) (.cons rfl .nil) <| AJ <| AC ?_
 refine dw [] [(17, Bh a0), (22, Bh a1), (27, Bh a2), (33, Cx (AH.mk 3 a0 a1 a2))] [((true) = true) -> ((true) = true), ((true) = true) -> ((true) = true), ((true) = true) -> (Al (Bh a0).2.1), (true) = true -> ((true) = true), ((BQ a0) = true) -> ((BQ a0) = true), ((BQ a0) = true) -> ((BQ a0) = true), ((BQ a0) = true) -> (Al (Bh a1).2.1), (BQ a0) = true -> ((BQ a0) = true), ((Z06 a0 a1) = true) -> ((Z06 a0 a1) = true), ((Z06 a0 a1) = true) -> ((Z06 a0 a1) = true), ((Z06 a0 a1) = true) -> (Al (Bh a2).2.1), (Z06 a0 a1) = true -> ((Z06 a0 a1) = true), ((Z07 a0 a1 a2) = true) -> ((Z07 a0 a1 a2) = true), ((Z07 a0 a1 a2) = true) -> ((Z07 a0 a1 a2) = true), ((Z07 a0 a1 a2) = true) -> ((Z07 a0 a1 a2) = true), ((Z07 a0 a1 a2) = true) -> (Al (Cx (AH.mk 3 a0 a1 a2)).2.1), (Z07 a0 a1 a2) = true -> ((Z07 a0 a1 a2) = true)] ⟨[(2, tP 2 0), (3, tB (Z08 a0 a1 a2))], [(2, .cells [.clo 101 0 (fun _ => default), .clo 99 0 (fun _ => default), .clo 100 0 (fun _ => default), .i 2] 173)]⟩ (.cons (Ci a0) (.cons (Ci a1) (.cons (Ci a2) (.cons (Il (AH.mk 3 a0 a1 a2)) .nil)))) (.cons id (.cons id (.cons (fun _ => rfl) (.cons id (.cons id (.cons id (.cons (fun _ => rfl) (.cons id (.cons id (.cons id (.cons (fun _ => rfl) (.cons id (.cons id (.cons id (.cons id (.cons (fun _ => rfl) (.cons id .nil))))))))))))))))) <| AJ <| Aj ?_
 exact ⟨_, Cv.refl _, .inl rfl, .tup [.agg [.clo 101 0 (fun _ => default), .clo 99 0 (fun _ => default), .clo 100 0 (fun _ => default), .i 2], .one (.b (Z08 a0 a1 a2))], by kernel_rfl, Ao rfl⟩
theorem okof3 (a0 : AE) (a1 : AE) (a2 : AE) : A1 Try.prog (Qs a0 a1 a2).1 (Qs a0 a1 a2).2.1 (Qs a0 a1 a2).2.2 := Aa (fun _ _ => by kernel_rfl) fun _ => pof3 a0 a1 a2
def Qr (e : AH) : FuncId × List Av × Ef := (73, [.agg (AH.c e)], .val [] (.tup [.agg [.val .nilFunc, .val .nilFunc, .val .nilFunc, .i e.Kind], .one (.b false)]))
theorem pofN (e : AH) (k1 : ¬ e.Kind = 1) (k2 : ¬ e.Kind = 2) (k3 : ¬ e.Kind = 3) : Bo Try.prog 73 (Qr e).2.1 (.tup [.agg [.val .nilFunc, .val .nilFunc, .val .nilFunc, .i e.Kind], .one (.b false)]) := by
 refine AX Try.func73 rfl kr kr fun W0 M0 => ?_
 refine AC <| rn ⟨[(1, tP 1 0), (2, tP 2 0)], [(1, .cells (AH.c e) 133), (2, .cells [.val .nilFunc, .val .nilFunc, .val .nilFunc, .i 0] 173)]⟩ <| AC ?_
 refine rc [(9, Ec e.Kind)] [Al (Ec e.Kind).2.1] ⟨[(1, tP 1 0), (2, tP 2 0), (4, tP 4 0), (5, tB false)], [(1, .cells (AH.c e) 133), (2, .cells [.val .nilFunc, .val .nilFunc, .val .nilFunc, .i 0] 173), (4, .cells [.val .nilFunc, .val .nilFunc, .val .nilFunc, .i e.Kind] 173)]⟩ (.cons (NG e.Kind k1 k2 k3) .nil) (.cons rfl .nil) <| AJ <| AC ?_
 refine dw [] [(17, Bh e.A), (22, Bh e.B), (27, Bh e.C)] [((false) = true) -> ((false) = true), ((false) = true) -> ((false) = true), ((false) = true) -> (Al (Bh e.A).2.1), (false) = true -> ((false) = true), ((false) = true) -> ((false) = true), ((false) = true) -> ((false) = true), ((false) = true) -> (Al (Bh e.B).2.1), (false) = true -> ((false) = true), ((false) = true) -> ((false) = true), ((false) = true) -> ((false) = true), ((false) = true) -> (Al (Bh e.C).2.1), (false) = true -> ((false) = true), ((false) = true) -> ((false) = true), ¬ ((false) = true), (false) = true -> ((false) = true)] ⟨[(2, tP 2 0), (3, tB false)], [(2, .cells [.val .nilFunc, .val .nilFunc, .val .nilFunc, .i e.Kind] 173)]⟩ (.cons (Ci e.A) (.cons (Ci e.B) (.cons (Ci e.C) .nil))) (.cons id (.cons id (.cons (fun _ => rfl) (.cons id (.cons id (.cons id (.cons (fun _ => rfl) (.cons id (.cons id (.cons id (.cons (fun _ => rfl) (.cons id (.cons id (.cons (by simp) (.cons id .nil))))))))))))))) <| AJ <| Aj ?_
 exact ⟨_, Cv.refl _, .inl rfl, .tup [.agg [.val .nilFunc, .val .nilFunc, .val .nilFunc, .i e.Kind], .one (.b false)], by kernel_rfl, Ao rfl⟩
theorem okofN (e : AH) (k1 : ¬ e.Kind = 1) (k2 : ¬ e.Kind = 2) (k3 : ¬ e.Kind = 3) : A1 Try.prog (Qr e).1 (Qr e).2.1 (Qr e).2.2 := Aa (fun _ _ => by kernel_rfl) fun _ => pofN e k1 k2 k3
def Kq (a0 : AE) (a1 : AE) (a2 : AE) (m : AO) : AH := AH.mk 1 (AW m a0) (AW m a1) a2
def VA (a0 : AE) (a1 : AE) (a2 : AE) (m : AO) : FuncId × List Av × Ef := (44, [.agg [.i 1, .i a0.X, .i a0.Y, .i a1.X, .i a1.Y, .i a2.X, .i a2.Y], .agg (AO.c m)], .val [] (.av (.agg (AH.c (Kq a0 a1 a2 m)))))
theorem Ub (a0 : AE) (a1 : AE) (a2 : AE) (m : AO) : Bo Try.prog 44 (VA a0 a1 a2 m).2.1 (.av (.agg (AH.c (Kq a0 a1 a2 m)))) := by
 refine AX Try.func44 rfl kr kr fun W0 M0 => ?_
 refine AC <| rn ⟨[(2, tP 2 0), (3, tP 3 0), (4, tP 4 0)], [(2, .cells [.i 1, .i a0.X, .i a0.Y, .i a1.X, .i a1.Y, .i a2.X, .i a2.Y] 133), (3, .cells (AO.c m) 66), (4, .cells [.i 0, .i 0, .i 0, .i 0, .i 0, .i 0, .i 0] 133)]⟩ ?_
 refine AC <| AC ?_
 refine rc [(9, Qu a0 a1 a2)] [Al (Qu a0 a1 a2).2.1] ⟨[(2, tP 2 0), (3, tP 3 0), (4, tP 4 0), (5, tP 5 0)], [(2, .cells [.i 1, .i a0.X, .i a0.Y, .i a1.X, .i a1.Y, .i a2.X, .i a2.Y] 133), (3, .cells (AO.c m) 66), (4, .cells [.i 0, .i 0, .i 0, .i 0, .i 0, .i 0, .i 0] 133), (5, .cells [.clo 95 0 (fun _ => default), .clo 96 0 (fun _ => default), .clo 97 0 (fun _ => default), .i 1] 173)]⟩ (.cons (okof1 a0 a1 a2) .nil) (.cons rfl .nil) <| AJ <| AC ?_
 refine rn ⟨[(2, tP 2 0), (3, tP 3 0), (4, tP 4 0), (5, tP 5 0), (13, tB m.Mirror)], [(2, .cells [.i 1, .i a0.X, .i a0.Y, .i a1.X, .i a1.Y, .i a2.X, .i a2.Y] 133), (3, .cells (AO.c m) 66), (4, .cells [.i 0, .i 0, .i 0, .i 0, .i 0, .i 0, .i 0] 133), (5, .cells [.clo 95 0 (fun _ => default), .clo 96 0 (fun _ => default), .clo 97 0 (fun _ => default), .i 1] 173)]⟩ ?_
 refine Bm (⟨[(2, tP 2 0), (3, tP 3 0), (4, tP 4 0)], [(2, .cells [.i 1, .i a0.X, .i a0.Y, .i a1.X, .i a1.Y, .i a2.X, .i a2.Y] 133), (3, .cells (AO.c m) 66), (4, .cells [.i 0, .i 0, .i 0, .i 0, .i 0, .i 0, .i 0] 133)]⟩) ?_ ?_
 ·refine Ae _ rfl (fun h1 => ?_) (fun h1 => ?_)
  ·refine rn ⟨[(2, tP 2 0), (3, tP 3 0), (4, tP 4 0)], [(2, .cells [.i 1, .i a0.X, .i a0.Y, .i a1.X, .i a1.Y, .i a2.X, .i a2.Y] 133), (3, .cells (AO.c m) 66), (4, .cells [.i 0, .i 0, .i 0, .i 0, .i 0, .i 0, .i 0] 133)]⟩ ?_
   refine A6 ?_
   first | rfl | (simp only [h1, cond_true, cond_false] <;> rfl)
  ·refine Ak <| AJ ?_
   refine Cv.trans (BA [2, 3, 4] [2, 3, 4] (⟨[(2, tP 2 0), (3, tP 3 0), (4, tP 4 0)], [(2, .cells [.i 1, .i a0.X, .i a0.Y, .i a1.X, .i a1.Y, .i a2.X, .i a2.Y] 133), (3, .cells (AO.c m) 66), (4, .cells [.i 0, .i 0, .i 0, .i 0, .i 0, .i 0, .i 0] 133)]⟩) kr) (A6 ?_)
   first | rfl | (simp only [h1, cond_true, cond_false] <;> rfl)
 refine AC <| AC ?_
 refine rn ⟨[(2, tP 2 0), (3, tP 3 0), (4, tP 4 0), (19, tB false)], [(2, .cells [.i 1, .i a0.X, .i a0.Y, .i a1.X, .i a1.Y, .i a2.X, .i a2.Y] 133), (3, .cells (AO.c m) 66), (4, .cells [.i 0, .i 0, .i 0, .i 0, .i 0, .i 0, .i 0] 133)]⟩ ?_
 refine EH kr <| Ak ?_
 refine AJ <| AC ?_
 refine dw [] [(28, Bb m a0), (32, Bb m a1)] [Al (Bb m a0).2.1, Al (Bb m a1).2.1] ⟨[(2, tP 2 0), (4, tP 4 0)], [(2, .cells [.i 1, .i ((AW m a0).X), .i ((AW m a0).Y), .i ((AW m a1).X), .i ((AW m a1).Y), .i a2.X, .i a2.Y] 133), (4, .cells [.i 0, .i 0, .i 0, .i 0, .i 0, .i 0, .i 0] 133)]⟩ (.cons (CV m a0) (.cons (CV m a1) .nil)) (.cons rfl (.cons rfl .nil)) <| AJ <| AC ?_
 refine rn ⟨[(4, tP 4 0)], [(4, .cells [.i 1, .i ((AW m a0).X), .i ((AW m a0).Y), .i ((AW m a1).X), .i ((AW m a1).Y), .i a2.X, .i a2.Y] 133)]⟩ <| Aj ?_
 exact ⟨_, Cv.refl _, .inl rfl, .av (.agg [.i 1, .i ((AW m a0).X), .i ((AW m a0).Y), .i ((AW m a1).X), .i ((AW m a1).Y), .i a2.X, .i a2.Y]), by kernel_rfl, Ao (by rfl)⟩
def Ko (a0 : AE) (a1 : AE) (a2 : AE) (m : AO) : AH := AH.mk (bif m.Mirror then 3 else 2) (AW m a0) (AW m a1) (AE.mk (bif !decide (((bif m.Mirror then 3 else 2) : Int) = 1) then ((AW m a2).X) else a2.X) (bif !decide (((bif m.Mirror then 3 else 2) : Int) = 1) then ((AW m a2).Y) else a2.Y))
def U9 (a0 : AE) (a1 : AE) (a2 : AE) (m : AO) : FuncId × List Av × Ef := (44, [.agg [.i 2, .i a0.X, .i a0.Y, .i a1.X, .i a1.Y, .i a2.X, .i a2.Y], .agg (AO.c m)], .val [] (.av (.agg (AH.c (Ko a0 a1 a2 m)))))
theorem Ua (a0 : AE) (a1 : AE) (a2 : AE) (m : AO) : Bo Try.prog 44 (U9 a0 a1 a2 m).2.1 (.av (.agg (AH.c (Ko a0 a1 a2 m)))) := by
 refine AX Try.func44 rfl kr kr fun W0 M0 => ?_
 refine AC <| rn ⟨[(2, tP 2 0), (3, tP 3 0), (4, tP 4 0)], [(2, .cells [.i 2, .i a0.X, .i a0.Y, .i a1.X, .i a1.Y, .i a2.X, .i a2.Y] 133), (3, .cells (AO.c m) 66), (4, .cells [.i 0, .i 0, .i 0, .i 0, .i 0, .i 0, .i 0] 133)]⟩ ?_
 refine AC <| AC ?_
 refine rc [(9, Qt a0 a1 a2)] [Al (Qt a0 a1 a2).2.1] ⟨[(2, tP 2 0), (3, tP 3 0), (4, tP 4 0), (5, tP 5 0)], [(2, .cells [.i 2, .i a0.X, .i a0.Y, .i a1.X, .i a1.Y, .i a2.X, .i a2.Y] 133), (3, .cells (AO.c m) 66), (4, .cells [.i 0, .i 0, .i 0, .i 0, .i 0, .i 0, .i 0] 133), (5, .cells [.clo 98 0 (fun _ => default), .clo 99 0 (fun _ => default), .clo 100 0 (fun _ => default), .i 3] 173)]⟩ (.cons (okof2 a0 a1 a2) .nil) (.cons rfl .nil) <| AJ <| AC ?_
 refine rn ⟨[(2, tP 2 0), (3, tP 3 0), (4, tP 4 0), (5, tP 5 0), (13, tB m.Mirror)], [(2, .cells [.i 2, .i a0.X, .i a0.Y, .i a1.X, .i a1.Y, .i a2.X, .i a2.Y] 133), (3, .cells (AO.c m) 66), (4, .cells [.i 0, .i 0, .i 0, .i 0, .i 0, .i 0, .i 0] 133), (5, .cells [.clo 98 0 (fun _ => default), .clo 99 0 (fun _ => default), .clo 100 0 (fun _ => default), .i 3] 173)]⟩ ?_
 refine Bm (⟨[(2, tP 2 0), (3, tP 3 0), (4, tP 4 0)], [(2, .cells [.i (bif m.Mirror then 3 else 2), .i a0.X, .i a0.Y, .i a1.X, .i a1.Y, .i a2.X, .i a2.Y] 133), (3, .cells (AO.c m) 66), (4, .cells [.i 0, .i 0, .i 0, .i 0, .i 0, .i 0, .i 0] 133)]⟩) ?_ ?_
 ·refine Ae _ rfl (fun h1 => ?_) (fun h1 => ?_)
  ·refine rn ⟨[(2, tP 2 0), (3, tP 3 0), (4, tP 4 0)], [(2, .cells [.i 3, .i a0.X, .i a0.Y, .i a1.X, .i a1.Y, .i a2.X, .i a2.Y] 133), (3, .cells (AO.c m) 66), (4, .cells [.i 0, .i 0, .i 0, .i 0, .i 0, .i 0, .i 0] 133)]⟩ ?_
   refine A6 ?_
   first | rfl | (simp only [h1, cond_true, cond_false] <;> rfl)
  ·refine Ak <| AJ ?_
   refine Cv.trans (BA [2, 3, 4] [2, 3, 4] (⟨[(2, tP 2 0), (3, tP 3 0), (4, tP 4 0)], [(2, .cells [.i 2, .i a0.X, .i a0.Y, .i a1.X, .i a1.Y, .i a2.X, .i a2.Y] 133), (3, .cells (AO.c m) 66), (4, .cells [.i 0, .i 0, .i 0, .i 0, .i 0, .i 0, .i 0] 133)]⟩) kr) (A6 ?_)
   first | rfl | (simp only [h1, cond_true, cond_false] <;> rfl)
 refine AC <| AC ?_
 refine rn ⟨[(2, tP 2 0), (3, tP 3 0), (4, tP 4 0), (19, tB (!decide (((bif m.Mirror then 3 else 2) : Int) = 1)))], [(2, .cells [.i (bif m.Mirror then 3 else 2), .i a0.X, .i a0.Y, .i a1.X, .i a1.Y, .i a2.X, .i a2.Y] 133), (3, .cells (AO.c m) 66), (4, .cells [.i 0, .i 0, .i 0, .i 0, .i 0, .i 0, .i 0] 133)]⟩ ?_
 refine Bm (⟨[(2, tP 2 0), (3, tP 3 0), (4, tP 4 0)], [(2, .cells [.i (bif m.Mirror then 3 else 2), .i a0.X, .i a0.Y, .i a1.X, .i a1.Y, .i (bif !decide (((bif m.Mirror then 3 else 2) : Int) = 1) then ((AW m a2).X) else a2.X), .i (bif !decide (((bif m.Mirror then 3 else 2) : Int) = 1) then ((AW m a2).Y) else a2.Y)] 133), (3, .cells (AO.c m) 66), (4, .cells [.i 0, .i 0, .i 0, .i 0, .i 0, .i 0, .i 0] 133)]⟩) ?_ ?_
 ·refine Ae _ rfl (fun h1 => ?_) (fun h1 => ?_)
  ·have g1 := Cp h1
   refine rc [(23, Bb m a2)] [Al (Bb m a2).2.1] ⟨[(2, tP 2 0), (3, tP 3 0), (4, tP 4 0)], [(2, .cells [.i (bif m.Mirror then 3 else 2), .i a0.X, .i a0.Y, .i a1.X, .i a1.Y, .i ((AW m a2).X), .i ((AW m a2).Y)] 133), (3, .cells (AO.c m) 66), (4, .cells [.i 0, .i 0, .i 0, .i 0, .i 0, .i 0, .i 0] 133)]⟩ (.cons (CV m a2) .nil) (.cons rfl .nil) <| AJ ?_
   refine A6 ?_
   first | rfl | (simp only [h1, cond_true, cond_false] <;> rfl)
  ·have g1 := Ck h1
   refine Ak <| AJ ?_
   refine Cv.trans (BA [2, 3, 4] [2, 3, 4] (⟨[(2, tP 2 0), (3, tP 3 0), (4, tP 4 0)], [(2, .cells [.i (bif m.Mirror then 3 else 2), .i a0.X, .i a0.Y, .i a1.X, .i a1.Y, .i a2.X, .i a2.Y] 133), (3, .cells (AO.c m) 66), (4, .cells [.i 0, .i 0, .i 0, .i 0, .i 0, .i 0, .i 0] 133)]⟩) kr) (A6 ?_)
   first | rfl | (simp only [h1, cond_true, cond_false] <;> rfl)
 refine AC <| dw [] [(28, Bb m a0), (32, Bb m a1)] [Al (Bb m a0).2.1, Al (Bb m a1).2.1] ⟨[(2, tP 2 0), (4, tP 4 0)], [(2, .cells [.i (bif m.Mirror then 3 else 2), .i ((AW m a0).X), .i ((AW m a0).Y), .i ((AW m a1).X), .i ((AW m a1).Y), .i (bif !decide (((bif m.Mirror then 3 else 2) : Int) = 1) then ((AW m a2).X) else a2.X), .i (bif !decide (((bif m.Mirror then 3 else 2) : Int) = 1) then ((AW m a2).Y) else a2.Y)] 133), (4, .cells [.i 0, .i 0, .i 0, .i 0, .i 0, .i 0, .i 0] 133)]⟩ (.cons (CV m a0) (.cons (CV m a1) .nil)) (.cons rfl (.cons rfl .nil)) <| AJ <| AC ?_
 refine rn ⟨[(4, tP 4 0)], [(4, .cells [.i (bif m.Mirror then 3 else 2), .i ((AW m a0).X), .i ((AW m a0).Y), .i ((AW m a1).X), .i ((AW m a1).Y), .i (bif !decide (((bif m.Mirror then 3 else 2) : Int) = 1) then ((AW m a2).X) else a2.X), .i (bif !decide (((bif m.Mirror then 3 else 2) : Int) = 1) then ((AW m a2).Y) else a2.Y)] 133)]⟩ <| Aj ?_
 exact ⟨_, Cv.refl _, .inl rfl, .av (.agg [.i (bif m.Mirror then 3 else 2), .i ((AW m a0).X), .i ((AW m a0).Y), .i ((AW m a1).X), .i ((AW m a1).Y), .i (bif !decide (((bif m.Mirror then 3 else 2) : Int) = 1) then ((AW m a2).X) else a2.X), .i (bif !decide (((bif m.Mirror then 3 else 2) : Int) = 1) then ((AW m a2).Y) else a2.Y)]), by kernel_rfl, Ao (by rfl)⟩
def Kn (a0 : AE) (a1 : AE) (a2 : AE) (m : AO) : AH := AH.mk (bif m.Mirror then 2 else 3) (AW m a0) (AW m a1) (AE.mk (bif !decide (((bif m.Mirror then 2 else 3) : Int) = 1) then ((AW m a2).X) else a2.X) (bif !decide (((bif m.Mirror then 2 else 3) : Int) = 1) then ((AW m a2).Y) else a2.Y))
def U8 (a0 : AE) (a1 : AE) (a2 : AE) (m : AO) : FuncId × List Av × Ef := (44, [.agg [.i 3, .i a0.X, .i a0.Y, .i a1.X, .i a1.Y, .i a2.X, .i a2.Y], .agg (AO.c m)], .val [] (.av (.agg (AH.c (Kn a0 a1 a2 m)))))
theorem UZ (a0 : AE) (a1 : AE) (a2 : AE) (m : AO) : Bo Try.prog 44 (U8 a0 a1 a2 m).2.1 (.av (.agg (AH.c (Kn a0 a1 a2 m)))) := by
 refine AX Try.func44 rfl kr kr fun W0 M0 => ?_
 refine AC <| rn ⟨[(2, tP 2 0), (3, tP 3 0), (4, tP 4 0)], [(2, .cells [.i 3, .i a0.X, .i a0.Y, .i a1.X, .i a1.Y, .i a2.X, .i a2.Y] 133), (3, .cells (AO.c m) 66), (4, .cells [.i 0, .i 0, .i 0, .i 0, .i 0, .i 0, .i 0] 133)]⟩ ?_
 refine AC <| AC ?_
 refine rc [(9, Qs a0 a1 a2)] [Al (Qs a0 a1 a2).2.1] ⟨[(2, tP 2 0), (3, tP 3 0), (4, tP 4 0), (5, tP 5 0)], [(2, .cells [.i 3, .i a0.X, .i a0.Y, .i a1.X, .i a1.Y, .i a2.X, .i a2.Y] 133), (3, .cells (AO.c m) 66), (4, .cells [.i 0, .i 0, .i 0, .i 0, .i 0, .i 0, .i 0] 133), (5, .cells [.clo 101 0 (fun _ => default), .clo 99 0 (fun _ => default), .clo 100 0 (fun _ => default), .i 2] 173)]⟩ (.cons (okof3 a0 a1 a2) .nil) (.cons rfl .nil) <| AJ <| AC ?_
 refine rn ⟨[(2, tP 2 0), (3, tP 3 0), (4, tP 4 0), (5, tP 5 0), (13, tB m.Mirror)], [(2, .cells [.i 3, .i a0.X, .i a0.Y, .i a1.X, .i a1.Y, .i a2.X, .i a2.Y] 133), (3, .cells (AO.c m) 66), (4, .cells [.i 0, .i 0, .i 0, .i 0, .i 0, .i 0, .i 0] 133), (5, .cells [.clo 101 0 (fun _ => default), .clo 99 0 (fun _ => default), .clo 100 0 (fun _ => default), .i 2] 173)]⟩ ?_
 refine Bm (⟨[(2, tP 2 0), (3, tP 3 0), (4, tP 4 0)], [(2, .cells [.i (bif m.Mirror then 2 else 3), .i a0.X, .i a0.Y, .i a1.X, .i a1.Y, .i a2.X, .i a2.Y] 133), (3, .cells (AO.c m) 66), (4, .cells [.i 0, .i 0, .i 0, .i 0, .i 0, .i 0, .i 0] 133)]⟩) ?_ ?_
 ·refine Ae _ rfl (fun h1 => ?_) (fun h1 => ?_)
  ·refine rn ⟨[(2, tP 2 0), (3, tP 3 0), (4, tP 4 0)], [(2, .cells [.i 2, .i a0.X, .i a0.Y, .i a1.X, .i a1.Y, .i a2.X, .i a2.Y] 133), (3, .cells (AO.c m) 66), (4, .cells [.i 0, .i 0, .i 0, .i 0, .i 0, .i 0, .i 0] 133)]⟩ ?_
   refine A6 ?_
   first | rfl | (simp only [h1, cond_true, cond_false] <;> rfl)
  ·refine Ak <| AJ ?_
   refine Cv.trans (BA [2, 3, 4] [2, 3, 4] (⟨[(2, tP 2 0), (3, tP 3 0), (4, tP 4 0)], [(2, .cells [.i 3, .i a0.X, .i a0.Y, .i a1.X, .i a1.Y, .i a2.X, .i a2.Y] 133), (3, .cells (AO.c m) 66), (4, .cells [.i 0, .i 0, .i 0, .i 0, .i 0, .i 0, .i 0] 133)]⟩) kr) (A6 ?_)
   first | rfl | (simp only [h1, cond_true, cond_false] <;> rfl)
 refine AC <| AC ?_
 refine rn ⟨[(2, tP 2 0), (3, tP 3 0), (4, tP 4 0), (19, tB (!decide (((bif m.Mirror then 2 else 3) : Int) = 1)))], [(2, .cells [.i (bif m.Mirror then 2 else 3), .i a0.X, .i a0.Y, .i a1.X, .i a1.Y, .i a2.X, .i a2.Y] 133), (3, .cells (AO.c m) 66), (4, .cells [.i 0, .i 0, .i 0, .i 0, .i 0, .i 0, .i 0] 133)]⟩ ?_
 refine Bm (⟨[(2, tP 2 0), (3, tP 3 0), (4, tP 4 0)], [(2, .cells [.i (bif m.Mirror then 2 else 3), .i a0.X, .i a0.Y, .i a1.X, .i a1.Y, .i (bif !decide (((bif m.Mirror then 2 else 3) : Int) = 1) then ((AW m a2).X) else a2.X), .i (bif !decide (((bif m.Mirror then 2 else 3) : Int) = 1) then ((AW m a2).Y) else a2.Y)] 133), (3, .cells (AO.c m) 66), (4, .cells [.i 0, .i 0, .i 0, .i 0, .i 0, .i 0, .i 0] 133)]⟩) ?_ ?_
 ·refine Ae _ rfl (fun h1 => ?_) (fun h1 => ?_)
  ·have g1 := Cp h1
   refine rc [(23, Bb m a2)] [Al (Bb m a2).2.1] ⟨[(2, tP 2 0), (3, tP 3 0), (4, tP 4 0)], [(2, .cells [.i (bif m.Mirror then 2 else 3), .i a0.X, .i a0.Y, .i a1.X, .i a1.Y, .i ((AW m a2).X), .i ((AW m a2).Y)] 133), (3, .cells (AO.c m) 66), (4, .cells [.i 0, .i 0, .i 0, .i 0, .i 0, .i 0, .i 0] 133)]⟩ (.cons (CV m a2) .nil) (.cons rfl .nil) <| AJ ?_
   refine A6 ?_
   first | rfl | (simp only [h1, cond_true, cond_false] <;> rfl)
  ·have g1 := Ck h1
   refine Ak <| AJ ?_
   refine Cv.trans (BA [2, 3, 4] [2, 3, 4] (⟨[(2, tP 2 0), (3, tP 3 0), (4, tP 4 0)], [(2, .cells [.i (bif m.Mirror then 2 else 3), .i a0.X, .i a0.Y, .i a1.X, .i a1.Y, .i a2.X, .i a2.Y] 133), (3, .cells (AO.c m) 66), (4, .cells [.i 0, .i 0, .i 0, .i 0, .i 0, .i 0, .i 0] 133)]⟩) kr) (A6 ?_)
   first | rfl | (simp only [h1, cond_true, cond_false] <;> rfl)
 refine AC <| dw [] [(28, Bb m a0), (32, Bb m a1)] [Al (Bb m a0).2.1, Al (Bb m a1).2.1] ⟨[(2, tP 2 0), (4, tP 4 0)], [(2, .cells [.i (bif m.Mirror then 2 else 3), .i ((AW m a0).X), .i ((AW m a0).Y), .i ((AW m a1).X), .i ((AW m a1).Y), .i (bif !decide (((bif m.Mirror then 2 else 3) : Int) = 1) then ((AW m a2).X) else a2.X), .i (bif !decide (((bif m.Mirror then 2 else 3) : Int) = 1) then ((AW m a2).Y) else a2.Y)] 133), (4, .cells [.i 0, .i 0, .i 0, .i 0, .i 0, .i 0, .i 0] 133)]⟩ (.cons (CV m a0) (.cons (CV m a1) .nil)) (.cons rfl (.cons rfl .nil)) <| AJ <| AC ?_
 refine rn ⟨[(4, tP 4 0)], [(4, .cells [.i (bif m.Mirror then 2 else 3), .i ((AW m a0).X), .i ((AW m a0).Y), .i ((AW m a1).X), .i ((AW m a1).Y), .i (bif !decide (((bif m.Mirror then 2 else 3) : Int) = 1) then ((AW m a2).X) else a2.X), .i (bif !decide (((bif m.Mirror then 2 else 3) : Int) = 1) then ((AW m a2).Y) else a2.Y)] 133)]⟩ <| Aj ?_
 exact ⟨_, Cv.refl _, .inl rfl, .av (.agg [.i (bif m.Mirror then 2 else 3), .i ((AW m a0).X), .i ((AW m a0).Y), .i ((AW m a1).X), .i ((AW m a1).Y), .i (bif !decide (((bif m.Mirror then 2 else 3) : Int) = 1) then ((AW m a2).X) else a2.X), .i (bif !decide (((bif m.Mirror then 2 else 3) : Int) = 1) then ((AW m a2).Y) else a2.Y)]), by kernel_rfl, Ao (by rfl)⟩
def Km (e : AH) (m : AO) : AH := AH.mk e.Kind (AW m e.A) (AW m e.B) (AE.mk (bif !decide ((e.Kind : Int) = 1) then ((AW m e.C).X) else e.C.X) (bif !decide ((e.Kind : Int) = 1) then ((AW m e.C).Y) else e.C.Y))
def U7 (e : AH) (m : AO) : FuncId × List Av × Ef := (44, [.agg (AH.c e), .agg (AO.c m)], .val [] (.av (.agg (AH.c (Km e m)))))
theorem UY (e : AH) (m : AO) (k1 : ¬ e.Kind = 1) (k2 : ¬ e.Kind = 2) (k3 : ¬ e.Kind = 3) : Bo Try.prog 44 (U7 e m).2.1 (.av (.agg (AH.c (Km e m)))) := by
 refine AX Try.func44 rfl kr kr fun W0 M0 => ?_
 refine AC <| rn ⟨[(2, tP 2 0), (3, tP 3 0), (4, tP 4 0)], [(2, .cells (AH.c e) 133), (3, .cells (AO.c m) 66), (4, .cells [.i 0, .i 0, .i 0, .i 0, .i 0, .i 0, .i 0] 133)]⟩ ?_
 refine AC <| AC ?_
 refine rc [(9, Qr e)] [Al (Qr e).2.1] ⟨[(2, tP 2 0), (3, tP 3 0), (4, tP 4 0), (5, tP 5 0)], [(2, .cells (AH.c e) 133), (3, .cells (AO.c m) 66), (4, .cells [.i 0, .i 0, .i 0, .i 0, .i 0, .i 0, .i 0] 133), (5, .cells [.val .nilFunc, .val .nilFunc, .val .nilFunc, .i e.Kind] 173)]⟩ (.cons (okofN e k1 k2 k3) .nil) (.cons rfl .nil) <| AJ <| AC ?_
 refine rn ⟨[(2, tP 2 0), (3, tP 3 0), (4, tP 4 0), (5, tP 5 0), (13, tB m.Mirror)], [(2, .cells (AH.c e) 133), (3, .cells (AO.c m) 66), (4, .cells [.i 0, .i 0, .i 0, .i 0, .i 0, .i 0, .i 0] 133), (5, .cells [.val .nilFunc, .val .nilFunc, .val .nilFunc, .i e.Kind] 173)]⟩ ?_
 refine Bm (⟨[(2, tP 2 0), (3, tP 3 0), (4, tP 4 0)], [(2, .cells (AH.c e) 133), (3, .cells (AO.c m) 66), (4, .cells [.i 0, .i 0, .i 0, .i 0, .i 0, .i 0, .i 0] 133)]⟩) ?_ ?_
 ·refine Ae _ rfl (fun h4 => ?_) (fun h4 => ?_)
  ·refine rn ⟨[(2, tP 2 0), (3, tP 3 0), (4, tP 4 0)], [(2, .cells (AH.c e) 133), (3, .cells (AO.c m) 66), (4, .cells [.i 0, .i 0, .i 0, .i 0, .i 0, .i 0, .i 0] 133)]⟩ ?_
   refine A6 ?_
   first | rfl | (simp only [h4, cond_true, cond_false] <;> rfl)
  ·refine Ak <| AJ ?_
   refine Cv.trans (BA [2, 3, 4] [2, 3, 4] (⟨[(2, tP 2 0), (3, tP 3 0), (4, tP 4 0)], [(2, .cells (AH.c e) 133), (3, .cells (AO.c m) 66), (4, .cells [.i 0, .i 0, .i 0, .i 0, .i 0, .i 0, .i 0] 133)]⟩) kr) (A6 ?_)
   first | rfl | (simp only [h4, cond_true, cond_false] <;> rfl)
 refine AC <| AC ?_
 refine rn ⟨[(2, tP 2 0), (3, tP 3 0), (4, tP 4 0), (19, tB (!decide ((e.Kind : Int) = 1)))], [(2, .cells (AH.c e) 133), (3, .cells (AO.c m) 66), (4, .cells [.i 0, .i 0, .i 0, .i 0, .i 0, .i 0, .i 0] 133)]⟩ ?_
 refine Bm (⟨[(2, tP 2 0), (3, tP 3 0), (4, tP 4 0)], [(2, .cells [.i e.Kind, .i e.A.X, .i e.A.Y, .i e.B.X, .i e.B.Y, .i (bif !decide ((e.Kind : Int) = 1) then ((AW m e.C).X) else e.C.X), .i (bif !decide ((e.Kind : Int) = 1) then ((AW m e.C).Y) else e.C.Y)] 133), (3, .cells (AO.c m) 66), (4, .cells [.i 0, .i 0, .i 0, .i 0, .i 0, .i 0, .i 0] 133)]⟩) ?_ ?_
 ·refine Ae _ rfl (fun h4 => ?_) (fun h4 => ?_)
  ·have g4 := Cp h4
   refine rc [(23, Bb m e.C)] [Al (Bb m e.C).2.1] ⟨[(2, tP 2 0), (3, tP 3 0), (4, tP 4 0)], [(2, .cells [.i e.Kind, .i e.A.X, .i e.A.Y, .i e.B.X, .i e.B.Y, .i ((AW m e.C).X), .i ((AW m e.C).Y)] 133), (3, .cells (AO.c m) 66), (4, .cells [.i 0, .i 0, .i 0, .i 0, .i 0, .i 0, .i 0] 133)]⟩ (.cons (CV m e.C) .nil) (.cons rfl .nil) <| AJ ?_
   refine A6 ?_
   first | rfl | (simp only [h4, cond_true, cond_false] <;> rfl)
  ·have g4 := Ck h4
   refine Ak <| AJ ?_
   refine Cv.trans (BA [2, 3, 4] [2, 3, 4] (⟨[(2, tP 2 0), (3, tP 3 0), (4, tP 4 0)], [(2, .cells (AH.c e) 133), (3, .cells (AO.c m) 66), (4, .cells [.i 0, .i 0, .i 0, .i 0, .i 0, .i 0, .i 0] 133)]⟩) kr) (A6 ?_)
   first | rfl | (simp only [h4, cond_true, cond_false] <;> rfl)
 refine AC <| dw [] [(28, Bb m e.A), (32, Bb m e.B)] [Al (Bb m e.A).2.1, Al (Bb m e.B).2.1] ⟨[(2, tP 2 0), (4, tP 4 0)], [(2, .cells [.i e.Kind, .i ((AW m e.A).X), .i ((AW m e.A).Y), .i ((AW m e.B).X), .i ((AW m e.B).Y), .i (bif !decide ((e.Kind : Int) = 1) then ((AW m e.C).X) else e.C.X), .i (bif !decide ((e.Kind : Int) = 1) then ((AW m e.C).Y) else e.C.Y)] 133), (4, .cells [.i 0, .i 0, .i 0, .i 0, .i 0, .i 0, .i 0] 133)]⟩ (.cons (CV m e.A) (.cons (CV m e.B) .nil)) (.cons rfl (.cons rfl .nil)) <| AJ <| AC ?_
 refine rn ⟨[(4, tP 4 0)], [(4, .cells [.i e.Kind, .i ((AW m e.A).X), .i ((AW m e.A).Y), .i ((AW m e.B).X), .i ((AW m e.B).Y), .i (bif !decide ((e.Kind : Int) = 1) then ((AW m e.C).X) else e.C.X), .i (bif !decide ((e.Kind : Int) = 1) then ((AW m e.C).Y) else e.C.Y)] 133)]⟩ <| Aj ?_
 exact ⟨_, Cv.refl _, .inl rfl, .av (.agg [.i e.Kind, .i ((AW m e.A).X), .i ((AW m e.A).Y), .i ((AW m e.B).X), .i ((AW m e.B).Y), .i (bif !decide ((e.Kind : Int) = 1) then ((AW m e.C).X) else e.C.X), .i (bif !decide ((e.Kind : Int) = 1) then ((AW m e.C).Y) else e.C.Y)]), by kernel_rfl, Ao (by rfl)⟩
def CJ (e : AH) (m : AO) : AH := if e.Kind = 1 then Kq e.A e.B e.C m else if e.Kind = 2 then Ko e.A e.B e.C m else if e.Kind = 3 then Kn e.A e.B e.C m else Km e m
def Lj (e : AH) (m : AO) : FuncId × List Av × Ef := (44, [.agg (AH.c e), .agg (AO.c m)], .val [] (.av (.agg (AH.c (CJ e m)))))
theorem pMove (e : AH) (m : AO) : Bo Try.prog 44 (Lj e m).2.1 (.av (.agg (AH.c (CJ e m)))) := by
 by_cases k1 : e.Kind = 1
 ·have hF : CJ e m = Kq e.A e.B e.C m := by unfold CJ; rw [if_pos k1]
  rw [hF]; obtain ⟨k, a0, a1, a2⟩ := e; simp only at k1; subst k1; exact Ub a0 a1 a2 m
 by_cases k2 : e.Kind = 2
 ·have hF : CJ e m = Ko e.A e.B e.C m := by unfold CJ; rw [if_neg k1]; rw [if_pos k2]
  rw [hF]; obtain ⟨k, a0, a1, a2⟩ := e; simp only at k2; subst k2; exact Ua a0 a1 a2 m
 by_cases k3 : e.Kind = 3
 ·have hF : CJ e m = Kn e.A e.B e.C m := by unfold CJ; rw [if_neg k1]; rw [if_neg k2]; rw [if_pos k3]
  rw [hF]; obtain ⟨k, a0, a1, a2⟩ := e; simp only at k3; subst k3; exact UZ a0 a1 a2 m
 have hF : CJ e m = Km e m := by unfold CJ; rw [if_neg k1, if_neg k2, if_neg k3]
 rw [hF]; exact UY e m k1 k2 k3
theorem Um (e : AH) (m : AO) : A1 Try.prog (Lj e m).1 (Lj e m).2.1 (Lj e m).2.2 := Aa (fun _ _ => by kernel_rfl) fun _ => pMove e m
end
section
open Go.ChangeShapes Go.WideShapes Go.ChangeAt Go.RowKit
theorem own : ownKnob Try.prog.godebug = none := by kernel_rfl
theorem Ti : laidOutB Try.prog = true := by kernel_rfl
theorem opT82 : EQ Try.prog 82 (fun xs : List Int => [lst 1 (fun x => [.i x]) xs]) (fun xs => xs.length <= maxLen /\ ∀ x ∈ xs, WF .i64 x) := Ew 1 Try.underlying82 kr (by decide) (FJ Try.underlying3)
theorem opT22 : EQ Try.prog 22 (fun xs : List (List Int) => [lst 1 (fun x => [lst 1 (fun x => [.i x]) x]) xs]) (fun xs => xs.length <= maxLen /\ ∀ x ∈ xs, (x.length <= maxLen /\ ∀ y ∈ x, WF .i64 y)) := Ew 1 Try.underlying22 kr (by decide) opT82
def AE.ok (x : AE) : Prop := WF .i64 x.X /\ WF .i64 x.Y /\ True
theorem opT52 : EQ Try.prog 52 AE.c AE.ok := by
 refine HA (FD Try.underlying52 kr (CR 1 kr rfl (FJ Try.underlying3) (CR 1 kr rfl (FJ Try.underlying3) GT))) ?_
 rintro ⟨a0, a1, _⟩ ⟨h0, h1, _⟩
 exact ⟨⟨a0, a1⟩, ⟨h0, h1, trivial⟩, rfl⟩
def AD.ok (x : AD) : Prop := WF .i64 x.Id /\ x.Ref.size <= maxLen /\ x.Type'.size <= maxLen /\ AE.ok x.At /\ WF .i64 x.Turn /\ True /\ True
theorem opT59 : EQ Try.prog 59 AD.c AD.ok := by
 refine HA (FD Try.underlying59 kr (CR 1 kr rfl (FJ Try.underlying3) (CR 1 kr rfl (EL Try.underlying9) (CR 1 kr rfl (EL Try.underlying9) (CR 2 kr rfl opT52 (CR 1 kr rfl (FJ Try.underlying3) (CR 1 kr rfl (Od Try.underlying4) GT))))))) ?_
 rintro ⟨a0, a1, a2, a3, a4, a5, _⟩ ⟨h0, h1, h2, h3, h4, h5, _⟩
 exact ⟨⟨a0, a1, a2, a3, a4, a5⟩, ⟨h0, h1, h2, h3, h4, h5, trivial⟩, rfl⟩
theorem opT30 : EQ Try.prog 30 (fun xs : List AD => [lst 7 AD.c xs]) (fun xs => xs.length <= maxLen /\ ∀ x ∈ xs, AD.ok x) := Ew 7 Try.underlying30 kr (by decide) opT59
def AR.ok (x : AR) : Prop := x.Ref.size <= maxLen /\ x.Pad.size <= maxLen /\ True
theorem opT25 : EQ Try.prog 25 AR.c AR.ok := by
 refine HA (FD Try.underlying25 kr (CR 1 kr rfl (EL Try.underlying9) (CR 1 kr rfl (EL Try.underlying9) GT))) ?_
 rintro ⟨a0, a1, _⟩ ⟨h0, h1, _⟩
 exact ⟨⟨a0, a1⟩, ⟨h0, h1, trivial⟩, rfl⟩
theorem opT46 : EQ Try.prog 46 (fun xs : List AR => [lst 2 AR.c xs]) (fun xs => xs.length <= maxLen /\ ∀ x ∈ xs, AR.ok x) := Ew 2 Try.underlying46 kr (by decide) opT25
def Ad.ok (x : Ad) : Prop := x.Name.size <= maxLen /\ (x.Pins.length <= maxLen /\ ∀ y ∈ x.Pins, AR.ok y) /\ True
theorem opT48 : EQ Try.prog 48 Ad.c Ad.ok := by
 refine HA (FD Try.underlying48 kr (CR 1 kr rfl (EL Try.underlying9) (CR 1 kr rfl opT46 GT))) ?_
 rintro ⟨a0, a1, _⟩ ⟨h0, h1, _⟩
 exact ⟨⟨a0, a1⟩, ⟨h0, h1, trivial⟩, rfl⟩
theorem opT31 : EQ Try.prog 31 (fun xs : List Ad => [lst 2 Ad.c xs]) (fun xs => xs.length <= maxLen /\ ∀ x ∈ xs, Ad.ok x) := Ew 2 Try.underlying31 kr (by decide) opT48
end
section
open Go.RowKit
def IWL (P : Program) (N : Nat) (Ow : World -> Nat -> Prop) (n0 : Nat) (ops : Array Oper) (l : List Oper) (Q : IQ) (s : AS) (J : World -> Prop) (al : Bool) : Prop :=
 ∀ W0 M σ a w, (J W0 /\ a.defers = [] /\ IOk Ow n0 al M W0) -> Sim N W0 noX M M σ (get s.t) (get s.h) a w -> wpListIn (FW none) 0 P ops (fun e a' w' => ∃ s' J' al' W0' M' σ', Q e s' J' al' /\ (J' W0' /\ a'.defers = [] /\ IOk Ow n0 al' M' W0') /\ Sim N W0' noX M' M' σ' (get s'.t) (get s'.h) a' w') l a w
section
variable {P : Program} {N : Nat} {Ow : World → Nat → Prop} {n0 : Nat} {Q : IQ} {s : AS} {J : World → Prop} {al : Bool} {ops : Array Oper} {l : List Oper} {o : Oper}
theorem KJ {id : Nat} (h : IWL P N Ow n0 l.toArray l Q s J al) : IWp P N Ow n0 (.region id l.toArray false) Q s J al := fun W0 M σ a w hJ hs => wpIn_region_lit (h W0 M σ a w hJ hs)
theorem II (hO : OwS Ow n0) {E : TypeId -> Option (List Kd)} (hE : HZ P ⟨fun _ => none, E, fun _ => false, fun _ => none⟩) (k : Nat) (ts : List Nat) (cs : List Prop) (T : List (Nat × Tv)) (hr : LB P ⟨Gr [], E, Bc [], get []⟩ N ops (l.take k) ts [] s = some (cs, ⟨T, []⟩)) (hc : CA cs)
  (hdv : ∀ i v, get s.t i = some v -> v.dv = true) (hh : s.h = []) (h : IWL P N Ow n0 ops (l.drop k) Q ⟨T, []⟩ J al) : IWL P N Ow n0 ops l Q s J al := by
 have hV : Ij P ⟨Gr [], E, Bc [], get []⟩ := (GM.nil (P := P)).env (O := Bc []) (q := get []) hE
 intro W0 M σ a w hJ hs
 unfold LB at hr
 split at hr
 ·rename_i cs1 s1 h1
  simp only [Option.some.injEq, Prod.mk.injEq] at hr
  obtain ⟨rfl, hS⟩ := hr
  have key := Ju (rd := none) (ops := ops) (Q' := fun e a' w' => ∃ s' J' al' W0' M' σ', Q e s' J' al' /\ (J' W0' /\ a'.defers = [] /\ IOk Ow n0 al' M' W0') /\ Sim N W0' noX M' M' σ' (get s'.t) (get s'.h) a' w') hV (l.drop k) (l.take k) s s1 cs1 h1 hc M _ a w (Jr hdv hh hJ.2.1 hs) fun M' σ' a' w' hs' => by
   have hs2 := Eu hs' ts []
   rw [hS] at hs2
   obtain ⟨hd, hs3⟩ := Ho hs2
   exact h W0 M' σ' a' w' ⟨hJ.1, hd, IK hJ.2.2 hO hs2⟩ hs3
  rw [List.take_append_drop] at key
  exact key
 ·cases hr
theorem MH (h : Q .normal s J al) : IWL P N Ow n0 ops [] Q s J al := fun W0 M σ a w hJ hs => ⟨s, J, al, W0, M, σ, h, hJ, hs⟩
theorem KI (ts : List Nat) (S : AS) (hS : KH ts [] s = S) (h : IWL P N Ow n0 ops l Q S J al) : IWL P N Ow n0 ops l Q s J al := by
 subst hS
 exact fun W0 M σ a w hJ hs => h W0 M σ a w hJ (Eu hs ts [])
theorem Oo (hO : OwS Ow n0) (hwant : ∀ (M : Nat -> Option Obj) (σ : Nat -> Loc) (a : Act), (∀ i v, get s.t i = some v -> RT M σ v (a.tmps.getD i undef)) -> a.tmps.size = N -> Region.wanted o (yielded ops a.tmps) = true) {c : Call} {f : Operand} {ly d : Nat} (xs : List Av) (ho : o.op = .call c) (hcf : c.callee = .value f)
  (hf : evT (get s.t) f = some (.av (.one (.val (.func (.yield ly) #[] #[]))))) (hxs : D3 (evT (get s.t)) c.args.toList = some xs) (hv : xs.all Av.isV = true) (hod : o.dst = some d) (hdN : Nat.blt d N = true) (hT1 : ∀ i v, get s.t i = some v -> v.dv = true /\ TvM v)
  (hJg : ∀ A B, J A -> A.grownBy B none -> J B) (Jt Jf : World -> Prop)
  (hY : ∀ W, J W -> YieldAt (FW none) 0 P ly (xs.map Av.toV).toArray W (fun e W' => (e = .returned (.bool true) /\ Jt W' /\ KpS Ow W W') \/ (e = .returned (.bool false) /\ Jf W')))
  (tf : List Nat) (htf : ∀ i v, get (Gq s.t tf) i = some v -> ∃ u, v = .av (.one (.val u))) (hh : s.h = [])
  (ht : IWL P N Ow n0 ops l Q ⟨(d, tB true) :: s.t, []⟩ Jt true) (hff : IWL P N Ow n0 ops l Q ⟨(d, tB false) :: Gq s.t tf, []⟩ Jf false) : IWL P N Ow n0 ops (o :: l) Q s J true := by
 intro W0 M σ a w hJ hs
 refine wpListIn_step fun K0 hK' => ?_
 rw [if_pos (hwant M σ a hs.tmps hs.room)]
 have hgrow : W0.grownBy w none := { os := hs.os, tape := hs.tape, output := hs.output, size := hs.size, block := fun b hb _ => hs.old b hb (Ep b) }
 have hiok := hJ.2.2
 have hdN' : d < N := by have := Nat.le_of_ble_eq_true hdN; omega
 have hput : ∀ (b : Bool) (T : List (Nat × Tv)) (M' : Nat -> Option Obj) (σ' : Nat -> Loc), (∀ i v, get T i = some v -> RT M' σ' v (a.tmps.getD i undef)) -> ∀ i v, get ((d, tB b) :: T) i = some v -> RT M' σ' v ((a.put o.dst (.bool b)).tmps.getD i undef) := fun b T M' σ' hT i v hv => by
  have hds : d < a.tmps.size := by rw [hs.room]; exact hdN'
  simp only [get, CW] at hv
  rw [hod]
  by_cases hi : d = i
  ·subst hi
   simp at hv; subst hv
   have : (a.put (some d) (.bool b)).tmps.getD d undef = .bool b := by simp [Act.put, Array.getD_eq_getD_getElem?, hds]
   rw [this]
   exact ⟨rfl, rfl⟩
  ·simp [hi] at hv
   have : (a.put (some d) (.bool b)).tmps.getD i undef = a.tmps.getD i undef := by simp [Act.put, Array.getD_eq_getD_getElem?, Array.getElem?_setIfInBounds, hi]
   rw [this]; exact hT i v hv
 have hsize : ∀ b : Bool, (a.put o.dst (.bool b)).tmps.size = N := fun b => by rw [hod]; simpa [Act.put] using hs.room
 have hdef : ∀ b : Bool, (a.put o.dst (.bool b)).defers = [] := fun b => by rw [hod]; simpa [Act.put] using hJ.2.1
 have hnew : ∀ (b : Bool) (w2 : World) (T : List (Nat × Tv)) (Mn : Nat -> Option Obj), (∀ i v, get T i = some v -> RT Mn σ v (a.tmps.getD i undef)) -> (∀ b o, Mn b = some o -> w2.heap[b]? = some o) -> Sim N w2 noX Mn Mn σ (get ((d, tB b) :: T)) (get []) (a.put o.dst (.bool b)) w2 := fun b w2 T Mn hT himm =>
  ⟨rfl, rfl, rfl, Nat.le_refl _, fun _ _ _ => rfl, fun _ _ h => h, fun b o h h' => (by rw [h] at h'; cases h'), fun m x hx => (by cases hx), ⟨by rw [hdef b]; trivial, fun _ => hdef b⟩, hsize b, hput b T Mn σ hT, himm, fun n b hb => (by cases hb), fun n b hb => (by cases hb), fun n m b c hb => (by cases hb)⟩
 refine Q3 hs.tmps ho hcf hf hxs hv (hY w (hJg W0 w hJ.1 hgrow)) fun e w2 he => ?_
 rcases he with ⟨rfl, h5, h6⟩ | ⟨rfl, h5⟩
 ·have hst : ∀ b, Ow w b -> Ow W0 b := hO.st W0 w (hiok rfl).1 fun b hb => hs.old b hb (Ep b)
  refine ⟨_, rfl, hK' _ _ (ht w2 (MY M) σ _ w2 ⟨h5, hdef true, fun _ => ⟨Nat.le_trans (hiok rfl).1 (Nat.le_trans hs.size h6.1), fun b h => (h6.2.2 b h).elim (fun h7 => Nat.lt_of_lt_of_le ((hiok rfl).2.1 b (hst b h7)) (Nat.le_trans hs.size h6.1)) And.right, fun b o' h hw2 => ?_⟩⟩ (hnew true w2 s.t (MY M) (fun i v hv => PF Hy (hs.tmps i v hv) (hT1 i v hv).2) fun b o' h => ?_))⟩
  ·rcases h6.2.2 b hw2 with h7 | h7
   ·exact (hiok rfl).2.2 b o' (Do h).1 (hst b h7)
   ·have := (Array.getElem?_eq_some_iff.1 (hs.imm b o' (Do h).1)).1; omega
  ·exact h6.2.1 b o' (hs.imm b o' (Do h).1) (Do h).2 fun h7 => (hiok rfl).2.2 b o' (Do h).1 (hst b h7)
 ·refine ⟨_, rfl, hK' _ _ (hff w2 noM σ _ w2 ⟨h5, hdef false, fun h => by cases h⟩ (hnew false w2 (Gq s.t tf) noM (fun i v hv => ?_) fun b o' h => by cases h))⟩
  obtain ⟨u, rfl⟩ := htf i v hv
  exact hs.tmps i _ (GC _ _ _ _ hv)
theorem Ot (hO : OwS Ow n0) (hgn : o.guard = none) {c : Call} {f : Operand} {ly d : Nat} (xs : List Av) (ho : o.op = .call c) (hcf : c.callee = .value f)
  (hf : evT (get s.t) f = some (.av (.one (.val (.func (.yield ly) #[] #[]))))) (hxs : D3 (evT (get s.t)) c.args.toList = some xs) (hv : xs.all Av.isV = true) (hod : o.dst = some d) (hdN : Nat.blt d N = true) (hT1 : ∀ i v, get s.t i = some v -> v.dv = true /\ TvM v)
  (hJg : ∀ A B, J A -> A.grownBy B none -> J B) (Jt Jf : World -> Prop)
  (hY : ∀ W, J W -> YieldAt (FW none) 0 P ly (xs.map Av.toV).toArray W (fun e W' => (e = .returned (.bool true) /\ Jt W' /\ KpS Ow W W') \/ (e = .returned (.bool false) /\ Jf W')))
  (tf : List Nat) (htf : ∀ i v, get (Gq s.t tf) i = some v -> ∃ u, v = .av (.one (.val u))) (hh : s.h = [])
  (ht : IWL P N Ow n0 ops l Q ⟨(d, tB true) :: s.t, []⟩ Jt true) (hff : IWL P N Ow n0 ops l Q ⟨(d, tB false) :: Gq s.t tf, []⟩ Jf false) : IWL P N Ow n0 ops (o :: l) Q s J true :=
 Oo hO (fun M σ a h1 h2 => by simp [Region.wanted, hgn]) xs ho hcf hf hxs hv hod hdN hT1 hJg Jt Jf hY tf htf hh ht hff
theorem Ms {W0 w : World} {M0 M : Nat -> Option Obj} {σ : Nat -> Loc} {T : Nat -> Option Tv} {H : Nat -> Option Blk} {a : Act} (h : Sim N W0 noX M0 M σ T H a w) (hd : a.defers = []) : Sim N W0 noX M M σ T H a w :=
 ⟨h.os, h.tape, h.output, h.size, h.old, fun _ _ h => h, fun b o h h' => (by rw [h] at h'; cases h'), h.pin, ⟨by rw [hd]; trivial, fun _ => hd⟩, h.room, h.tmps, h.imm, h.blk, h.loc, h.inj⟩
theorem R0 {c : Code} {S : AS} (hO : OwS Ow n0) (h : ∀ W0 M1, Cv N W0 noX M1 s S) (k : IWp P N Ow n0 c Q S J al) : IWp P N Ow n0 c Q s J al := by
 intro W0 M σ a w hJ hs
 obtain ⟨M', σ', h2⟩ := h W0 M M σ a w hs
 exact k W0 M' σ' a w ⟨hJ.1, hJ.2.1, IK hJ.2.2 hO h2⟩ (Ms h2 hJ.2.1)
end
end
section
open Go.RowKit
theorem Sn {M : Nat -> Option Obj} {c : Cl} {V : Value} (h : RC M c V) : V.oneCell' = true := by
 cases h with
 | val v h => exact h
 | any V h => exact h
 | _ => rfl
abbrev Sa (t : Bool) (sz len : Nat) (f : Nat -> Nat -> Cl) : Cl := .eptr 1 1 (fun _ j => ([.list t sz len f] : List Cl).getD j default) 0 0
theorem S5 {M : Nat -> Option Obj} {t : Bool} {sz len : Nat} {f : Nat -> Nat -> Cl} {v : Value} (h : RC M (.list t sz len f) v) : ∃ g : Nat -> Nat -> Value, RC M (.list t sz len (fun i j => .val (g i j))) v /\ ∀ i j, i < len -> j < sz -> RC M (f i j) (g i j) := by
 cases h with
 | nil _ _ _ h0 => exact ⟨fun _ _ => undef, .nil _ _ _ h0, fun i j hi => by omega⟩
 | mt _ _ _ a cap => exact ⟨fun _ _ => undef, .mt _ _ _ a cap, fun i j hi => by omega⟩
 | list _ _ _ _ b off cap g h1 h2 h4 => exact ⟨g, .list _ _ _ _ b off cap g h1 (fun i j hi hj => .val _ (Sn (h2 i j hi hj))) h4, h2⟩
theorem ON {M : Nat -> Option Obj} {t : Bool} {sz len : Nat} {f : Nat -> Nat -> Cl} {V : Value} (h : RC M (Sa t sz len f) V) : ∃ g : Nat -> Nat -> Value, RC M (Sa t sz len (fun i j => .val (g i j))) V /\ ∀ i j, i < len -> j < sz -> RC M (f i j) (g i j) := by
 cases h with
 | eptr _ _ _ _ _ b base g0 h1 h2 =>
  obtain ⟨g, hg1, hg2⟩ := S5 (h2 0 (by decide))
  exact ⟨g, .eptr _ _ _ _ _ _ _ g0 h1 (fun j hj => by
   have : j = 0 := by omega
   subst this; exact hg1), hg2⟩
end
section
open Go.RowKit
section
variable {P : Program}
def WrR (P : Program) (f : FuncId) (K : Nat) (xs : List Av) (sz len : Nat) (F0 : Nat -> Nat -> Cl) (ty : TypeId) (r : Tv) (F1 : Nat -> Nat -> Cl) : Prop := ∀ (M : Nat -> Option Obj) (σ : Nat -> Loc) (w : World) (args : List Value), (∀ b o, M b = some o -> w.heap[b]? = some o) -> Bz M σ w (σ K) (.row sz len F0 ty) -> ((σ K).nil = true \/ M (σ K).b = none) -> L2 (RA M σ) xs args ->
 Calls P f args.toArray w fun en w' => ∃ U, en = .returned U /\ ∃ M', Fz w w' M M' (only (σ K)) /\ (∀ σ', RT M' σ' r U) /\ ∀ σ', Bz M' σ' w' (σ K) (.row sz len F1 ty)
theorem Hm {f : FuncId} {fn : Func} {c : Code} (hf : P.funcs[f]? = some fn) (hb : fn.body = some c) {K : Nat} {xs : List Av} {sz len : Nat} {F0 F1 : Nat -> Nat -> Cl} {ty : TypeId} {r : Tv} (hN : Nat.ble xs.length fn.ntmps = true) (hK : Nat.ble fn.ntmps K = true) (hd : r.dv = true)
  (h : ∀ (W0 : World) (M0 : Nat -> Option Obj) (X : Nat -> Option Loc), (∀ k x, X k = some x -> Bc [K] k = true) -> AWp P none fn.ntmps W0 X M0 c (Ss P fn.ntmps W0 X M0 fn fun r' s' => TvE r' r /\ ∃ b, get s'.h K = some b /\ GP b (.row sz len F1 ty)) ⟨EP 0 xs, [(K, .row sz len F0 ty)]⟩) : WrR P f K xs sz len F0 ty r F1 := by
 intro M σ w args himm hblk hM hargs
 have one : ∀ n b, get [(K, Blk.row sz len F0 ty)] n = some b -> n = K /\ b = .row sz len F0 ty := fun n b hn => by
  simp only [get, CW] at hn
  by_cases hk : K = n
  ·simp [hk] at hn; exact ⟨hk.symm, hn.symm⟩
  ·simp [hk] at hn
 by_cases hnil : (σ K).nil = true
 ·have hlen : len = 0 := by
   rcases hblk with h0 | ⟨h0, _⟩
   ·exact h0.2
   ·rw [hnil] at h0; cases h0
  refine EF (X := noX) (σ := σ) (h0 := [(K, .row sz len F0 ty)]) hf hb (Nat.le_of_ble_eq_true hN) himm hargs (fun n b hn => ?_) (fun n b hn => ?_) (fun n x hx => by cases hx) (fun n m b c hn hm hne => ?_) (D2 (h w M noX (fun k x hk => by cases hk))) ?_
  ·obtain ⟨rfl, rfl⟩ := one n b hn; exact hblk
  ·obtain ⟨rfl, rfl⟩ := one n b hn; exact .inl hnil
  ·exact absurd ((one n b hn).1.trans (one m c hm).1.symm) hne
  ·rintro r' s' M' σ' a' w' U ⟨he, b, hb1, hbe⟩ hs hR
   exact ⟨U, rfl, M', ⟨hs.os, hs.tape, hs.output, hs.size, fun b hb hne => hs.old b hb (Ep b), hs.sub, hs.new, hs.imm⟩, fun σ'' => Fy hd (H4 he hR), fun σ'' => .inl ⟨hnil, hlen⟩⟩
 ·have hnil : (σ K).nil = false := by simpa using hnil
  have hMK : M (σ K).b = none := by
   rcases hM with h1 | h1
   ·rw [hnil] at h1; cases h1
   ·exact h1
  let X : Nat -> Option Loc := upd noX K (some (σ K))
  have hX : X K = some (σ K) := BU _ _ _
  have pins : ∀ n x, X n = some x -> n = K /\ x = σ K := fun n x hx => by
   by_cases hk : n = K
   ·subst hk; rw [hX] at hx; injection hx with hx; exact ⟨rfl, hx.symm⟩
   ·simp only [X] at hx; rw [CK _ _ hk] at hx; cases hx
  have hXK : ∀ k x, X k = some x -> Bc [K] k = true := fun k x hk => by rw [(pins k x hk).1]; exact IF _
  refine EF (X := X) (σ := σ) (h0 := [(K, .row sz len F0 ty)]) hf hb (Nat.le_of_ble_eq_true hN) himm hargs (fun n b hn => ?_) (fun n b hn => ?_) (fun n x hx => ?_) (fun n m b c hn hm hne => ?_) (D2 (h w M X hXK)) ?_
  ·obtain ⟨rfl, rfl⟩ := one n b hn; exact hblk
  ·obtain ⟨rfl, rfl⟩ := one n b hn; exact .inr ⟨hMK, n, σ n, hX, rfl⟩
  ·obtain ⟨rfl, rfl⟩ := pins n x hx; exact ⟨Nat.le_of_ble_eq_true hK, rfl⟩
  ·exact absurd ((one n b hn).1.trans (one m c hm).1.symm) hne
  ·rintro r' s' M' σ' a' w' U ⟨he, b, hb1, hbe⟩ hs hR
   have hpin := (hs.pin K _ hX).2
   have hbk := hs.blk K _ hb1
   rw [hpin] at hbk
   refine ⟨U, rfl, M', ⟨hs.os, hs.tape, hs.output, hs.size, fun b hb hne => hs.old b hb ?_, hs.sub, hs.new, hs.imm⟩, fun σ'' => Fy hd (H4 he hR), fun σ'' => (HW hbe hbk : Bz M' σ' w' (σ K) (.row sz len F1 ty))⟩
   rintro ⟨n, x, hx, rfl⟩
   obtain ⟨rfl, rfl⟩ := pins n x hx
   exact hne ⟨hnil, rfl⟩
theorem H1 {α : Type} [Inhabited α] {c : α -> List Cl} {xs ys : List α} {sz n : Nat} {ty : TypeId} (h : xs = ys) (hl : xs.length = n) : GP (.row sz xs.length (AY c xs) ty) (.row sz n (AY c ys) ty) := by
 subst h hl
 exact .refl _
def Lu (K n : Nat) : Av -> Av
 | .one (.own m sz len) => bif Nat.beq m K then .one (.own n sz len) else .one (.own m sz len)
 | x => x
def RG (K : Nat) : Av -> Bool
 | .one (.own m _ _) => Nat.beq m K
 | x => x.dv
theorem Hz {f : FuncId} {K n : Nat} {xs : List Av} {sz len : Nat} {F0 F1 : Nat -> Nat -> Cl} {ty : TypeId} {r : Tv} (h1 : ∀ args w, (callFunc f args).run P w = .ok (.enter f args) w) (hx : xs.all (RG K) = true) (h : WrR P f K xs sz len F0 ty r F1) : A1 P f (xs.map (Lu K n)) (wrI n (.row sz len F0 ty) r (.row sz len F1 ty)) := by
 refine .inl ⟨h1, fun M σ w hh args cs' g hs hargs hres hc => ?_⟩
 simp only [wrI, res, Fw] at hres
 cases hn : hh n with
 | none => rw [hn] at hres; cases hres
 | some b =>
  rw [hn] at hres
  simp only [Option.some.injEq, Prod.mk.injEq] at hres
  obtain ⟨rfl, rfl⟩ := hres
  have := hc.head
  subst this
  have hblk := hs.blk n _ hn
  let σ2 : Nat -> Loc := upd σ K (σ n)
  have hK : σ2 K = σ n := BU _ _ _
  have hargs2 : L2 (RA M σ2) xs args := by
   refine L2.of (by have := hargs.length; simpa using this) fun i x V hxi hV => ?_
   obtain ⟨V', hV', hR⟩ := hargs.get i (Lu K n x) (by rw [List.getElem?_map, hxi]; rfl)
   rw [hV] at hV'; injection hV' with hV'; subst hV'
   have hok := (List.all_eq_true.1 hx) x (List.mem_of_getElem? hxi)
   unfold RG at hok
   split at hok
   ·rename_i m sz' len'
    simp only [Lu, hok, cond_true] at hR
    have := Nat.eq_of_beq_eq_true hok
    subst this
    have hR' : R M σ (.own n sz' len') V := hR
    show R M σ2 (.own m sz' len') V
    unfold R at hR' ⊢
    rw [hK]; exact hR'
   ·rename_i hne
    have : Lu K n x = x := by
     unfold Lu
     split
     ·rename_i m a b; exact (hne m a b rfl).elim
     ·rfl
    rw [this] at hR
    exact Fy (σ' := σ2) (r := .av x) hok hR
  refine (h M σ2 w args hs.imm (by rw [hK]; exact hblk) (by rw [hK]; exact hs.loc n _ hn) hargs2).mono ?_
  rintro en w' ⟨U, hU, M', hk, hR, hb⟩
  rw [hK] at hk
  refine ⟨U, hU, fun dst _ => ⟨M', σ, hk, rfl, hR σ, ?_⟩⟩
  have := hb σ
  rw [hK] at this
  exact this
end
end
section
section
variable {α : Type} [Inhabited α]
def Fu (lt : α -> Bool) (out : List α) : Nat -> Nat
 | 0 => 0
 | k + 1 => bif lt (out.getD k default) then Fu lt out k else k + 1
def MK (lt : α -> α -> Bool) (out : List α) (x : α) : List α := out.take (Fu (lt x) out out.length) ++ x :: out.drop (Fu (lt x) out out.length)
def Ft (lt : α -> α -> Bool) (l : List α) : List α := l.foldl (MK lt) []
theorem Qi (lt : α -> α -> Bool) (out : List α) (x : α) : (MK lt out x).Perm (x :: out) := by
 unfold MK
 refine List.perm_middle.trans ?_
 rw [List.take_append_drop]
theorem Nf (lt : α -> α -> Bool) (l : List α) (x : α) : Ft lt (l ++ [x]) = MK lt (Ft lt l) x := by
 unfold Ft
 rw [List.foldl_append]; rfl
theorem Ng (lt : α -> α -> Bool) (l : List α) : (Ft lt l).Perm l := by
 have key : ∀ (l out : List α), (l.foldl (MK lt) out).Perm (out ++ l) := by
  intro l
  induction l with
  | nil => intro out; simp
  | cons x l ih =>
   intro out
   rw [List.foldl_cons]
   refine (ih _).trans ?_
   refine ((Qi lt out x).append_right l).trans ?_
   exact List.perm_middle.symm
 exact key l []
theorem Hs (lt : α -> α -> Bool) (l : List α) : (Ft lt l).length = l.length := (Ng lt l).length_eq
theorem P9 (A : List α) (x y : α) (R : List α) :
  (A ++ y :: x :: R).getD A.length default = y /\ (A ++ y :: x :: R).getD (A.length + 1) default = x /\ ((A ++ y :: x :: R).set (A.length + 1) y).set A.length x = A ++ x :: y :: R := by
 refine ⟨?_, ?_, ?_⟩
 ·rw [List.getD_eq_getElem?_getD, List.getElem?_append_right (by omega)]; simp
 ·rw [List.getD_eq_getElem?_getD, List.getElem?_append_right (by omega)]; simp
 ·rw [List.set_append_right _ _ (by omega), List.set_append_right _ _ (by omega)]; simp
theorem Dd (out : List α) (j : Nat) (h : j < out.length) : out.take (j + 1) = out.take j ++ [out.getD j default] /\ out.drop j = out.getD j default :: out.drop (j + 1) := by
 constructor
 ·rw [List.take_add_one, List.getElem?_eq_getElem h, List.getD_eq_getElem?_getD, List.getElem?_eq_getElem h]; rfl
 ·rw [List.drop_eq_getElem_cons h, List.getD_eq_getElem?_getD, List.getElem?_eq_getElem h]; rfl
theorem U2 {β : Type} (lt : α -> α -> Bool) (f : Nat -> List α -> Int -> β) (K : List α -> β)
  (hf : ∀ m d (j : Nat), f (m + 1) d j = bif (bif decide ((0 : Int) < j) then lt (d.getD j default) (d.getD (j - 1) default) else false) then f m ((d.set j (d.getD (j - 1) default)).set (j - 1) (d.getD j default)) ((j : Int) - 1) else K d)
  (out rest : List α) (x : α) : ∀ (j m : Nat), j <= out.length -> j < m -> f m (out.take j ++ x :: (out.drop j ++ rest)) j = K (out.take (Fu (lt x) out j) ++ x :: (out.drop (Fu (lt x) out j) ++ rest)) := by
 intro j
 induction j with
 | zero =>
  intro m hj hm
  obtain ⟨m, rfl⟩ : ∃ k, m = k + 1 := ⟨m - 1, by omega⟩
  rw [hf]
  simp [Fu]
 | succ j ih =>
  intro m hj hm
  obtain ⟨m, rfl⟩ : ∃ k, m = k + 1 := ⟨m - 1, by omega⟩
  obtain ⟨e1, e2⟩ := Dd out j (by omega)
  have hl : (out.take j).length = j := by rw [List.length_take]; omega
  obtain ⟨s1, s2, s3⟩ := P9 (out.take j) x (out.getD j default) (out.drop (j + 1) ++ rest)
  rw [hl] at s1 s2 s3
  have hd : out.take (j + 1) ++ x :: (out.drop (j + 1) ++ rest) = out.take j ++ out.getD j default :: x :: (out.drop (j + 1) ++ rest) := by rw [e1]; simp
  rw [hf, hd, Nat.add_sub_cancel, s1, s2, s3]
  have h0 : decide ((0 : Int) < ((j + 1 : Nat) : Int)) = true := decide_eq_true (by omega)
  rw [h0, cond_true]
  conv => rhs; unfold Fu
  cases hlt : lt x (out.getD j default) with
  | true =>
   rw [cond_true, cond_true]
   have := ih m (by omega) (by omega)
   rw [e2] at this
   rw [show ((j + 1 : Nat) : Int) - 1 = (j : Int) by omega, <- this]
   rfl
  | false =>
   rw [cond_false, cond_false, hd]
theorem U3 {β : Type} (lt : α -> α -> Bool) (l : List α) (g : Nat -> List α -> Int -> β) (K : List α -> β) (hK : ∀ m d (i : Nat), l.length <= i -> g (m + 1) d i = K d)
  (hg : ∀ m (i : Nat) (out rest : List α) x, i < l.length -> out.length = i -> g (m + 1) (out ++ x :: rest) i = g m (MK lt out x ++ rest) ((i : Int) + 1)) :
  ∀ (k m i : Nat), l.length - i = k -> i <= l.length -> k < m -> g m (Ft lt (l.take i) ++ l.drop i) i = K (Ft lt l) := by
 intro k
 induction k with
 | zero =>
  intro m i hk hi hm
  obtain ⟨m, rfl⟩ : ∃ k, m = k + 1 := ⟨m - 1, by omega⟩
  rw [hK m _ i (by omega), List.drop_eq_nil_of_le (by omega), List.take_of_length_le (by omega), List.append_nil]
 | succ k ih =>
  intro m i hk hi hm
  obtain ⟨m, rfl⟩ : ∃ k, m = k + 1 := ⟨m - 1, by omega⟩
  obtain ⟨e1, e2⟩ := Dd l i (by omega)
  rw [e2, hg m i _ _ _ (by omega) (by rw [Hs, List.length_take]; omega), <- Nf, <- e1]
  have := ih m (i + 1) (by omega) (by omega) (by omega)
  rw [show ((i + 1 : Nat) : Int) = (i : Int) + 1 by omega] at this
  exact this
theorem cp_l {β : Type} (xs : List α) (g : Nat -> List α -> Int -> β) (K : List α -> Int -> β) (h : ∀ m acc (v : Nat), g (m + 1) acc v = bif decide ((v : Int) < (xs.length : Int)) then g m (acc ++ [xs.getD v default]) ((v : Int) + 1) else K acc v) :
  ∀ (k v m : Nat) (acc : List α), xs.length - v = k -> v <= xs.length -> k < m -> g m acc v = K (acc ++ xs.drop v) (xs.length : Int) := by
 intro k
 induction k with
 | zero =>
  intro v m acc hk hv hm
  obtain ⟨m, rfl⟩ : ∃ k, m = k + 1 := ⟨m - 1, by omega⟩
  rw [h, decide_eq_false (by omega), cond_false, List.drop_eq_nil_of_le (by omega), List.append_nil, show v = xs.length by omega]
 | succ k ih =>
  intro v m acc hk hv hm
  obtain ⟨m, rfl⟩ : ∃ k, m = k + 1 := ⟨m - 1, by omega⟩
  obtain ⟨_, e2⟩ := Dd xs v (by omega)
  rw [h, decide_eq_true (by omega), cond_true, e2]
  have := ih (v + 1) m (acc ++ [xs.getD v default]) (by omega) (by omega) (by omega)
  rw [show ((v + 1 : Nat) : Int) = (v : Int) + 1 by omega] at this
  rw [this, List.append_assoc]; rfl
theorem MS {β γ : Type} (xs : List α) (step : γ -> α -> γ) (g : Nat -> γ -> Int -> β) (K : γ -> Int -> β) (h : ∀ m acc (v : Nat), g (m + 1) acc v = bif decide ((v : Int) < (xs.length : Int)) then g m (step acc (xs.getD v default)) ((v : Int) + 1) else K acc v) :
  ∀ (k v m : Nat) (acc : γ), xs.length - v = k -> v <= xs.length -> k < m -> g m acc v = K ((xs.drop v).foldl step acc) (xs.length : Int) := by
 intro k
 induction k with
 | zero =>
  intro v m acc hk hv hm
  obtain ⟨m, rfl⟩ : ∃ k, m = k + 1 := ⟨m - 1, by omega⟩
  rw [h, decide_eq_false (by omega), cond_false, List.drop_eq_nil_of_le (by omega), show v = xs.length by omega]; rfl
 | succ k ih =>
  intro v m acc hk hv hm
  obtain ⟨m, rfl⟩ : ∃ k, m = k + 1 := ⟨m - 1, by omega⟩
  obtain ⟨_, e2⟩ := Dd xs v (by omega)
  rw [h, decide_eq_true (by omega), cond_true, e2]
  have := ih (v + 1) m (step acc (xs.getD v default)) (by omega) (by omega) (by omega)
  rw [show ((v + 1 : Nat) : Int) = (v : Int) + 1 by omega] at this
  rw [this, List.foldl_cons]
theorem SG {β γ : Type} (xs : List α) (step : γ -> α -> γ) (g : Nat -> Nat -> γ -> β) (K : γ -> β) (h0 : ∀ x acc, g 0 x acc = K acc) (h : ∀ m x acc, x < xs.length -> g (m + 1) x acc = g m (x + 1) (step acc (xs.getD x default))) :
  ∀ (m x : Nat) (acc : γ), m + x = xs.length -> g m x acc = K ((xs.drop x).foldl step acc) := by
 intro m
 induction m with
 | zero =>
  intro x acc hx
  rw [h0, List.drop_eq_nil_of_le (by omega)]; rfl
 | succ m ih =>
  intro x acc hx
  obtain ⟨_, e2⟩ := Dd xs x (by omega)
  rw [h m x acc (by omega), ih (x + 1) _ (by omega), e2, List.foldl_cons]
omit [Inhabited α] in
theorem Iu {γ : Type} (f : α -> γ) : ∀ (xs : List α) (acc : List γ), xs.foldl (fun acc x => acc ++ [f x]) acc = acc ++ xs.map f
 | [], acc => by simp
 | x :: xs, acc => by rw [List.foldl_cons, Iu f xs, List.map_cons, List.append_assoc]; rfl
def ixI (f : α -> Bool) (xs : List α) : Int := match xs.findIdx? f with
 | some i => (i : Int)
 | none => -1
omit [Inhabited α] in
theorem Pr {f : α -> Bool} {xs : List α} (h : ¬ ixI f xs < 0) : 0 <= ixI f xs /\ ixI f xs < (xs.length : Int) := by
 unfold ixI at *
 cases hk : xs.findIdx? f with
 | none => rw [hk] at h; exact absurd (by decide) h
 | some i =>
  rw [hk] at h
  have := (List.findIdx?_eq_some_iff_getElem.1 hk).1
  simp only
  omega
theorem Nb {f : α -> Bool} {xs : List α} (h : ¬ ixI f xs < 0) : f (xs.getD (ixI f xs).toNat default) = true /\ xs.find? f = some (xs.getD (ixI f xs).toNat default) := by
 unfold ixI at *
 cases hk : xs.findIdx? f with
 | none => rw [hk] at h; exact absurd (by decide) h
 | some i =>
  obtain ⟨h1, h2, h3⟩ := List.findIdx?_eq_some_iff_getElem.1 hk
  have e : xs.getD ((i : Int)).toNat default = xs[i] := by rw [Int.toNat_natCast, List.getD_eq_getElem?_getD, List.getElem?_eq_getElem h1]; rfl
  simp only [e]
  refine ⟨h2, ?_⟩
  rw [List.find?_eq_some_iff_getElem]
  exact ⟨h2, i, h1, rfl, fun j hj => by have := h3 j hj; simpa using this⟩
omit [Inhabited α] in
theorem Nc {f : α -> Bool} {xs : List α} (h : ixI f xs < 0) : xs.find? f = none := by
 unfold ixI at h
 cases hk : xs.findIdx? f with
 | some i => rw [hk] at h; exact absurd h (by simp only; omega)
 | none =>
  rw [List.find?_eq_none]
  rw [List.findIdx?_eq_none_iff] at hk
  intro x hx; rw [hk x hx]; decide
theorem Pq (f : α -> Bool) (xs : List α) (g : Nat -> Int -> Int) (hg : ∀ m (v : Nat), g (m + 1) v = bif decide ((v : Int) < (xs.length : Int)) then (bif f (xs.getD v default) then (v : Int) else g m ((v : Int) + 1)) else -1) :
  ∀ (k v m : Nat), xs.length - v = k -> v <= xs.length -> k < m -> g m v = match (xs.drop v).findIdx? f with | some i => ((v + i : Nat) : Int) | none => -1 := by
 intro k
 induction k with
 | zero =>
  intro v m hk hv hm
  obtain ⟨m, rfl⟩ : ∃ k, m = k + 1 := ⟨m - 1, by omega⟩
  rw [hg, decide_eq_false (by omega), cond_false, List.drop_eq_nil_of_le (by omega)]
  rfl
 | succ k ih =>
  intro v m hk hv hm
  obtain ⟨m, rfl⟩ : ∃ k, m = k + 1 := ⟨m - 1, by omega⟩
  obtain ⟨_, e2⟩ := Dd xs v (by omega)
  rw [hg, decide_eq_true (by omega), cond_true, e2, List.findIdx?_cons]
  cases hf : f (xs.getD v default) with
  | true => simp
  | false =>
   have := ih (v + 1) m (by omega) (by omega) (by omega)
   rw [show ((v + 1 : Nat) : Int) = (v : Int) + 1 by omega] at this
   rw [cond_false, this]
   cases (xs.drop (v + 1)).findIdx? f with
   | none => simp
   | some i =>
    simp only [Option.map_some]
    rw [show v + 1 + i = v + (i + 1) by omega]
    rfl
end
end
section
open Go.RowKit
def SeqV (P : Program) (gf : Nat) (lb : Array Value) (V : Nat -> Array Value -> World -> Prop) (Kp : World -> World -> Prop) (n : Nat) (w : World) : Prop :=
 ∀ (l : Nat) (J : Nat -> World -> Prop) (W : World), Below w.heap.size w W -> (∀ j A B, J j A -> A.grownBy B none -> J j B) ->
  (∀ j v A, j < n -> J j A -> V j v A -> YieldAt (FW none) 0 P l v A fun e B => e = .returned (.bool true) /\ J (j + 1) B /\ Kp A B) -> J 0 W ->
  CallsIn (FW none) 1 P gf (#[.func (.yield l) #[] #[]] ++ lb) W fun e B => (∃ u, e = .returned u) /\ J n B
theorem P8 {P : Program} {g : Operand} {ps : Array Tmp} {assign body : Code} {Q : Exit -> Act -> World -> Prop} {a : Act} {w : World} {gf : Nat} {lb : Array Value} (hg : a.eval g = .func (.func gf) #[] lb) (eg : ∀ args w, (callFunc gf args).run P w = .ok (.enter gf args) w)
  {V : Nat -> Array Value -> World -> Prop} {Kp : World -> World -> Prop} {n : Nat} (hseq : SeqV P gf lb V Kp n w) (hKt : ∀ {A B C : World}, Kp A B -> Kp B C -> Kp A C)
  (hKb : ∀ (W : World) (l : Nat) (o o' : Obj), w.heap.size <= l -> W.heap[l]? = some o -> o.isCells = false -> Kp W (W.putObj l o')) (hsz : ∀ j v W, V j v W -> v.size = ps.size)
  (I : Nat -> World -> Prop) (hI : OwnFrom w.heap.size I) (h0 : I 0 w) (Ax : Nat -> Act -> World -> Prop) (hAx : ∀ j a', OwnFrom w.heap.size fun (_ : Unit) W => Ax j a' W)
  (hassign : ∀ (l j : Nat) (v : Array Value) (W : World) (K : Act -> World -> Prop), j < n -> I j W -> V j v W -> (∀ a' W', KeepsFrom w.heap.size W W' -> Kp W W' -> I j W' -> Ax j a' W' -> K a' W') ->
   assign.wpIn ((FW none).inRound l) 0 P (Exit.then K fun _ _ _ => False) { tmps := (ps.zip v).foldl (fun t (p, u) => t.setIfInBounds p u) a.tmps, defers := [] } W)
  (hbody : ∀ (l j : Nat) (a' : Act) (W : World), j < n -> I j W -> Ax j a' W -> body.wpIn ((FW none).inRound l) 0 P (fun e _ W' => e = .normal /\ KeepsFrom w.heap.size W W' /\ Kp W W' /\ I (j + 1) W') a' W)
  (hdone : ∀ (D : Nat) (W : World), w.heap.size <= D -> I n W -> W.heap[D]? = some (.deferred (some [])) -> Q .normal { a with defers := { target := .collected D, args := #[] } :: a.defers } W) : (Code.rangeFunc g ps assign body).wpIn (FW none) 2 P Q a w := by
 refine wpIn_rangeFunc fun fn hfn => ?_
 -- the two blocks of the statement: the mark's and the record's
 generalize hD : w.heap.size = D at *
 let rc : LoopState -> Obj := fun st => .loop { state := st, pending := none, fn := fn, tmps := a.tmps, params := ps, assign := assign, body := body, defers := D }
 have hcell : ∀ st, (rc st).isCells = false := fun _ => rfl
 let U := w.alloc (.deferred (some []))
 let Z := U.alloc (rc .ready)
 have sU : U.heap.size = D + 1 := by show (w.alloc _).heap.size = _; rw [World.size_alloc, hD]
 have zL : Z.heap[D + 1]? = some (rc .ready) := by rw [<- sU]; exact World.alloc_heap_new U _
 have zD : Z.heap[D]? = some (.deferred (some [])) := (Below.heap_alloc U _ _ (by omega)).trans (by rw [<- hD]; exact World.alloc_heap_new w _)
 have hIa : ∀ {j : Nat} {W : World} (o : Obj), I j W -> I j (W.alloc o) := fun o h => hI.alloc o h
 let J : Nat -> World -> Prop := fun j W => I j W /\ W.heap[D + 1]? = some (rc .ready) /\ W.heap[D]? = some (.deferred (some []))
 refine ⟨D + 1, [{ target := .collected D, args := #[] }], Z, { target := .fn (.func gf) lb, args := #[.func (.yield (D + 1)) #[] #[]] }, Z, gf, #[.func (.yield (D + 1)) #[] #[]] ++ lb, Z, ?_, ?_, ?_, ?_, fun _ => by decide, ?_⟩
 ·have := run_enterLoop_outer (P := P) (w := w) fn a.tmps ps assign body
  rw [hD] at this
  exact this
 ·simp only [resolve, hg]
  simp [go_sem]
 ·intro f' _; trivial
 ·simp [invoke, go_sem, eg]
 ·refine (hseq (D + 1) J Z ?_ ?_ ?_ ⟨hIa _ (hIa _ h0), zL, zD⟩).mono ?_
  ·rw [hD]
   exact (((Below.refl D w).alloc (by omega) _).alloc (by rw [show (w.alloc (.deferred (some []))).heap.size = D + 1 from sU]; omega) _)
  ·rintro j A B ⟨h1, h2, h3⟩ hgr
   have keep : ∀ b (o : Obj), A.heap[b]? = some o -> B.heap[b]? = some o := fun b o h => (hgr.block b (Array.getElem?_eq_some_iff.1 h).1 (fun e => by cases e)).trans h
   exact ⟨hI j A B none h1 hgr (fun r e => by cases e), keep _ _ h2, keep _ _ h3⟩
  ·rintro j v A hj ⟨h1, h2, h3⟩ hv
   refine ⟨fn, _, assign, body, run_yield h2 (hsz j v A hv), roundIn_of_wpIn hfn (hassign (D + 1) j v A _ hj h1 hv ?_)⟩
   intro a' B kf kp i1 ax
   have l1 : B.heap[D + 1]? = some (rc .ready) := kf.same _ _ (by omega) h2 rfl
   have d1 : B.heap[D]? = some (.deferred (some [])) := kf.same _ _ (Nat.le_refl _) h3 rfl
   have hlt : D + 1 < B.heap.size := (Array.getElem?_eq_some_iff.1 l1).1
   refine ⟨_, run_beginRound l1 rfl, ?_⟩
   generalize hC : B.putObj (D + 1) (.loop { state := .busy, pending := none, fn := fn, tmps := a.tmps, params := ps, assign := assign, body := body, defers := D }) = C
   have l2 : C.heap[D + 1]? = some (rc .busy) := by rw [<- hC]; exact World.putObj_heap_same hlt
   have d2 : C.heap[D]? = some (.deferred (some [])) := by rw [<- hC]; exact (World.putObj_heap_other (by omega)).trans d1
   have kp2 : Kp B C := by rw [<- hC]; exact hKb _ _ _ _ (by omega) l1 rfl
   have i2 : I j C := by rw [<- hC]; exact hI.putObj _ i1 (by omega) l1 rfl
   have ax2 : Ax j a' C := by rw [<- hC]; exact (hAx j a').putObj (s := ()) _ ax (by omega) l1 rfl
   refine wpIn_mono (hbody (D + 1) j a' C hj i2 ax2) ?_
   rintro e a3 G ⟨rfl, kf3, kp3, i3⟩
   have l3 : G.heap[D + 1]? = some (rc .busy) := kf3.same _ _ (by omega) l2 rfl
   have d3 : G.heap[D]? = some (.deferred (some [])) := kf3.same _ _ (Nat.le_refl _) d2 rfl
   have kp4 := hKb G (D + 1) _ (rc .ready) (by omega) l3 rfl
   exact ⟨_, _, run_endRound none l3, rfl, ⟨hI.putObj _ i3 (by omega) l3 rfl, World.putObj_heap_same (Array.getElem?_eq_some_iff.1 l3).1, (World.putObj_heap_other (by omega)).trans d3⟩, hKt kp (hKt (hKt kp2 kp3) kp4)⟩
  ·rintro e B ⟨⟨u, rfl⟩, h1, h2, h3⟩
   exact ⟨none, _, run_endLoop h2 (fun e => by cases e), hdone D _ (Nat.le_refl _) (hI.putObj _ h1 (by omega) h2 rfl) ((World.putObj_heap_other (by omega)).trans h3)⟩
end
section
open Go.RowKit
def T0 (M : Nat -> Option Obj) (Ow : World -> Nat -> Prop) (E : List Av) (v : Array Value) (W : World) : Prop := ∃ Mj : Nat -> Option Obj, E.length = v.size /\ (∀ b o, Mj b = some o -> W.heap[b]? = some o /\ o.isCells = true /\ ¬ Ow W b) /\
 ∀ MM : Nat -> Option Obj, (∀ b o, M b = some o -> MM b = some o) -> (∀ b o, Mj b = some o -> MM b = some o) -> L2 (fun e u => ∀ σ, RA MM σ e u) E v.toList
def G3 (P : Program) (gf : FuncId) (k : Nat) (caps : Nat -> Cl) (n : Nat) (E : Fin n -> List Av) : Prop :=
 ∀ (M : Nat -> Option Obj) (w : World) (cs : Array Value) (Ow : World -> Nat -> Prop), (∀ b o, M b = some o -> w.heap[b]? = some o) -> OwS Ow w.heap.size -> (∀ b, Ow w b -> b < w.heap.size /\ M b = none) -> cs.size = k -> (∀ i, i < k -> RC M (caps i) (cs.getD i undef)) ->
  SeqV P gf cs (fun j v W => ∃ hj : j < n, T0 M Ow (E ⟨j, hj⟩) v W) (KpS Ow) n w
section
variable {P : Program} {N : Nat} {W0 : World} {X : Nat → Option Loc} {M0 : Nat → Option Obj}
theorem Q0 {ι : Type} {Q : Exit -> AS -> Prop} {g : Operand} {ps : Array Tmp} {assign body : Code} {t0 : List (Nat × Tv)} (pids : List Nat) (fid q off r : Nat) {gf : FuncId} {k : Nat} {caps : Nat -> Cl} {n : Nat} {E : Fin n -> List Av} (H : ι -> List (Nat × Blk)) (t1 : Fin n -> List (Nat × Tv)) (Inv Fm : Nat -> ι -> Prop) (x0 : ι)
  (hX0 : ∀ m, X m = none) (hg : evT (get t0) g = some (.av (.one (.clo gf k caps)))) (hcd : (Cl.clo gf k caps).dv = true) (eg : ∀ args w, (callFunc gf args).run P w = .ok (.enter gf args) w)
  (It : G3 P gf k caps n E) (hE : ∀ x, (E x).length = ps.size) (hps : ∀ p ∈ ps.toList, p < N)
  (hpv : ∀ i v, get t0 i = some v -> pvT pids v = true) (hh : ∀ x m b, get (H x) m = some b -> ((Bc pids m = true /\ b.isP = true) \/ (m = r /\ b.isR = true)) /\ b.no fid = true)
  (hpc : ∀ x m, Bc pids m = true -> ∃ b, get (H x) m = some b) (hfp : Bc pids fid = false) (hrp : Bc pids r = false) (hrf : r ≠ fid) (hfN : N <= fid) (hrN : N <= r) (hpN : ∀ m ∈ pids, N <= m) (hmem : ∀ m ∈ pids, Bc pids m = true) (hq : Bc pids q = true)
  (hEd : ∀ x i v, get (LA t0 ps.toList (E x)) i = some v -> v.no fid = true)
  (hheld : ∀ x, KL q off r (H x) = true) (hm : ∀ x m b, get (H x) m = some b -> BkN b)
  (ht1 : ∀ x, TsM (t1 x)) (ht1p : ∀ x i v, get (t1 x) i = some v -> pvT pids v = true)
  (hI0 : Inv 0 x0) (hF0 : Fm 0 x0)
  (hassign : ∀ l W1 M1 X1 k j x, Inv j x -> PXr pids r (∃ bb, get (H x) r = some bb) X1 -> AWp P (some l) N W1 X1 M1 assign (fun e s' => e = .normal /\ s' = ⟨t1 k, H x⟩) ⟨LA t0 ps.toList (E k), H x⟩)
  (hbody : ∀ l W1 M1 X1 (k : Fin n) j x, (∀ m z, X1 m = some z -> Bc (fid :: pids) m = true) -> j < n -> Inv j x -> AWp P (some l) N W1 X1 M1 body (fun e s' => e = .normal /\ ∃ y, Inv (j + 1) y /\ (k.val = j -> Fm j x -> Fm (j + 1) y) /\ ∀ m b, get (H y) m = some b -> get s'.h m = some b) ⟨t1 k, H x⟩)
  (hdone : ∀ x, Inv n x -> Fm n x -> Q .normal ⟨t0, H x⟩) : AWp P none N W0 X M0 (.rangeFunc g ps assign body) Q ⟨t0, H x0⟩ := by
 intro M σ a w hs
 have hnof : ∀ v : Tv, pvT pids v = true -> v.no fid = true := fun v h => by
  cases hn : v.no fid with
  | true => rfl
  | false => have := hmem fid (Jy h hn); rw [hfp] at this; cases this
 have hpne : ∀ m, Bc pids m = true -> m ≠ fid /\ m ≠ r := fun m h => ⟨fun e => (by rw [e, hfp] at h; cases h), fun e => (by rw [e, hrp] at h; cases h)⟩
 have hPb : ∀ x m, Bc pids m = true -> ∃ b, get (H x) m = some b /\ b.isP = true := fun x m h => by
  obtain ⟨b, hb⟩ := hpc x m h
  rcases (hh x m b hb).1 with h1 | h1
  ·exact ⟨b, hb, h1.2⟩
  ·exact absurd h1.1 (hpne m h).2
 have hPn : ∀ {X' : Nat -> Option Loc} {W1 : World} {Mb M1 : Nat -> Option Obj} {σ1 : Nat -> Loc} {T : Nat -> Option Tv} {b : Act} {A : World} {x : ι}, Sim N W1 X' Mb M1 σ1 T (get (H x)) b A -> ∀ m, Bc pids m = true -> (σ1 m).nil = false /\ (σ1 m).b < A.heap.size /\ M1 (σ1 m).b = none := fun {X' W1 Mb M1 σ1 T b A x} h1 m hmm => by
  obtain ⟨bk, hbk, hp⟩ := hPb x m hmm
  have h2 := h1.blk m bk hbk
  have hn : (σ1 m).nil = false := by
   cases bk with
   | cells l ty => exact h2.1
   | omap => exact h2.1
   | row => cases hp
   | rowx => cases hp
  refine ⟨hn, h2.lt hn, ?_⟩
  rcases h1.loc m bk hbk with h | h
  ·rw [hn] at h; cases h
  ·exact h.1
 have hplt : ∀ m, Bc pids m = true -> (σ m).b < w.heap.size := fun m hmm => (hPn hs m hmm).2.1
 -- the iterator's value
 obtain ⟨cs, hgv1, hgv2, hgv3⟩ := Fb hs.tmps hg
 have hcaps : ∀ i, i < k -> RC M (caps i) (cs.getD i undef) := fun i hi => (HY (List.all_eq_true.1 hcd i (List.mem_range.2 hi))).1 (hgv3 i hi)
 obtain ⟨Ow, hOw⟩ : ∃ Ow : World -> Nat -> Prop, Ow = fun W b => ((∃ m, Bc pids m = true /\ (σ m).b = b) \/ Gj (σ q).b off W b) \/ (b < w.heap.size /\ M b = none) := ⟨_, rfl⟩
 have hOi : ∀ {W b}, Ow W b -> ((∃ m, Bc pids m = true /\ (σ m).b = b) \/ Gj (σ q).b off W b) \/ (b < w.heap.size /\ M b = none) := fun h => by rw [hOw] at h; exact h
 have hOr : ∀ {W b}, ((∃ m, Bc pids m = true /\ (σ m).b = b) \/ Gj (σ q).b off W b) \/ (b < w.heap.size /\ M b = none) -> Ow W b := fun h => by rw [hOw]; exact h
 have hOo : ∀ {W b}, (∃ m, Bc pids m = true /\ (σ m).b = b) \/ Gj (σ q).b off W b -> Ow W b := fun h => by rw [hOw]; exact .inl h
 have hHeldSame : ∀ {A B : World}, B.heap[(σ q).b]? = A.heap[(σ q).b]? -> ∀ b, Gj (σ q).b off B b -> Gj (σ q).b off A b := fun h b ⟨o, len, cap, h1, h2⟩ => ⟨o, len, cap, by rw [<- h]; exact h1, h2⟩
 have hOg : ∀ {A B : World}, w.heap.size <= A.heap.size -> B.heap[(σ q).b]? = A.heap[(σ q).b]? -> ∀ b, Ow B b -> Ow A b := fun _ hB b hb => hOr ((hOi hb).imp (Or.imp id (hHeldSame hB b)) id)
 have hseq := It M w cs Ow hs.imm ⟨fun A B hA hB b hb => hOg hA (hB _ (Nat.lt_of_lt_of_le (hplt q hq) hA)) b hb⟩ (fun b hb => by
  rcases hOi hb with (⟨m, hmm, rfl⟩ | hb) | hb
  ·exact ⟨hplt m hmm, (hPn hs m hmm).2.2⟩
  ·obtain ⟨⟨bk, hbk⟩, hn, rfl⟩ := MO hs (hheld x0) hb
   refine ⟨(hs.blk r bk hbk).lt hn, ?_⟩
   rcases hs.loc r bk hbk with h | h
   ·rw [hn] at h; cases h
   ·exact h.1
  ·exact hb) hgv2 hcaps
 -- names
 have hXPm : ∀ m x, Ku pids σ X m = some x -> Bc pids m = true /\ x = σ m := fun m x hx => by
  unfold Ku at hx
  cases hmm : Bc pids m with
  | true => rw [hmm] at hx; injection hx with hx; exact ⟨rfl, hx.symm⟩
  | false => rw [hmm] at hx; have : X m = some x := hx; rw [hX0] at this; cases this
 have hPp : ∀ m, Bc pids m = true -> Ku pids σ X m = some (σ m) := fun m h => by unfold Ku; rw [h]; rfl
 obtain ⟨XP, hXPd⟩ : ∃ XP, XP = Ku pids σ X := ⟨_, rfl⟩
 have hXPi : ∀ b, inX XP b ↔ ∃ m, Bc pids m = true /\ (σ m).b = b := fun b => by
  rw [hXPd]
  constructor
  ·rintro ⟨m, x, h1, h2⟩
   obtain ⟨h3, rfl⟩ := hXPm m x h1
   exact ⟨m, h3, h2⟩
  ·rintro ⟨m, h1, h2⟩
   exact ⟨m, _, hPp m h1, h2⟩
 have hnfP : ∀ l M4, (∀ b o, M b = some o -> M4 b = some o) -> l = a.defers -> G8 XP M0 M4 l := fun l M4 h4 e => ⟨by rw [e]; exact Fh.mono h4 hs.defers.1, fun ⟨m, x, h1, h2, _⟩ => by
  rw [hXPd] at h1
  obtain ⟨h3, rfl⟩ := hXPm m x h1
  rw [(hPn hs m h3).1] at h2; cases h2⟩
 have hT0 : ∀ (M4 : Nat -> Option Obj) (σ4 : Nat -> Loc), (∀ b o, M b = some o -> M4 b = some o) -> (∀ m, Bc pids m = true -> σ4 m = σ m) -> ∀ i v, get t0 i = some v -> RT M4 σ4 v (a.tmps.getD i undef) := fun M4 σ4 h4 hσ i v hv =>
  Dc h4 (fun d hd => hσ d (hmem d (Jy (hpv i v hv) hd))) (hs.tmps i v hv)
 have hs0 : Sim N W0 XP M0 M σ (get t0) (get (H x0)) a w := ⟨hs.os, hs.tape, hs.output, hs.size, fun b hb hx => hs.old b hb fun ⟨m, x, h1, h2⟩ => (by rw [hX0] at h1; cases h1), hs.sub, hs.new, fun m x hx => by
   rw [hXPd] at hx
   obtain ⟨h3, rfl⟩ := hXPm m x hx
   exact ⟨hpN m (Dx h3), rfl⟩, hnfP _ M (fun _ _ h => h) rfl, hs.room, hs.tmps, hs.imm, hs.blk, fun m b hb => (hs.loc m b hb).imp id fun h => ⟨h.1, .inl (h.2.elim id fun ⟨m, x, h1, _⟩ => by rw [hX0] at h1; cases h1)⟩, hs.inj⟩
 have hlt : ∀ b o, M b = some o -> b < w.heap.size := fun b o h => (Array.getElem?_eq_some_iff.1 (hs.imm b o h)).1
 have hσP : ∀ {X' : Nat -> Option Loc} {M1 : Nat -> Option Obj} {σ1 : Nat -> Loc} {T : Nat -> Option Tv} {HH : Nat -> Option Blk} {b : Act} {A W1 : World} {Mb : Nat -> Option Obj}, Sim N W1 X' Mb M1 σ1 T HH b A -> (∀ m, Bc pids m = true -> X' m = some (σ m)) -> ∀ m, Bc pids m = true -> σ1 m = σ m := fun h1 h2 m hmm => (h1.pin m _ (h2 m hmm)).2
 have hXPp : ∀ m, Bc pids m = true -> XP m = some (σ m) := fun m h => by rw [hXPd]; exact hPp m h
 let SI : Nat -> World -> Prop := fun j W => ∃ x M' σ', Sim N W0 XP M0 M' σ' (get t0) (get (H x)) a W /\ Cln M M' /\ Inv j x /\ Fm j x /\ w.heap.size <= W.heap.size
 let Ax : Nat -> Act -> World -> Prop := fun j a' W => ∃ (hj : j < n) (Mn : Nat -> Option Obj), w.heap.size <= W.heap.size /\ a'.tmps.size = N /\ a'.defers = [] /\ (∀ i v, get (t1 ⟨j, hj⟩) i = some v -> RT Mn σ v (a'.tmps.getD i undef)) /\ ∀ b o, Mn b = some o -> W.heap[b]? = some o /\ (o.isCells = true \/ M b = some o) /\ (M b = none -> W0.heap.size <= b) /\ ¬ ((∃ m, Bc pids m = true /\ (σ m).b = b) \/ Gj (σ q).b off W b)
 -- one piece of a round
 have step : ∀ {XA : Nat -> Option Loc} {M' M3 : Nat -> Option Obj} {σ' σ3 : Nat -> Loc} {W W' : World} {x y : ι} {T' : Nat -> Option Tv} {h' : List (Nat × Blk)} {a' : Act}, Sim N W0 XP M0 M' σ' (get t0) (get (H x)) a W -> Cln M M' -> Sim N W XA M' M3 σ3 T' (get h') a' W' -> (∀ m b, get (H y) m = some b -> get h' m = some b) ->
   (∀ b, inX XA b -> (∃ m, Bc pids m = true /\ (σ m).b = b) \/ ((∃ bb, get (H x) r = some bb) /\ (σ' r).nil = false /\ (σ' r).b = b)) -> (∀ m, Bc pids m = true -> σ3 m = σ m) ->
   KeepsFrom w.heap.size W W' /\ KpS Ow W W' /\ Sim N W0 XP M0 (HX M' M3) σ3 (get t0) (get (H y)) a W' /\ Cln M (HX M' M3) := by
  intro XA M' M3 σ' σ3 W W' x y T' h' a' h1 h2 hr hy hX hσ3
  have hσ' := hσP h1 hXPp
  have hC := SW h2 hr.sub
  have hXO : ∀ b, inX XA b -> Ow W b := fun b hb => by
   rcases hX b hb with h | ⟨⟨bb, hbb⟩, hn, rfl⟩
   ·exact hOo (.inl h)
   ·have := Nj h1 (hheld x) hbb hn
    rw [hσ' q hq] at this
    exact hOo (.inr this)
  have hsim : Sim N W0 XP M0 (HX M' M3) σ3 (get t0) (get (H y)) a W' := by
   refine Q9 h1 hr (fun b hb => ?_) hy (hm y) hs.room (hT0 _ σ3 hC.1 hσ3) (fun m z hz => ?_) (fun b => Iff.rfl) (hnfP _ _ hC.1 rfl)
   ·rcases hX b hb with h | ⟨⟨bb, hbb⟩, hn, rfl⟩
    ·exact .inl ((hXPi b).2 h)
    ·rcases h1.loc r bb hbb with h3 | h3
     ·rw [hn] at h3; cases h3
     ·exact h3.2.symm
   ·rw [hXPd] at hz
    obtain ⟨h3, rfl⟩ := hXPm m z hz
    exact ⟨hpN m (Dx h3), hσ3 m h3⟩
  refine ⟨⟨hr.size, fun b o hb ho hoc => ?_⟩, ⟨hr.size, fun b o hb hc ho => (hr.old b (Array.getElem?_eq_some_iff.1 hb).1 fun h => ho (hXO b h)).trans hb, fun b hb => ?_⟩, hsim, hC⟩
  ·refine (hr.old b (Array.getElem?_eq_some_iff.1 ho).1 fun hX' => ?_).trans ho
   rcases hX b hX' with ⟨m, hmm, rfl⟩ | ⟨⟨bb, hbb⟩, hn, rfl⟩
   ·have := hplt m hmm; omega
   ·have h3 := h1.blk r bb hbb
    have h4 := (hh x r bb hbb).1
    cases bb with
    | row sz len f ty =>
     rcases h3 with ⟨h5, _⟩ | ⟨_, c, hc, _⟩
     ·rw [hn] at h5; cases h5
     ·rw [ho] at hc; injection hc with hc; subst hc; cases hoc
    | cells => rcases h4 with h4 | h4 <;> first | (rw [hrp] at h4; cases h4.1) | cases h4.2
    | omap => rcases h4 with h4 | h4 <;> first | (rw [hrp] at h4; cases h4.1) | cases h4.2
    | rowx => rcases h4 with h4 | h4 <;> first | cases h4.2 | (rw [hrp] at h4; cases h4.1)
  ·rcases hOi hb with (h | h) | h
   ·exact .inl (hOo (.inl h))
   rotate_left
   ·exact .inl (hOr (.inr h))
   ·rw [<- hσ3 q hq] at h
    obtain ⟨⟨bk, hbk⟩, hn, rfl⟩ := MO hsim (hheld y) h
    rcases hr.loc r bk (hy r bk hbk) with h3 | ⟨_, h3 | h3⟩
    ·rw [hn] at h3; cases h3
    ·exact .inr ⟨h3, (hr.blk r bk (hy r bk hbk)).lt hn⟩
    ·exact .inl (hXO _ h3)
 -- what else is known to lie in the world
 have merge : ∀ {M' Mn : Nat -> Option Obj} {σ' : Nat -> Loc} {W : World} {x : ι}, Sim N W0 XP M0 M' σ' (get t0) (get (H x)) a W -> Cln M M' -> (∀ b o, Mn b = some o -> W.heap[b]? = some o /\ (o.isCells = true \/ M b = some o) /\ (M b = none -> W0.heap.size <= b) /\ ¬ ((∃ m, Bc pids m = true /\ (σ m).b = b) \/ Gj (σ q).b off W b)) ->
   ∃ MM : Nat -> Option Obj, (∀ b o, M' b = some o -> MM b = some o) /\ (∀ b o, Mn b = some o -> MM b = some o) /\ Cln M MM /\ Sim N W0 XP M0 MM σ' (get t0) (get (H x)) a W := by
  intro M' Mn σ' W x h1 h2 hA4
  have hσ' := hσP h1 hXPp
  obtain ⟨MM, hMM⟩ : ∃ MM : Nat -> Option Obj, MM = fun b => match M' b with | some o => some o | none => Mn b := ⟨_, rfl⟩
  have hM1 : ∀ b o, M' b = some o -> MM b = some o := fun b o h => by rw [hMM]; simp only [h]
  have hM3 : ∀ b o, MM b = some o -> M' b = some o \/ Mn b = some o := fun b o h => by
   rw [hMM] at h
   cases h3 : M' b with
   | some o' => simp only [h3] at h; exact .inl h
   | none => simp only [h3] at h; exact .inr h
  have hM2 : ∀ b o, Mn b = some o -> MM b = some o := fun b o h => by
   cases h3 : M' b with
   | some o' =>
    have h4 := h1.imm b o' h3
    rw [(hA4 b o h).1] at h4
    rw [h4]; exact hM1 b o' h3
   | none => rw [hMM]; simp only [h3]; exact h
  have hCM : Cln M MM := ⟨fun b o h => hM1 b o (h2.1 b o h), fun b o h ho => (hM3 b o h).elim (fun h' => h2.2 b o h' ho) fun h' => (hA4 b o h').2.1.elim (fun hc => by rw [ho] at hc; cases hc) id⟩
  have h1M : Sim N W0 XP M0 MM σ' (get t0) (get (H x)) a W := by
   refine ⟨h1.os, h1.tape, h1.output, h1.size, h1.old, fun b o h => hM1 b o (h1.sub b o h), fun b o h h0 => ?_, h1.pin, hnfP _ MM hCM.1 rfl, h1.room, fun i v hv => Dc hM1 (fun _ _ => rfl) (h1.tmps i v hv), fun b o h => (hM3 b o h).elim (h1.imm b o) fun h' => (hA4 b o h').1, fun m b hb => (h1.blk m b hb).mono hM1 (fun _ _ => rfl) (fun _ => rfl), fun m b hb => ?_, h1.inj⟩
   ·rcases hM3 b o h with h | h
    ·exact h1.new b o h h0
    ·cases hMb : M b with
     | none => exact (hA4 b o h).2.2.1 hMb
     | some o' => exact hs.new b o' hMb h0
   ·cases hn : (σ' m).nil with
    | true => exact .inl rfl
    | false =>
     rcases h1.loc m b hb with h | h
     ·rw [hn] at h; cases h
     ·refine .inr ⟨?_, h.2⟩
      cases hc : MM (σ' m).b with
      | none => rfl
      | some o =>
       rcases hM3 _ o hc with h3 | h3
       ·rw [h.1] at h3; cases h3
       ·refine absurd ?_ (hA4 _ o h3).2.2.2
        rcases (hh x m b hb).1 with h4 | ⟨rfl, h4⟩
        ·exact .inl ⟨m, h4.1, by rw [hσ' m h4.1]⟩
        ·have := Nj h1 (hheld x) hb hn
         rw [hσ' q hq] at this
         exact .inr this
  exact ⟨MM, hM1, hM2, hCM, h1M⟩
 have hgr : ∀ {A B : World} {row : Option Nat}, A.grownBy B row -> (∀ r, row = some r -> w.heap.size <= r /\ ∃ o : Obj, A.heap[r]? = some o /\ o.isCells = false) -> w.heap.size <= A.heap.size -> ∀ b, ((∃ m, Bc pids m = true /\ (σ m).b = b) \/ Gj (σ q).b off B b) -> ((∃ m, Bc pids m = true /\ (σ m).b = b) \/ Gj (σ q).b off A b) := fun {A B row} hg' hr hA b hb => hb.imp id (hHeldSame (hg'.block _ (Nat.lt_of_lt_of_le (hplt q hq) hA) fun e => by
  have := (hr _ e.symm).1
  have := hplt q hq
  omega) b)
 refine wpIn_wide.2 ((wpIn_wide (n := 2)).1 ?_)
 refine P8 hgv1 eg hseq KpS.trans (fun W l o o' hl ho hoc => ⟨by simp, fun b o2 hb hb2 _ => ?_, fun b hb => ?_⟩) (fun j v W hv => ?hsz)
  SI ?hI ⟨x0, M, σ, hs0, ⟨fun _ _ h => h, fun _ _ h _ => h⟩, hI0, hF0, Nat.le_refl _⟩ Ax ?hAx ?assign ?body ?done
 ·rw [World.putObj_heap_other (fun e => by subst e; rw [ho] at hb; injection hb with hb; subst hb; rw [hoc] at hb2; cases hb2)]
  exact hb
 ·refine .inl (hOr ((hOi hb).imp (Or.imp id (hHeldSame (World.putObj_heap_other (fun e => ?_)) b)) id))
  have := hplt q hq
  omega
 case hsz =>
  obtain ⟨hj, Mj, hL, _⟩ := hv
  rw [hE] at hL
  exact hL.symm
 case hI =>
  rintro j A B row ⟨x, M', σ', h1, h2, h3, h4, h5⟩ hg' hr
  refine ⟨x, M', σ', OE h1 (fun m b hb hbm rr e => ?_) hg' (fun rr e => ?_), h2, h3, h4, Nat.le_trans h5 hg'.size⟩
  ·have h6 := (hr rr e).1
   have hmm : Bc pids m = true := by
    rcases (hh x m b hb).1 with h | h
    ·exact h.1
    ·cases b <;> first | (exfalso; cases hbm; done) | (exfalso; exact absurd h.2 (by simp [Blk.isR])) | exact absurd hbm (by simp [Blk.isM])
   rw [hσP h1 hXPp m hmm]
   have := hplt m hmm
   omega
  ·obtain ⟨h6, o, h7, h8⟩ := hr rr e
   refine ⟨Nat.le_trans hs.size h6, ⟨o, h7, h8⟩, ?_⟩
   cases hM1 : M' rr with
   | none => rfl
   | some o' =>
    have h9 := h1.imm rr o' hM1
    rw [h7] at h9; injection h9 with h9; subst h9
    have := hlt rr _ (h2.2 rr _ hM1 h8)
    omega
 case hAx =>
  rintro j a' _ A B row ⟨hj, Mn, h1, h2, h3, h4, h5⟩ hg' hr
  refine ⟨hj, Mn, Nat.le_trans h1 hg'.size, h2, h3, h4, fun b o hb => ?_⟩
  obtain ⟨h6, h7, h8, h9⟩ := h5 b o hb
  refine ⟨(hg'.block b (Array.getElem?_eq_some_iff.1 h6).1 fun e => ?_).trans h6, h7, h8, fun h => h9 (hgr hg' hr h1 b h)⟩
  obtain ⟨h10, o', h11, h12⟩ := hr b e.symm
  rw [h6] at h11; injection h11 with h11; subst h11
  rcases h7 with h7 | h7
  ·rw [h12] at h7; cases h7
  ·have := hlt b _ h7; omega
 case assign =>
  rintro l j vals W K hjn ⟨x, M'', σ', h1', h2', hinv, hfm, hws⟩ ⟨hj, Mj, _, hMj, hL⟩ hK
  obtain ⟨M', _, hMjM, h2, h1⟩ := merge h1' h2' (fun b o hb => ⟨(hMj b o hb).1, .inl (hMj b o hb).2.1, fun hMb => by
   have h3 := (hMj b o hb).2.2
   have : ¬ b < w.heap.size := fun h => h3 (hOr (.inr ⟨h, hMb⟩))
   have := hs.size
   omega, fun h => (hMj b o hb).2.2 (hOo h)⟩)
  obtain ⟨kx, hkx⟩ : ∃ kx : Fin n, kx = ⟨j, hj⟩ := ⟨_, rfl⟩
  rw [<- hkx] at hL
  have hσ' := hσP h1 hXPp
  obtain ⟨hfs, hft⟩ := Pw ps.toList (E kx) vals.toList t0 a.tmps (hT0 M' σ' h2.1 hσ') hs.room ((hL M' h2.1 hMjM).mono fun e _ v hv => hv σ') (by simpa using (hE kx).symm) hps
  have efold : (ps.zip vals).foldl (fun t (p, v) => t.setIfInBounds p v) a.tmps = (ps.toList.zip vals.toList).foldl (fun t (y : Tmp × Value) => t.setIfInBounds y.1 y.2) a.tmps := by
   rw [<- Array.foldl_toList, Array.toList_zip]
  rw [efold]
  obtain ⟨pr, hpr1, hpr2, hpr3⟩ : ∃ pr : List Nat, (∀ m, Bc pr m = true -> Bc pids m = true \/ (m = r /\ (∃ bb, get (H x) r = some bb) /\ (σ' r).nil = false)) /\ (∀ m, Bc pids m = true -> Bc pr m = true) /\ ((∃ bb, get (H x) r = some bb) /\ (σ' r).nil = false -> Bc pr r = true) := by
   by_cases hrow : (∃ bb, get (H x) r = some bb) /\ (σ' r).nil = false
   ·refine ⟨r :: pids, fun m h => ?_, fun m h => ?_, fun _ => ?_⟩
    ·rcases List.mem_cons.1 (Dx h) with e | e
     ·exact .inr ⟨e, hrow⟩
     ·exact .inl (hmem m e)
    ·exact F8 (List.mem_cons_of_mem _ (Dx h))
    ·exact F8 (List.mem_cons_self ..)
   ·exact ⟨pids, fun m h => .inl h, fun m h => h, fun h => absurd h hrow⟩
  obtain ⟨XA, hXA⟩ : ∃ XA, XA = JL fid ⟨(σ q).b, 424242, true⟩ (Ku pr σ' X) := ⟨_, rfl⟩
  have hprf : ∀ m, Bc pr m = true -> m ≠ fid := fun m h => (hpr1 m h).elim (fun h => (hpne m h).1) fun h => by rw [h.1]; exact hrf
  have hXAf : ∀ m z, XA m = some z -> (m = fid /\ z = ⟨(σ q).b, 424242, true⟩) \/ (m ≠ fid /\ Bc pr m = true /\ z = σ' m) := fun m z hz => by
   rw [hXA] at hz
   unfold JL at hz
   cases hb : Nat.beq m fid with
   | true => rw [hb] at hz; injection hz with hz; exact .inl ⟨Nat.eq_of_beq_eq_true hb, hz.symm⟩
   | false =>
    rw [hb] at hz
    have hz : Ku pr σ' X m = some z := hz
    unfold Ku at hz
    cases hp : Bc pr m with
    | true => rw [hp] at hz; injection hz with hz; exact .inr ⟨hprf m hp, rfl, hz.symm⟩
    | false => rw [hp] at hz; have hz : X m = some z := hz; rw [hX0] at hz; cases hz
  have hXAp : ∀ m, Bc pr m = true -> XA m = some (σ' m) := fun m h => by
   rw [hXA]
   unfold JL
   rw [show Nat.beq m fid = false by rw [CW]; simp [hprf m h]]
   show Ku pr σ' X m = _
   unfold Ku
   rw [h]; rfl
  have hflat : Tz XA := ⟨fid, ⟨(σ q).b, 424242, true⟩, by rw [hXA]; unfold JL; rw [Nat.beq_refl]; rfl, rfl, rfl⟩
  have hin := K9 (fid := fid) (XB := XA) (σ2 := upd σ' fid ⟨(σ q).b, 424242, true⟩) h1 (a2 := { tmps := _, defers := [] }) rfl hfs (fun m z hz => by
   rcases hXAf m z hz with ⟨rfl, rfl⟩ | ⟨h3, h4, rfl⟩
   ·exact ⟨hfN, BU _ _ _⟩
   ·refine ⟨(hpr1 m h4).elim (fun h => hpN m (Dx h)) fun h => by rw [h.1]; exact hrN, CK _ _ h3⟩) (fun m h => CK _ _ h) (fun i v hv => ⟨hft i v hv, hEd kx i v hv⟩) (fun m b hb => by
   obtain ⟨h3, h4⟩ := hh x m b hb
   rcases h3 with h3 | ⟨rfl, h3⟩
   ·exact ⟨(hpne m h3.1).1, h4, .inr ⟨m, _, hXAp m (hpr2 m h3.1), rfl⟩⟩
   ·refine ⟨hrf, h4, ?_⟩
    cases hn : (σ' m).nil with
    | true => exact .inl rfl
    | false => exact .inr ⟨m, _, hXAp m (hpr3 ⟨⟨b, hb⟩, hn⟩), rfl⟩)
  refine wpIn_mono (hassign l W M' XA kx j x hinv (fun m z hz => by
   rcases hXAf m z hz with ⟨rfl, rfl⟩ | ⟨h3, h4, rfl⟩
   ·exact .inl ⟨q, hq, _, hXAp q (hpr2 q hq), by rw [hσ' q hq]⟩
   ·rcases hpr1 m h4 with h5 | ⟨rfl, h6, h5⟩
    ·exact .inl ⟨m, h5, _, hXAp m h4, rfl⟩
    ·exact .inr ⟨rfl, h6, h5⟩) M' _ _ W hin) ?_
  rintro e a' W' ⟨s', M3, σ3, ⟨rfl, rfl⟩, hr⟩
  have hσ3 : ∀ m, Bc pids m = true -> σ3 m = σ m := fun m hmm => (hr.pin m _ (hXAp m (hpr2 m hmm))).2.trans (hσ' m hmm)
  obtain ⟨k1, k2, k3, k4⟩ := step h1 h2 hr (y := x) (fun _ _ h => h) (fun b hb => by
   obtain ⟨m, z, hz, hzb⟩ := hb
   rcases hXAf m z hz with ⟨rfl, rfl⟩ | ⟨h3, h4, rfl⟩
   ·exact .inl ⟨q, hq, hzb⟩
   ·rcases hpr1 m h4 with h5 | ⟨rfl, h5, h6⟩
    ·exact .inl ⟨m, h5, by rw [<- hσ' m h5]; exact hzb⟩
    ·exact .inr ⟨h5, h6, hzb⟩) hσ3
  refine hK a' W' k1 k2 ⟨x, _, σ3, k3, k4, hinv, hfm, Nat.le_trans hws hr.size⟩ ⟨hj, HX M' M3, Nat.le_trans hws hr.size, hr.room, hr.defers.2 hflat, fun i v hv => ?_, fun b o hb => ⟨hr.imm b o (GF hr.sub hb), ?_, fun hMb => ?_, fun ho => ?_⟩⟩
  ·rw [<- hkx] at hv
   exact Dc (fun _ _ h => h) (fun d hd => (hσ3 d (hmem d (Jy (ht1p kx i v hv) hd))).symm) (PF (KX hr.sub) (hr.tmps i v hv) (ht1 kx i v hv))
  ·cases hc : o.isCells with
   | true => exact .inl rfl
   | false => exact .inr (k4.2 b o hb hc)
  ·cases h3 : M' b with
   | some o' =>
    refine h1.new b o' h3 ?_
    cases h0 : M0 b with
    | none => rfl
    | some o2 => rw [hs.sub b o2 h0] at hMb; cases hMb
   | none => exact Nat.le_trans h1.size (hr.new b o (GF hr.sub hb) h3)
  ·have h3 := GF hr.sub hb
   rcases ho with ⟨m, hmm, rfl⟩ | ho
   ·have := (hPn hr m hmm).2.2
    rw [hσ3 m hmm, h3] at this; cases this
   ·rw [<- hσ3 q hq] at ho
    obtain ⟨⟨bk, hbk⟩, hn, rfl⟩ := MO hr (hheld x) ho
    rcases hr.loc r bk hbk with h | h
    ·rw [hn] at h; cases h
    ·rw [h.1] at h3; cases h3
 case body =>
  rintro l j a' W hjn ⟨x, M', σ', h1, h2, hinv, hfm, hws⟩ ⟨hj, Mn, _, hA1, hA2, hA3, hA4⟩
  obtain ⟨kx, hkx⟩ : ∃ kx : Fin n, kx = ⟨j, hj⟩ := ⟨_, rfl⟩
  rw [<- hkx] at hA3
  have hσ' := hσP h1 hXPp
  obtain ⟨MM, hM1, hM2, hCM, h1M⟩ := merge h1 h2 hA4
  obtain ⟨fl, hfl1, hfl2, hfl3, hfl4⟩ : ∃ fl : Loc, fl.nil = true /\ fl.cap = 424242 /\ (fl.b = (σ q).b \/ (((∃ bb, get (H x) r = some bb) /\ (σ' r).nil = false) /\ fl.b = (σ' r).b)) /\ ((∃ bb, get (H x) r = some bb) /\ (σ' r).nil = false -> fl.b = (σ' r).b) := by
   by_cases hrow : (∃ bb, get (H x) r = some bb) /\ (σ' r).nil = false
   ·exact ⟨⟨(σ' r).b, 424242, true⟩, rfl, rfl, .inr ⟨hrow, rfl⟩, fun _ => rfl⟩
   ·exact ⟨⟨(σ q).b, 424242, true⟩, rfl, rfl, .inl rfl, fun h => absurd h hrow⟩
  obtain ⟨XB, hXB⟩ : ∃ XB, XB = JL fid fl XP := ⟨_, rfl⟩
  have hXBf : ∀ m z, XB m = some z -> (m = fid /\ z = fl) \/ (m ≠ fid /\ Bc pids m = true /\ z = σ m) := fun m z hz => by
   rw [hXB] at hz
   unfold JL at hz
   cases hb : Nat.beq m fid with
   | true => rw [hb] at hz; injection hz with hz; exact .inl ⟨Nat.eq_of_beq_eq_true hb, hz.symm⟩
   | false =>
    rw [hb] at hz
    have hz : XP m = some z := hz
    rw [hXPd] at hz
    obtain ⟨h3, h4⟩ := hXPm m z hz
    exact .inr ⟨(hpne m h3).1, h3, h4⟩
  have hXBp : ∀ m, Bc pids m = true -> XB m = some (σ m) := fun m h => by
   rw [hXB]
   unfold JL
   rw [show Nat.beq m fid = false by rw [CW]; simp [(hpne m h).1]]
   exact hXPp m h
  have hXBfid : XB fid = some fl := by rw [hXB]; unfold JL; rw [Nat.beq_refl]; rfl
  have hin := K9 (fid := fid) (XB := XB) (σ2 := upd σ' fid fl) h1M (a2 := a') hA2 hA1 (fun m z hz => by
   rcases hXBf m z hz with ⟨rfl, rfl⟩ | ⟨h3, h4, rfl⟩
   ·exact ⟨hfN, BU _ _ _⟩
   ·exact ⟨hpN m (Dx h4), (CK _ _ h3).trans (hσ' m h4)⟩) (fun m h => CK _ _ h) (fun i v hv => ⟨Dc hM2 (fun d hd => hσ' d (hmem d (Jy (ht1p kx i v hv) hd))) (hA3 i v hv), hnof v (ht1p kx i v hv)⟩) (fun m b hb => by
   obtain ⟨h3, h4⟩ := hh x m b hb
   rcases h3 with h3 | ⟨rfl, h3⟩
   ·exact ⟨(hpne m h3.1).1, h4, .inr ⟨m, _, hXBp m h3.1, by rw [hσ' m h3.1]⟩⟩
   ·refine ⟨hrf, h4, ?_⟩
    cases hn : (σ' m).nil with
    | true => exact .inl rfl
    | false => exact .inr ⟨fid, fl, hXBfid, hfl4 ⟨⟨b, hb⟩, hn⟩⟩)
  refine wpIn_mono (hbody l W MM XB kx j x (fun m z hz => F8 ((hXBf m z hz).elim (fun h => by rw [h.1]; exact List.mem_cons_self ..) fun h => List.mem_cons_of_mem _ (Dx h.2.1))) hjn hinv MM _ a' W hin) ?_
  rintro e a2 W' ⟨s', M3, σ3, ⟨rfl, y, hy1, hy2, hy3⟩, hr⟩
  have hσ3 : ∀ m, Bc pids m = true -> σ3 m = σ m := fun m hmm => (hr.pin m _ (hXBp m hmm)).2
  obtain ⟨k1, k2, k3, k4⟩ := step h1M hCM hr hy3 (fun b hb => by
   obtain ⟨m, z, hz, hzb⟩ := hb
   rcases hXBf m z hz with ⟨rfl, rfl⟩ | ⟨h3, h4, rfl⟩
   ·rcases hfl3 with h5 | ⟨h5, h6⟩
    ·exact .inl ⟨q, hq, by rw [<- h5]; exact hzb⟩
    ·exact .inr ⟨h5.1, h5.2, by rw [<- h6]; exact hzb⟩
   ·exact .inl ⟨m, h4, hzb⟩) hσ3
  exact ⟨rfl, k1, k2, y, _, σ3, k3, k4, hy1, hy2 (by rw [hkx]) hfm, Nat.le_trans hws hr.size⟩
 case done =>
  rintro D W hD ⟨x, M', σ', h1, h2, hinv, hfm, hws⟩ hK
  refine ⟨⟨t0, H x⟩, _, σ', hdone x hinv hfm, RB h1 hK ?_ (Nat.le_trans hs.size hD) (fun d' hd' e => ?_) (fun m x hx => by rw [hX0] at hx; cases hx) (fun b hb => ?_) (fun ⟨m, x, h3, _⟩ => by rw [hX0] at h3; cases h3)⟩
  ·cases h0D : M0 D with
   | none => rfl
   | some o => have := hlt D o (hs.sub D o h0D); omega
  ·obtain ⟨D', h3, h4⟩ := P1 hs.defers.1 hd'
   rw [h3] at e
   injection e with e1 _
   injection e1 with e1
   subst e1
   have := hlt _ _ h4
   omega
  ·obtain ⟨m, hmm, rfl⟩ := (hXPi b).1 hb
   obtain ⟨bk, hbk, _⟩ := hPb x0 m hmm
   rcases hs.loc m bk hbk with h | ⟨_, h⟩
   ·rw [(hPn hs m hmm).1] at h; cases h
   ·exact h
end
end
section
open Go.RowKit
section
variable {P : Program} {N : Nat} {W0 : World} {X : Nat → Option Loc} {M0 : Nat → Option Obj}
theorem Kb {ι : Type} {Q : Exit -> AS -> Prop} {g : Operand} {ps : Array Tmp} {assign body : Code} {t0 : List (Nat × Tv)} (pids : List Nat) (fid q off r : Nat) {gf : FuncId} {k : Nat} {caps : Nat -> Cl} {n : Nat} {E : Fin n -> List Av} (H : ι -> List (Nat × Blk)) (t1 : Fin n -> List (Nat × Tv)) (Inv Fm : Nat -> ι -> Prop) (x0 : ι)
  (hX0 : ∀ m, X m = none) (hg : evT (get t0) g = some (.av (.one (.clo gf k caps)))) (hcd : (Cl.clo gf k caps).dv = true) (eg : ∀ args w, (callFunc gf args).run P w = .ok (.enter gf args) w)
  (It : G3 P gf k caps n E) (hck : PT N pids fid q r t0 ps = true) (hfam : ∀ x, famB pids fid q off r (H x) = true) (hE : ∀ x, (E x).length = ps.size) (hEd : ∀ x, (E x).all Av.dv = true) (hm : ∀ x, HsN (H x))
  (ht1 : ∀ x, TsM (t1 x)) (ht1p : ∀ x, (t1 x).all (fun p => pvT pids p.2) = true) (hI0 : Inv 0 x0) (hF0 : Fm 0 x0)
  (hassign : ∀ l W1 M1 X1 k j x, Inv j x -> PXr pids r (∃ bb, get (H x) r = some bb) X1 -> AWp P (some l) N W1 X1 M1 assign (fun e s' => e = .normal /\ s' = ⟨t1 k, H x⟩) ⟨LA t0 ps.toList (E k), H x⟩)
  (hbody : ∀ l W1 M1 X1 (k : Fin n) j x, (∀ m z, X1 m = some z -> Bc (fid :: pids) m = true) -> j < n -> Inv j x -> AWp P (some l) N W1 X1 M1 body (fun e s' => e = .normal /\ ∃ y, Inv (j + 1) y /\ (k.val = j -> Fm j x -> Fm (j + 1) y) /\ ∀ m b, get (H y) m = some b -> get s'.h m = some b) ⟨t1 k, H x⟩)
  (hdone : ∀ x, Inv n x -> Fm n x -> Q .normal ⟨t0, H x⟩) : AWp P none N W0 X M0 (.rangeFunc g ps assign body) Q ⟨t0, H x0⟩ := by
 unfold PT at hck
 simp only [Bool.and_eq_true, Bool.not_eq_true'] at hck
 obtain ⟨c1, c2, c3, c4, c5, c6, c7, c8, c9⟩ := hck
 have hpv : ∀ i v, get t0 i = some v -> pvT pids v = true := fun i v hv => List.all_eq_true.1 c1 (i, v) (DU hv)
 have hno : ∀ v : Tv, pvT pids v = true -> v.no fid = true := fun v h => by
  cases hn : v.no fid with
  | true => rfl
  | false => have := F8 (Jy h hn); rw [c3] at this; cases this
 have hf : ∀ x, (∀ m b, get (H x) m = some b -> ((Bc pids m = true /\ b.isP = true) \/ (m = r /\ b.isR = true)) /\ b.no fid = true) /\ (∀ m, Bc pids m = true -> ∃ b, get (H x) m = some b) /\ KL q off r (H x) = true := fun x => by
  have h := hfam x
  unfold famB at h
  simp only [Bool.and_eq_true] at h
  obtain ⟨h1, h2, h3⟩ := h
  refine ⟨fun m b hb => ?_, fun m hmm => Option.isSome_iff_exists.1 (List.all_eq_true.1 h2 m (Dx hmm)), h3⟩
  have := List.all_eq_true.1 h1 (m, b) (DU hb)
  simp only [Bool.and_eq_true, Bool.or_eq_true] at this
  exact ⟨this.1.imp id fun h => ⟨Nat.eq_of_beq_eq_true h.1, h.2⟩, this.2⟩
 exact Q0 pids fid q off r H t1 Inv Fm x0 hX0 hg hcd eg It hE (fun p hp => Nat.le_of_ble_eq_true (List.all_eq_true.1 c9 p hp)) hpv (fun x => (hf x).1) (fun x => (hf x).2.1) c3 c4 (fun e => by rw [e, Nat.beq_refl] at c5; cases c5) (Nat.le_of_ble_eq_true c6) (Nat.le_of_ble_eq_true c7) (fun m hmm => Nat.le_of_ble_eq_true (List.all_eq_true.1 c2 m hmm)) (fun m hmm => F8 hmm) c8 (fun x i v hv => Mt _ _ _ (fun j u hu => hno u (hpv j u hu)) (hEd x) i v hv) (fun x => (hf x).2.2) hm ht1 (fun x i v hv => List.all_eq_true.1 (ht1p x) (i, v) (DU hv)) hI0 hF0 hassign hbody hdone
end
section
variable {P : Program} {N : Nat} {Ow : World → Nat → Prop} {n0 : Nat} {Q : IQ} {s : AS} {J : World → Prop} {al : Bool} {ops : Array Oper} {l : List Oper} {o : Oper}
theorem P7 {M : Nat -> Option Obj} {σ : Nat -> Loc} {w : World} {a : Act} {o : Oper} {c : Call} {f : Operand} {ly : Nat} {xs : List Av} {T : Nat -> Option Tv} (hT : ∀ i v, T i = some v -> RT M σ v (a.tmps.getD i undef)) (ho : o.op = .call c) (hcf : c.callee = .value f) (hf : evT T f = some (.av (.one (.val (.func (.yield ly) #[] #[]))))) (hxs : D3 (evT T) c.args.toList = some xs)
  {R : Ending -> World -> Prop} (hY : ∀ v : Array Value, L2 (RA M σ) xs v.toList -> YieldAt (FW none) 0 P ly v w R) {K : Act -> World -> Prop} {Q : Exit -> Act -> World -> Prop} (hK : ∀ e w', R e w' -> ∃ V, e = .returned V /\ K (a.put o.dst V) w') : o.wpIn (FW none) 0 P a w K Q := by
 have hargs := HS (fun x v => Fb hT) _ _ hxs
 obtain ⟨fn, tmps, assign, body, hy, hR⟩ := hY (c.args.map a.eval) (by simpa using hargs)
 refine ⟨fun _ _ => trivial, ?_⟩
 rw [Oper.semAt_eq _ _ _ (fun d h => by rw [ho] at h; cases h)]
 have hfv := (Fb hT hf).1
 have hres : (execOp a.eval o).run P w = .ok (.round ly fn tmps assign body) w := by
  simp only [execOp, ho, Sem.run_bind, resolve, hcf, hfv, Deferred.ofValue]
  simpa [invoke] using hy
 rw [hres, Oper.uponIn_round]
 refine ⟨fun h => (by cases h), ?_⟩
 have h1 : RoundIn (FW none) (0 - 1) P ly fn tmps assign body w R := hR
 refine h1.mono ?_
 rintro e w' he
 obtain ⟨V, rfl, hk⟩ := hK e w' he
 exact hk
theorem Oq (hO : OwS Ow n0) (hgn : o.guard = none) {c : Call} {f : Operand} {ly d : Nat} (xs : List Av) (ho : o.op = .call c) (hcf : c.callee = .value f)
  (hf : evT (get s.t) f = some (.av (.one (.val (.func (.yield ly) #[] #[]))))) (hxs : D3 (evT (get s.t)) c.args.toList = some xs) (hv : xs.all Av.dv = true) (hvm : ∀ x ∈ xs, AvM x) (hod : o.dst = some d) (hdN : Nat.blt d N = true) (hT1 : ∀ i v, get s.t i = some v -> v.dv = true /\ TvM v)
  (hJg : ∀ A B, J A -> A.grownBy B none -> J B) (Jt : World -> Prop)
  (hY : ∀ W v, J W -> T0 (fun _ => none) Ow xs v W -> YieldAt (FW none) 0 P ly v W (fun e W' => e = .returned (.bool true) /\ Jt W' /\ KpS Ow W W')) (hh : s.h = [])
  (ht : IWL P N Ow n0 ops l Q ⟨(d, tB true) :: s.t, []⟩ Jt true) : IWL P N Ow n0 ops (o :: l) Q s J true := by
 intro W0 M σ a w hJ hs
 refine wpListIn_step fun K0 hK' => ?_
 rw [if_pos (by simp [Region.wanted, hgn])]
 have hgrow : W0.grownBy w none := { os := hs.os, tape := hs.tape, output := hs.output, size := hs.size, block := fun b hb _ => hs.old b hb (Ep b) }
 have hiok := hJ.2.2
 have hdN' : d < N := by have := Nat.le_of_ble_eq_true hdN; omega
 have hst : ∀ b, Ow w b -> Ow W0 b := hO.st W0 w (hiok rfl).1 fun b hb => hs.old b hb (Ep b)
 have hput : ∀ (b : Bool) (T : List (Nat × Tv)) (M' : Nat -> Option Obj) (σ' : Nat -> Loc), (∀ i v, get T i = some v -> RT M' σ' v (a.tmps.getD i undef)) -> ∀ i v, get ((d, tB b) :: T) i = some v -> RT M' σ' v ((a.put o.dst (.bool b)).tmps.getD i undef) := fun b T M' σ' hT i v hv => by
  have hds : d < a.tmps.size := by rw [hs.room]; exact hdN'
  simp only [get, CW] at hv
  rw [hod]
  by_cases hi : d = i
  ·subst hi
   simp at hv; subst hv
   have : (a.put (some d) (.bool b)).tmps.getD d undef = .bool b := by simp [Act.put, Array.getD_eq_getD_getElem?, hds]
   rw [this]
   exact ⟨rfl, rfl⟩
  ·simp [hi] at hv
   have : (a.put (some d) (.bool b)).tmps.getD i undef = a.tmps.getD i undef := by simp [Act.put, Array.getD_eq_getD_getElem?, Array.getElem?_setIfInBounds, hi]
   rw [this]; exact hT i v hv
 have hsize : ∀ b : Bool, (a.put o.dst (.bool b)).tmps.size = N := fun b => by rw [hod]; simpa [Act.put] using hs.room
 have hdef : ∀ b : Bool, (a.put o.dst (.bool b)).defers = [] := fun b => by rw [hod]; simpa [Act.put] using hJ.2.1
 refine P7 hs.tmps ho hcf hf hxs (fun v hL => hY w v (hJg W0 w hJ.1 hgrow) ⟨MY M, by have := hL.length; simpa using this, fun b o' hb => ⟨hs.imm b o' (Do hb).1, (Do hb).2, fun h => (hiok rfl).2.2 b o' (Do hb).1 (hst b h)⟩, fun MM _ hMM => ?_⟩) fun e w2 he => ?_
 ·refine hL.mono fun x hx u hu σ' => ?_
  have h1 : RA M σ' x u := Fy (r := .av x) (List.all_eq_true.1 hv x hx) hu
  exact Jh hMM (fun _ _ => rfl) (Mh Hy h1 (hvm x hx))
 ·obtain ⟨rfl, h5, h6⟩ := he
  refine ⟨_, rfl, hK' _ _ (ht w2 (MY M) σ _ w2 ⟨h5, hdef true, fun _ => ⟨Nat.le_trans (hiok rfl).1 (Nat.le_trans hs.size h6.1), fun b h => (h6.2.2 b h).elim (fun h7 => Nat.lt_of_lt_of_le ((hiok rfl).2.1 b (hst b h7)) (Nat.le_trans hs.size h6.1)) And.right, fun b o' h hw2 => ?_⟩⟩ ?_)⟩
  ·rcases h6.2.2 b hw2 with h7 | h7
   ·exact (hiok rfl).2.2 b o' (Do h).1 (hst b h7)
   ·have := (Array.getElem?_eq_some_iff.1 (hs.imm b o' (Do h).1)).1; omega
  ·exact ⟨rfl, rfl, rfl, Nat.le_refl _, fun _ _ _ => rfl, fun _ _ h => h, fun b o h h' => (by rw [h] at h'; cases h'), fun m x hx => (by cases hx), ⟨by rw [hdef true]; trivial, fun _ => hdef true⟩, hsize true, hput true s.t (MY M) σ (fun i v hv => PF Hy (hs.tmps i v hv) (hT1 i v hv).2), fun b o' h => h6.2.1 b o' (hs.imm b o' (Do h).1) (Do h).2 fun h7 => (hiok rfl).2.2 b o' (Do h).1 (hst b h7), fun n b hb => (by cases hb), fun n b hb => (by cases hb), fun n m b c hb => (by cases hb)⟩
end
def IEndV (n : Nat) (JJ : Nat -> World -> Prop) : IQ := fun e s' J' al' => (e = .ret \/ e = .normal) /\ J' = JJ n
theorem Nd {P : Program} {gf : FuncId} {fn : Func} {c : Code} (hf : P.funcs[gf]? = some fn) (hb : fn.body = some c) (hnr : fn.results.toList = []) {k : Nat} {caps : Nat -> Cl} {n : Nat} {E : Fin n -> List Av} (hN : Nat.ble (k + 1) fn.ntmps = true) (hcd : ∀ i, i < k -> (caps i).dv = true)
  (h : ∀ (Ow : World -> Nat -> Prop) (n0 ly : Nat) (JJ : Nat -> World -> Prop), OwS Ow n0 -> (∀ j A B, JJ j A -> A.grownBy B none -> JJ j B) ->
   (∀ j (hj : j < n) W v, JJ j W -> T0 (fun _ => none) Ow (E ⟨j, hj⟩) v W -> YieldAt (FW none) 0 P ly v W (fun e W' => e = .returned (.bool true) /\ JJ (j + 1) W' /\ KpS Ow W W')) ->
   IWp P fn.ntmps Ow n0 c (IEndV n JJ) ⟨EP 0 (.one (.val (.func (.yield ly) #[] #[])) :: DV k caps), []⟩ (JJ 0) true) : G3 P gf k caps n E := by
 intro M w cs Ow himm hOs hOw hcs hcaps l J W hB hJ hY h0
 have hlt : ∀ b o, M b = some o -> b < w.heap.size := fun b o hb => (Array.getElem?_eq_some_iff.1 (himm b o hb)).1
 have himmW : ∀ b o, M b = some o -> W.heap[b]? = some o := fun b o hb => (hB.block b (hlt b o hb)).trans (himm b o hb)
 have hst : ∀ b, Ow W b -> Ow w b := hOs.st w W (Nat.le_refl _) fun b hb => hB.block b hb
 have hbody := h Ow w.heap.size l J hOs hJ (fun j hj W1 v h1 ⟨Mj, e1, e2, e3⟩ => hY j v W1 hj h1 ⟨hj, Mj, e1, e2, fun MM _ h3 => e3 MM (fun _ _ h => by cases h) h3⟩)
 obtain ⟨a0, ha0⟩ : ∃ a0 : Act, a0 = { tmps := (#[Value.func (.yield l) #[] #[]] ++ cs) ++ Array.replicate (fn.ntmps - (#[Value.func (.yield l) #[] #[]] ++ cs).size) undef, defers := [] } := ⟨_, rfl⟩
 have hs0 : Sim fn.ntmps W noX M M (fun _ => ⟨0, 0, false⟩) (get (EP 0 (.one (.val (.func (.yield l) #[] #[])) :: DV k caps))) (get []) a0 W := ?hs0
 ·have hbod := hbody W M (fun _ => ⟨0, 0, false⟩) a0 W ⟨h0, by rw [ha0], fun _ => ⟨hB.size, fun b hb => Nat.lt_of_lt_of_le (hOw b (hst b hb)).1 hB.size, fun b o hb ho => by rw [(hOw b (hst b ho)).2] at hb; cases hb⟩⟩ hs0
  rw [ha0] at hbod
  refine callsIn_wide.2 (callsIn_wide.1 (callsIn_of_wp_marks (F := FW none) (n := 0) hf hb trivial (wpIn_mono hbod ?_)))
  clear hbod hs0
  rintro e a' w' ⟨s', J', al', W0', M', σ', ⟨he, rfl⟩, ⟨hJ', hd, _⟩, hs'⟩
  have hgrow : W0'.grownBy w' none := { os := hs'.os, tape := hs'.tape, output := hs'.output, size := hs'.size, block := fun b hb _ => hs'.old b hb (Ep b) }
  obtain ⟨U, hU, _⟩ := PQ (P := P) (fn := fn) (r := .tup []) hs' (by rw [hnr]; rfl)
  have key : LeavesInM (FW none) 0 P fn a'.tmps (fun e W' => (∃ v, e = .returned v) /\ J n W') a'.defers .returning w' := by
   rw [hd]
   exact ⟨U, hU, ⟨U, rfl⟩, hJ n W0' w' hJ' hgrow⟩
  rcases he with rfl | rfl
  ·exact key
  ·exact key
 case hs0 =>
  subst ha0
  have hsz : (#[Value.func (.yield l) #[] #[]] ++ cs).size = k + 1 := by simp [hcs]; omega
  have hNk := Nat.le_of_ble_eq_true hN
  refine ⟨rfl, rfl, rfl, Nat.le_refl _, fun _ _ _ => rfl, fun _ _ h => h, fun b o h h' => (by rw [h] at h'; cases h'), fun m x hx => (by cases hx), G8.nil, ?_, fun i v hv => ?_, himmW, fun m b hb => (by cases hb), fun m b hb => (by cases hb), fun m m' b c hb => (by cases hb)⟩
  ·simp only [Array.size_append, Array.size_replicate] at hsz ⊢
   omega
  ·obtain ⟨_, x, hx, rfl⟩ := Ht _ _ _ _ hv
   rw [Nat.sub_zero] at hx
   have hargs : L2 (RA M fun _ => ⟨0, 0, false⟩) (.one (.val (.func (.yield l) #[] #[])) :: DV k caps) (.func (.yield l) #[] #[] :: cs.toList) := by
    refine .cons ⟨rfl, rfl⟩ (L2.of (by simp [DV, hcs]) fun i x y hx hy => ?_)
    have hi : i < k := by have := (List.getElem?_eq_some_iff.1 hx).1; simpa [DV] using this
    have := (HY (σ := fun _ => ⟨0, 0, false⟩) (hcd i hi)).2 (hcaps i hi)
    simp only [DV, List.getElem?_map, List.getElem?_range hi, Option.map_some, Option.some.injEq] at hx
    subst hx
    have hy' : cs.getD i undef = y := by
     simp only [Array.getD_eq_getD_getElem?]
     rw [<- Array.getElem?_toList, hy]; rfl
    rw [hy'] at this
    exact this
   obtain ⟨u, hu, hRu⟩ := hargs.get i x hx
   have : ((#[Value.func (.yield l) #[] #[]] ++ cs) ++ Array.replicate (fn.ntmps - (#[Value.func (.yield l) #[] #[]] ++ cs).size) undef).getD i undef = u := by
    have hu2 : (#[Value.func (.yield l) #[] #[]] ++ cs)[i]? = some u := by
     rw [<- Array.getElem?_toList]
     simpa using hu
    have hi : i < (#[Value.func (.yield l) #[] #[]] ++ cs).size := (Array.getElem?_eq_some_iff.1 hu2).1
    rw [Array.getD_eq_getD_getElem?, Array.getElem?_append_left hi, hu2]; rfl
   show RA M _ x _
   rw [this]
   exact hRu
theorem KK {P : Program} {N : Nat} {Ow : World -> Nat -> Prop} {n0 : Nat} {Q : IQ} {s : AS} {J : World -> Prop} {al : Bool} {c : Code} (ts : List Nat) (S : AS) (hS : KH ts [] s = S) (h : IWp P N Ow n0 c Q S J al) : IWp P N Ow n0 c Q s J al := by
 subst hS
 exact fun W0 M σ a w hJ hs => h W0 M σ a w hJ (Eu hs ts [])
theorem Jz {P : Program} {f : FuncId} {xs : List Av} {sz len : Nat} {F : Nat -> Nat -> Cl} {ty : TypeId} (h : Fr P f xs (.row sz len F ty) (fun d => .av (.one (.own d sz len)))) : Bo P f xs (.av (.one (.list false sz len F))) := by
 intro M σ w args himm hargs
 refine (h M σ w args himm hargs).mono ?_
 rintro en w' ⟨U, hU, M', x, hk, hx, hb, hR⟩
 refine ⟨U, hU, ?_⟩
 have hV : R M' (fun _ => x) (.own 0 sz len) U := hR (fun _ => x) 0 rfl
 unfold R at hV
 cases hn : x.nil with
 | true =>
  rw [hn] at hV
  obtain ⟨rfl, rfl⟩ : len = 0 /\ U = .slice none 0 0 := hV
  exact ⟨M', hk, fun σ' => RC.nil _ _ _ rfl⟩
 | false =>
  rw [hn] at hV
  have hV : U = .slice (some ⟨x.b, 0, none⟩) len x.cap := hV
  subst hV
  obtain ⟨hx1, hx2⟩ : w.heap.size <= x.b /\ M' x.b = none := by
   rcases hx with h0 | h0
   ·rw [hn] at h0; cases h0
   ·exact h0
  rcases hb (fun _ => x) with ⟨h0, _⟩ | ⟨_, c, hc, h1, h2, h3, g, hg⟩
  ·rw [hn] at h0; cases h0
  ·have key : ∀ b o, M' b = some o -> b ≠ x.b := fun b o ho e => by rw [e, hx2] at ho; cases ho
   refine ⟨fun b => if b = x.b then some (.cells c ty) else M' b, ⟨hk.os, hk.tape, hk.output, hk.size, hk.old, fun b o ho => ?_, fun b o ho h0 => ?_, fun b o ho => ?_⟩, fun σ' => ?_⟩
   ·have := hk.sub b o ho
    simp only [if_neg (key b o this)]; exact this
   ·by_cases e : b = x.b
    ·rw [e]; exact hx1
    ·simp only [if_neg e] at ho; exact hk.new b o ho h0
   ·by_cases e : b = x.b
    ·simp only [if_pos e, Option.some.injEq] at ho; rw [e, <- ho]; exact hc
    ·simp only [if_neg e] at ho; exact hk.imm b o ho
   ·show RC _ (.list false sz len F) _
    refine .list false sz len F x.b 0 x.cap g (fun i j hi hj => ?_) (fun i j hi hj => Dp (fun b o ho => ?_) (hg i j hi hj).2) h2
    ·simp only [D1, if_pos]
     rw [Nat.zero_add]
     exact (hg i j hi hj).1
    ·simp only [if_neg (key b o ho)]; exact ho
theorem Qh {P : Program} {gf : FuncId} {fn : Func} {c : Code} (hf : P.funcs[gf]? = some fn) (hb : fn.body = some c) (hnr : fn.results.toList = []) {k : Nat} {caps : Nat -> Cl} {n : Nat} {E : Fin n -> List Av} (hE : ∀ x, (E x).all Av.isV = true) (hE1 : ∀ x, ∀ e ∈ E x, ∀ c ∈ e.cells, c.toV.oneCell' = true) (hN : Nat.ble (k + 1) fn.ntmps = true) (hcd : ∀ i, i < k -> (caps i).dv = true)
  (h : ∀ (Ow : World -> Nat -> Prop) (n0 ly : Nat) (JJ Jx : Nat -> World -> Prop), OwS Ow n0 -> (∀ j A B, JJ j A -> A.grownBy B none -> JJ j B) ->
   (∀ j (hj : j < n) W, JJ j W -> YieldAt (FW none) 0 P ly ((E ⟨j, hj⟩).map Av.toV).toArray W (fun e W' => (e = .returned (.bool true) /\ JJ (j + 1) W' /\ KpS Ow W W') \/ (e = .returned (.bool false) /\ Jx (j + 1) W'))) ->
   IWp P fn.ntmps Ow n0 c (IEnd n JJ Jx) ⟨EP 0 (.one (.val (.func (.yield ly) #[] #[])) :: DV k caps), []⟩ (JJ 0) true) : G3 P gf k caps n E :=
 Nd hf hb hnr hN hcd fun Ow n0 ly JJ hO hJ hY => by
  have h1 := h Ow n0 ly JJ (fun _ _ => False) hO hJ (fun j hj W hW => by
   obtain ⟨fn', tm, as', bd, hy, hR⟩ := hY j hj W ((E ⟨j, hj⟩).map Av.toV).toArray hW ⟨fun _ => none, by simp, (fun b o hb => by cases hb), fun MM _ _ => by
    have e1 := hE ⟨j, hj⟩
    have e2 := hE1 ⟨j, hj⟩
    show L2 _ (E ⟨j, hj⟩) ((E ⟨j, hj⟩).map Av.toV)
    generalize E ⟨j, hj⟩ = l at e1 e2 ⊢
    induction l with
    | nil => exact .nil
    | cons e l ih =>
     simp only [List.all_cons, Bool.and_eq_true] at e1
     exact .cons (fun σ => UM e1.1 (e2 e (List.mem_cons_self ..))) (ih e1.2 fun e he => e2 e (List.mem_cons_of_mem _ he))⟩
   exact ⟨fn', tm, as', bd, hy, hR.mono fun e W' he => .inl he⟩)
  intro W0 M σ a w hJ0 hs
  refine wpIn_mono (h1 W0 M σ a w hJ0 hs) ?_
  rintro e a' w' ⟨s', J', al', W0', M', σ', ⟨he, hend⟩, hJ', hs'⟩
  rcases hend with rfl | ⟨j, hj, rfl⟩
  ·exact ⟨s', _, al', W0', M', σ', ⟨he, rfl⟩, hJ', hs'⟩
  ·exact hJ'.1.elim
theorem Ou {P : Program} {gf : FuncId} {t : Bool} {sz len : Nat} {f : Nat -> Nat -> Cl} {k : Nat} {caps : Nat -> Cl} {n : Nat} {E : Fin n -> List Av} (E' : (Nat -> Nat -> Value) -> Fin n -> List Av) (h0 : caps 0 = Sa t sz len f) (hk : 0 < k)
  (hI : ∀ g : Nat -> Nat -> Value, (∀ i j, i < len -> j < sz -> (g i j).oneCell' = true) -> G3 P gf k (fun i => match i with | 0 => Sa t sz len (fun i j => .val (g i j)) | i + 1 => caps (i + 1)) n (E' g)) (hlen : ∀ g x, (E' g x).length = (E x).length)
  (hE : ∀ M g x (vs : List Value), (∀ i j, i < len -> j < sz -> RC M (f i j) (g i j)) -> L2 (fun e v => ∀ σ, RA M σ e v) (E' g x) vs -> L2 (fun e v => ∀ σ, RA M σ e v) (E x) vs) : G3 P gf k caps n E := by
 intro M w cs Ow himm hOs hOw hcs hcaps
 have h := hcaps 0 hk
 rw [h0] at h
 obtain ⟨g, h1, h2⟩ := ON h
 have h3 := hI g (fun i j hi hj => Sn (h2 i j hi hj)) M w cs Ow himm hOs hOw hcs (fun i hi => by
  cases i with
  | zero => exact h1
  | succ i => exact hcaps _ hi)
 intro l J W hB hJ hY hJ0
 exact h3 l J W hB hJ (fun j v A hj hJA ⟨hj', Mj, e1, e2, e3⟩ => hY j v A hj hJA ⟨hj', Mj, (hlen g _).symm.trans e1, e2, fun MM m1 m2 => hE MM g _ _ (fun i j hi hj => Dp m1 (h2 i j hi hj)) (e3 MM m1 m2)⟩) hJ0
theorem Ov {P : Program} {gf : FuncId} {k : Nat} {caps caps' : Nat -> Cl} {n : Nat} {E : Fin n -> List Av} (h : ∀ i, i < k -> caps' i = caps i) (H : G3 P gf k caps n E) : G3 P gf k caps' n E :=
 fun M w cs Ow a b c d e => H M w cs Ow a b c d fun i hi => by rw [<- h i hi]; exact e i hi
theorem Rz {P : Program} {N : Nat} {Ow : World -> Nat -> Prop} {n0 : Nat} {Q : IQ} {s : AS} {J : World -> Prop} {al : Bool} (hO : OwS Ow n0) {x y z : Code} (hdv : ∀ i v, get s.t i = some v -> v.dv = true) (hh : s.h = [])
  (h : ∀ W0 X1 M1, (∀ k u, X1 k = some u -> Bc [N] k = true) -> AWp P none N W0 X1 M1 x (ATh (AWp P none N W0 X1 M1 y (fun e s' => e = .normal /\ ∃ S, (∀ W2 M2, Cv N W2 noX M2 s' S) /\ IWp P N Ow n0 z Q S J al)) (fun _ _ => False)) s) : IWp P N Ow n0 (.seq x (.seq y z)) Q s J al := by
 intro W0 M σ a w hJ hs
 have hX : ∀ k u, JN N W0.heap.size k = some u -> Bc [N] k = true := fun k u hk => by rw [(KQ hk).1]; exact IF _
 refine wpIn_seq (wpIn_mono (h W0 _ M hX M _ a w (Jr hdv hh hJ.2.1 hs)) ?_)
 rintro e a' w' ⟨s', M', σ', h1, h2⟩
 cases e with
 | normal =>
  refine wpIn_seq (wpIn_mono (h1 M' σ' a' w' h2) ?_)
  rintro e a2 w2 ⟨s2, M2, σ2, ⟨rfl, S, h3, h4⟩, h5⟩
  have h6 := IK hJ.2.2 hO h5
  obtain ⟨hd, h7⟩ := Ho h5
  obtain ⟨M3, σ3, h8⟩ := h3 W0 M2 M2 σ2 a2 w2 h7
  exact h4 W0 M3 σ3 a2 w2 ⟨hJ.1, hd, IK h6 hO h8⟩ (Ms h8 hd)
 | _ => exact h1.elim
end
section
open Go.RowKit
def B7 (x0 : AE) (x1 : AE) : AE := AE.mk (W64 (x0.X + x1.X)) (W64 (x0.Y + x1.Y))
def DZ (x0 : AE) (x1 : AE) : FuncId × List Av × Ef := (13, [.agg (AE.c x0), .agg (AE.c x1)], .val [] (.av (.agg (AE.c (B7 x0 x1)))))
theorem QI (x0 : AE) (x1 : AE) : Bo Try.prog 13 (DZ x0 x1).2.1 (.av (.agg (AE.c (B7 x0 x1)))) := by
 refine AX Try.func13 rfl kr kr fun W0 M0 => ?_
 refine AC <| rn ⟨[(2, tP 2 0), (3, tP 3 0), (4, tP 4 0)], [(2, .cells (AE.c x0) 52), (3, .cells (AE.c x1) 52), (4, .cells [.i 0, .i 0] 52)]⟩ <| AC ?_
 refine rn ⟨[(4, tP 4 0)], [(4, .cells [.i (W64 (x0.X + x1.X)), .i (W64 (x0.Y + x1.Y))] 52)]⟩ <| Aj ?_
 exact ⟨_, Cv.refl _, .inl rfl, .av (.agg [.i (W64 (x0.X + x1.X)), .i (W64 (x0.Y + x1.Y))]), by kernel_rfl, Ao (by rfl)⟩
theorem Hq (x0 : AE) (x1 : AE) : A1 Try.prog (DZ x0 x1).1 (DZ x0 x1).2.1 (DZ x0 x1).2.2 := Aa (fun _ _ => by kernel_rfl) fun _ => QI x0 x1
def CI (x0 : Int) : Int := Int.tmod (W64 ((Int.tmod x0 4) + 4)) 4
def EE (x0 : Int) : FuncId × List Av × Ef := (74, [.one (.i x0)], .val [] (.av (.one (.i (CI x0)))))
theorem au14 {p : Prop} (h : p := by first | assumption | decide | omega) : p := h
theorem M5 (x0 : Int) : Bo Try.prog 74 (EE x0).2.1 (tO (.i (CI x0))) := by
 refine AX Try.func74 rfl kr kr fun W0 M0 => ?_
 refine AC <| rn ⟨[(0, tI x0)], []⟩ <| AC ?_
 refine rc [] [(4 : Int) ≠ 0, (4 : Int) ≠ 0] ⟨[(2, tI (Int.tmod (W64 ((Int.tmod x0 4) + 4)) 4))], []⟩ .nil (.cons au14 (.cons au14 .nil)) <| AJ <| Aj ?_
 exact ⟨_, Cv.refl _, .inl rfl, tO (.i (Int.tmod (W64 ((Int.tmod x0 4) + 4)) 4)), by kernel_rfl, Ao (by rfl)⟩
theorem L7 (x0 : Int) : A1 Try.prog (EE x0).1 (EE x0).2.1 (EE x0).2.2 := Aa (fun _ _ => by kernel_rfl) fun _ => M5 x0
def C2 (x0 : AE) (x1 : Int) : AE := bif decide (((CI x1) : Int) = 1) then (AE.mk (W64 (0 - x0.Y)) x0.X) else (bif decide (((CI x1) : Int) = 2) then (AE.mk (W64 (0 - x0.X)) (W64 (0 - x0.Y))) else (bif decide (((CI x1) : Int) = 3) then (AE.mk x0.Y (W64 (0 - x0.X))) else (x0)))
def Dn (x0 : AE) (x1 : Int) : FuncId × List Av × Ef := (46, [.agg (AE.c x0), .one (.i x1)], .val [] (.av (.agg (AE.c (C2 x0 x1)))))
theorem Lx (x0 : AE) (x1 : Int) : Bo Try.prog 46 (Dn x0 x1).2.1 (.av (.agg (AE.c (C2 x0 x1)))) := by
 refine AX Try.func46 rfl kr kr fun W0 M0 => ?_
 refine AC <| rn ⟨[(1, tI x1), (2, tP 2 0), (4, tP 4 0)], [(2, .cells (AE.c x0) 52), (4, .cells [.i 0, .i 0] 52)]⟩ ?_
 refine AC <| AC ?_
 refine rc [(6, EE x1)] [Al (EE x1).2.1] ⟨[(2, tP 2 0), (4, tP 4 0), (6, tI (CI x1))], [(2, .cells (AE.c x0) 52), (4, .cells [.i 0, .i 0] 52)]⟩ (.cons (L7 x1) .nil) (.cons rfl .nil) <| AJ ?_
 refine Af <| AC ?_
 refine rn ⟨[(2, tP 2 0), (4, tP 4 0), (6, tI (CI x1)), (7, tB (decide (((CI x1) : Int) = 1)))], [(2, .cells (AE.c x0) 52), (4, .cells [.i 0, .i 0] 52)]⟩ ?_
 refine Ae _ rfl (fun h1 => ?_) (fun h1 => ?_)
 ·have g1 := oT h1
  refine AC <| rn ⟨[(4, tP 4 0)], [(4, .cells [.i (W64 (0 - x0.Y)), .i x0.X] 52)]⟩ ?_
  refine Aj <| CD <| BO ?_
  exact ⟨_, Cv.refl _, .inl rfl, .av (.agg [.i (W64 (0 - x0.Y)), .i x0.X]), by kernel_rfl, Ao (by first | (simp only [C2, h1, cond_true, cond_false] <;> rfl))⟩
 ·have g1 := oF h1
  refine AC <| rn ⟨[(2, tP 2 0), (4, tP 4 0), (6, tI (CI x1)), (15, tB (decide (((CI x1) : Int) = 2)))], [(2, .cells (AE.c x0) 52), (4, .cells [.i 0, .i 0] 52)]⟩ ?_
  refine Ae _ rfl (fun h2 => ?_) (fun h2 => ?_)
  ·have g2 := oT h2
   refine AC <| rn ⟨[(4, tP 4 0)], [(4, .cells [.i (W64 (0 - x0.X)), .i (W64 (0 - x0.Y))] 52)]⟩ ?_
   refine Aj <| CD <| BO ?_
   exact ⟨_, Cv.refl _, .inl rfl, .av (.agg [.i (W64 (0 - x0.X)), .i (W64 (0 - x0.Y))]), by kernel_rfl, Ao (by first | (simp only [C2, h1, h2, cond_true, cond_false] <;> rfl))⟩
  ·have g2 := oF h2
   refine AC <| rn ⟨[(2, tP 2 0), (4, tP 4 0), (24, tB (decide (((CI x1) : Int) = 3)))], [(2, .cells (AE.c x0) 52), (4, .cells [.i 0, .i 0] 52)]⟩ ?_
   refine Ae _ rfl (fun h3 => ?_) (fun h3 => ?_)
   ·have g3 := oT h3
    refine AC <| rn ⟨[(4, tP 4 0)], [(4, .cells [.i x0.Y, .i (W64 (0 - x0.X))] 52)]⟩ ?_
    refine Aj <| CD <| BO ?_
    exact ⟨_, Cv.refl _, .inl rfl, .av (.agg [.i x0.Y, .i (W64 (0 - x0.X))]), by kernel_rfl, Ao (by first | (simp only [C2, h1, h2, h3, cond_true, cond_false] <;> rfl))⟩
   ·have g3 := oF h3
    refine Ak <| Bq ?_
    refine AJ <| AC ?_
    refine rn ⟨[(4, tP 4 0)], [(4, .cells (AE.c x0) 52)]⟩ <| Aj ?_
    exact ⟨_, Cv.refl _, .inl rfl, .av (.agg (AE.c x0)), by kernel_rfl, Ao (by first | (simp only [C2, h1, h2, h3, cond_true, cond_false] <;> rfl))⟩
theorem Kv (x0 : AE) (x1 : Int) : A1 Try.prog (Dn x0 x1).1 (Dn x0 x1).2.1 (Dn x0 x1).2.2 := Aa (fun _ _ => by kernel_rfl) fun _ => Lx x0 x1
def Ct (x0 : AE) (x1 : Bool) : AE := AE.mk (bif x1 then (W64 (0 - x0.X)) else x0.X) x0.Y
def DJ (x0 : AE) (x1 : Bool) : FuncId × List Av × Ef := (47, [.agg (AE.c x0), .one (.b x1)], .val [] (.av (.agg (AE.c (Ct x0 x1)))))
theorem J0 (x0 : AE) (x1 : Bool) : Bo Try.prog 47 (DJ x0 x1).2.1 (.av (.agg (AE.c (Ct x0 x1)))) := by
 refine AX Try.func47 rfl kr kr fun W0 M0 => ?_
 refine AC <| rn ⟨[(1, tB x1), (2, tP 2 0), (4, tP 4 0)], [(2, .cells (AE.c x0) 52), (4, .cells [.i 0, .i 0] 52)]⟩ ?_
 refine AC <| AC ?_
 refine rn ⟨[(2, tP 2 0), (4, tP 4 0), (5, tB x1)], [(2, .cells (AE.c x0) 52), (4, .cells [.i 0, .i 0] 52)]⟩ ?_
 refine Bm (⟨[(2, tP 2 0), (4, tP 4 0)], [(2, .cells [.i (bif x1 then (W64 (0 - x0.X)) else x0.X), .i x0.Y] 52), (4, .cells [.i 0, .i 0] 52)]⟩) ?_ ?_
 ·refine Ae _ rfl (fun h1 => ?_) (fun h1 => ?_)
  ·refine rn ⟨[(2, tP 2 0), (4, tP 4 0)], [(2, .cells [.i (W64 (0 - x0.X)), .i x0.Y] 52), (4, .cells [.i 0, .i 0] 52)]⟩ ?_
   refine A6 ?_
   first | rfl | (simp only [h1, cond_true, cond_false] <;> rfl)
  ·refine Ak <| AJ ?_
   refine Cv.trans (BA [2, 4] [2, 4] (⟨[(2, tP 2 0), (4, tP 4 0)], [(2, .cells (AE.c x0) 52), (4, .cells [.i 0, .i 0] 52)]⟩) kr) (A6 ?_)
   first | rfl | (simp only [h1, cond_true, cond_false] <;> rfl)
 refine AC <| rn ⟨[(4, tP 4 0)], [(4, .cells [.i (bif x1 then (W64 (0 - x0.X)) else x0.X), .i x0.Y] 52)]⟩ <| Aj ?_
 exact ⟨_, Cv.refl _, .inl rfl, .av (.agg [.i (bif x1 then (W64 (0 - x0.X)) else x0.X), .i x0.Y]), by kernel_rfl, Ao (by rfl)⟩
theorem JX (x0 : AE) (x1 : Bool) : A1 Try.prog (DJ x0 x1).1 (DJ x0 x1).2.1 (DJ x0 x1).2.2 := Aa (fun _ _ => by kernel_rfl) fun _ => J0 x0 x1
def Z09 (x1 : AE) (x0 : AO) : AE := C2 (Ct x1 x0.Mirror) x0.Turn
def Ab (x0 : AO) (x1 : AE) : AE := B7 (Z09 x1 x0) x0.At
def Br (x0 : AO) (x1 : AE) : FuncId × List Av × Ef := (17, [.agg (AO.c x0), .agg (AE.c x1)], .val [] (.av (.agg (AE.c (Ab x0 x1)))))
theorem M6 (x0 : AO) (x1 : AE) : Bo Try.prog 17 (Br x0 x1).2.1 (.av (.agg (AE.c (Ab x0 x1)))) := by
 refine AX Try.func17 rfl kr kr fun W0 M0 => ?_
 refine AC <| rn ⟨[(2, tP 2 0), (3, tP 3 0), (4, tP 4 0)], [(2, .cells (AO.c x0) 66), (3, .cells (AE.c x1) 52), (4, .cells [.i 0, .i 0] 52)]⟩ <| AC ?_
 refine dw [] [(8, DJ x1 x0.Mirror), (11, Dn (Ct x1 x0.Mirror) x0.Turn), (14, DZ (Z09 x1 x0) x0.At)] [Al (DJ x1 x0.Mirror).2.1, Al (Dn (Ct x1 x0.Mirror) x0.Turn).2.1, Al (DZ (Z09 x1 x0) x0.At).2.1] ⟨[(4, tP 4 0)], [(4, .cells (AE.c (B7 (Z09 x1 x0) x0.At)) 52)]⟩ (.cons (JX x1 x0.Mirror) (.cons (Kv (Ct x1 x0.Mirror) x0.Turn) (.cons (Hq (Z09 x1 x0) x0.At) .nil))) (.cons rfl (.cons rfl (.cons rfl .nil))) <| AJ <| Aj ?_
 exact ⟨_, Cv.refl _, .inl rfl, .av (.agg (AE.c (B7 (Z09 x1 x0) x0.At))), by kernel_rfl, Ao (by rfl)⟩
theorem DT (x0 : AO) (x1 : AE) : A1 Try.prog (Br x0 x1).1 (Br x0 x1).2.1 (Br x0 x1).2.2 := Aa (fun _ _ => by kernel_rfl) fun _ => M6 x0 x1
def CP (x0 : Int) : Int := bif decide ((x0 : Int) = 2) then (3) else (bif decide ((x0 : Int) = 3) then (2) else (x0))
def Ea (x0 : Int) : FuncId × List Av × Ef := (102, [.one (.i x0)], .val [] (.av (.one (.i (CP x0)))))
theorem OR (x0 : Int) : Bo Try.prog 102 (Ea x0).2.1 (tO (.i (CP x0))) := by
 refine AX Try.func102 rfl kr kr fun W0 M0 => ?_
 refine AC <| rn ⟨[(0, tI x0)], []⟩ ?_
 refine AC <| AC ?_
 refine rn ⟨[(0, tI x0), (3, tI x0)], []⟩ ?_
 refine Af <| AC ?_
 refine rn ⟨[(0, tI x0), (3, tI x0), (4, tB (decide ((x0 : Int) = 2)))], []⟩ ?_
 refine Ae _ rfl (fun h1 => ?_) (fun h1 => ?_)
 ·have g1 := oT h1
  refine AC <| rn ⟨[(2, tI 3)], []⟩ ?_
  refine Aj <| CD <| BO ?_
  exact ⟨_, Cv.refl _, .inl rfl, tO (.i 3), by kernel_rfl, Ao (by first | (simp only [CP, h1, cond_true, cond_false] <;> rfl))⟩
 ·have g1 := oF h1
  refine AC <| rn ⟨[(0, tI x0), (6, tB (decide ((x0 : Int) = 3)))], []⟩ ?_
  refine Ae _ rfl (fun h2 => ?_) (fun h2 => ?_)
  ·have g2 := oT h2
   refine AC <| rn ⟨[(2, tI 2)], []⟩ ?_
   refine Aj <| CD <| BO ?_
   exact ⟨_, Cv.refl _, .inl rfl, tO (.i 2), by kernel_rfl, Ao (by first | (simp only [CP, h1, h2, cond_true, cond_false] <;> rfl))⟩
  ·have g2 := oF h2
   refine Ak <| Bq ?_
   refine AJ <| AC ?_
   refine rn ⟨[(2, tI x0)], []⟩ <| Aj ?_
   exact ⟨_, Cv.refl _, .inl rfl, tO (.i x0), by kernel_rfl, Ao (by first | (simp only [CP, h1, h2, cond_true, cond_false] <;> rfl))⟩
theorem NE (x0 : Int) : A1 Try.prog (Ea x0).1 (Ea x0).2.1 (Ea x0).2.2 := Aa (fun _ _ => by kernel_rfl) fun _ => OR x0
def Fd (x0 : AH) (x1 : AO) : AH := AH.mk (bif x1.Mirror then (CP x0.Kind) else x0.Kind) (Ab x1 x0.A) (Ab x1 x0.B) (AE.mk (bif !decide ((x0.Kind : Int) = 1) then ((Ab x1 x0.C).X) else x0.C.X) (bif !decide ((x0.Kind : Int) = 1) then ((Ab x1 x0.C).Y) else x0.C.Y))
def Eb (x0 : AH) (x1 : AO) : FuncId × List Av × Ef := (91, [.agg (AH.c x0), .agg (AO.c x1)], .val [] (.av (.agg (AH.c (Fd x0 x1)))))
theorem OT (x0 : AH) (x1 : AO) : Bo Try.prog 91 (Eb x0 x1).2.1 (.av (.agg (AH.c (Fd x0 x1)))) := by
 refine AX Try.func91 rfl kr kr fun W0 M0 => ?_
 refine AC <| rn ⟨[(2, tP 2 0), (3, tP 3 0), (4, tP 4 0)], [(2, .cells (AH.c x0) 133), (3, .cells (AO.c x1) 66), (4, .cells [.i 0, .i 0, .i 0, .i 0, .i 0, .i 0, .i 0] 133)]⟩ <| AC ?_
 refine dw [] [(11, Br x1 x0.A), (15, Br x1 x0.B)] [Al (Br x1 x0.A).2.1, Al (Br x1 x0.B).2.1] ⟨[(2, tP 2 0), (3, tP 3 0), (4, tP 4 0), (5, tP 5 0)], [(2, .cells (AH.c x0) 133), (3, .cells (AO.c x1) 66), (4, .cells [.i 0, .i 0, .i 0, .i 0, .i 0, .i 0, .i 0] 133), (5, .cells [.i x0.Kind, .i ((Ab x1 x0.A).X), .i ((Ab x1 x0.A).Y), .i ((Ab x1 x0.B).X), .i ((Ab x1 x0.B).Y), .i x0.C.X, .i x0.C.Y] 133)]⟩ (.cons (DT x1 x0.A) (.cons (DT x1 x0.B) .nil)) (.cons rfl (.cons rfl .nil)) <| AJ ?_
 refine AC <| AC ?_
 refine rn ⟨[(2, tP 2 0), (3, tP 3 0), (4, tP 4 0), (5, tP 5 0), (21, tB (!decide ((x0.Kind : Int) = 1)))], [(2, .cells (AH.c x0) 133), (3, .cells (AO.c x1) 66), (4, .cells [.i 0, .i 0, .i 0, .i 0, .i 0, .i 0, .i 0] 133), (5, .cells [.i x0.Kind, .i ((Ab x1 x0.A).X), .i ((Ab x1 x0.A).Y), .i ((Ab x1 x0.B).X), .i ((Ab x1 x0.B).Y), .i x0.C.X, .i x0.C.Y] 133)]⟩ ?_
 refine Bm (⟨[(2, tP 2 0), (3, tP 3 0), (4, tP 4 0), (5, tP 5 0)], [(2, .cells (AH.c x0) 133), (3, .cells (AO.c x1) 66), (4, .cells [.i 0, .i 0, .i 0, .i 0, .i 0, .i 0, .i 0] 133), (5, .cells [.i x0.Kind, .i ((Ab x1 x0.A).X), .i ((Ab x1 x0.A).Y), .i ((Ab x1 x0.B).X), .i ((Ab x1 x0.B).Y), .i (bif !decide ((x0.Kind : Int) = 1) then ((Ab x1 x0.C).X) else x0.C.X), .i (bif !decide ((x0.Kind : Int) = 1) then ((Ab x1 x0.C).Y) else x0.C.Y)] 133)]⟩) ?_ ?_
 ·refine Ae _ rfl (fun h1 => ?_) (fun h1 => ?_)
  ·have g1 := Cp h1
   refine rc [(25, Br x1 x0.C)] [Al (Br x1 x0.C).2.1] ⟨[(2, tP 2 0), (3, tP 3 0), (4, tP 4 0), (5, tP 5 0)], [(2, .cells (AH.c x0) 133), (3, .cells (AO.c x1) 66), (4, .cells [.i 0, .i 0, .i 0, .i 0, .i 0, .i 0, .i 0] 133), (5, .cells [.i x0.Kind, .i ((Ab x1 x0.A).X), .i ((Ab x1 x0.A).Y), .i ((Ab x1 x0.B).X), .i ((Ab x1 x0.B).Y), .i ((Ab x1 x0.C).X), .i ((Ab x1 x0.C).Y)] 133)]⟩ (.cons (DT x1 x0.C) .nil) (.cons rfl .nil) <| AJ ?_
   refine A6 ?_
   first | rfl | (simp only [h1, cond_true, cond_false] <;> rfl)
  ·have g1 := Ck h1
   refine Ak <| AJ ?_
   refine Cv.trans (BA [2, 3, 4, 5] [2, 3, 4, 5] (⟨[(2, tP 2 0), (3, tP 3 0), (4, tP 4 0), (5, tP 5 0)], [(2, .cells (AH.c x0) 133), (3, .cells (AO.c x1) 66), (4, .cells [.i 0, .i 0, .i 0, .i 0, .i 0, .i 0, .i 0] 133), (5, .cells [.i x0.Kind, .i ((Ab x1 x0.A).X), .i ((Ab x1 x0.A).Y), .i ((Ab x1 x0.B).X), .i ((Ab x1 x0.B).Y), .i x0.C.X, .i x0.C.Y] 133)]⟩) kr) (A6 ?_)
   first | rfl | (simp only [h1, cond_true, cond_false] <;> rfl)
 refine AC <| AC ?_
 refine rn ⟨[(2, tP 2 0), (4, tP 4 0), (5, tP 5 0), (28, tB x1.Mirror)], [(2, .cells (AH.c x0) 133), (4, .cells [.i 0, .i 0, .i 0, .i 0, .i 0, .i 0, .i 0] 133), (5, .cells [.i x0.Kind, .i ((Ab x1 x0.A).X), .i ((Ab x1 x0.A).Y), .i ((Ab x1 x0.B).X), .i ((Ab x1 x0.B).Y), .i (bif !decide ((x0.Kind : Int) = 1) then ((Ab x1 x0.C).X) else x0.C.X), .i (bif !decide ((x0.Kind : Int) = 1) then ((Ab x1 x0.C).Y) else x0.C.Y)] 133)]⟩ ?_
 refine Bm (⟨[(4, tP 4 0), (5, tP 5 0)], [(4, .cells [.i 0, .i 0, .i 0, .i 0, .i 0, .i 0, .i 0] 133), (5, .cells [.i (bif x1.Mirror then (CP x0.Kind) else x0.Kind), .i ((Ab x1 x0.A).X), .i ((Ab x1 x0.A).Y), .i ((Ab x1 x0.B).X), .i ((Ab x1 x0.B).Y), .i (bif !decide ((x0.Kind : Int) = 1) then ((Ab x1 x0.C).X) else x0.C.X), .i (bif !decide ((x0.Kind : Int) = 1) then ((Ab x1 x0.C).Y) else x0.C.Y)] 133)]⟩) ?_ ?_
 ·refine Ae _ rfl (fun h1 => ?_) (fun h1 => ?_)
  ·refine rc [(31, Ea x0.Kind)] [Al (Ea x0.Kind).2.1] ⟨[(4, tP 4 0), (5, tP 5 0)], [(4, .cells [.i 0, .i 0, .i 0, .i 0, .i 0, .i 0, .i 0] 133), (5, .cells [.i (CP x0.Kind), .i ((Ab x1 x0.A).X), .i ((Ab x1 x0.A).Y), .i ((Ab x1 x0.B).X), .i ((Ab x1 x0.B).Y), .i (bif !decide ((x0.Kind : Int) = 1) then ((Ab x1 x0.C).X) else x0.C.X), .i (bif !decide ((x0.Kind : Int) = 1) then ((Ab x1 x0.C).Y) else x0.C.Y)] 133)]⟩ (.cons (NE x0.Kind) .nil) (.cons rfl .nil) <| AJ ?_
   refine A6 ?_
   first | rfl | (simp only [h1, cond_true, cond_false] <;> rfl)
  ·refine Ak <| AJ ?_
   refine Cv.trans (BA [4, 5] [4, 5] (⟨[(4, tP 4 0), (5, tP 5 0)], [(4, .cells [.i 0, .i 0, .i 0, .i 0, .i 0, .i 0, .i 0] 133), (5, .cells [.i x0.Kind, .i ((Ab x1 x0.A).X), .i ((Ab x1 x0.A).Y), .i ((Ab x1 x0.B).X), .i ((Ab x1 x0.B).Y), .i (bif !decide ((x0.Kind : Int) = 1) then ((Ab x1 x0.C).X) else x0.C.X), .i (bif !decide ((x0.Kind : Int) = 1) then ((Ab x1 x0.C).Y) else x0.C.Y)] 133)]⟩) kr) (A6 ?_)
   first | rfl | (simp only [h1, cond_true, cond_false] <;> rfl)
 refine AC <| rn ⟨[(4, tP 4 0)], [(4, .cells [.i (bif x1.Mirror then (CP x0.Kind) else x0.Kind), .i ((Ab x1 x0.A).X), .i ((Ab x1 x0.A).Y), .i ((Ab x1 x0.B).X), .i ((Ab x1 x0.B).Y), .i (bif !decide ((x0.Kind : Int) = 1) then ((Ab x1 x0.C).X) else x0.C.X), .i (bif !decide ((x0.Kind : Int) = 1) then ((Ab x1 x0.C).Y) else x0.C.Y)] 133)]⟩ <| Aj ?_
 exact ⟨_, Cv.refl _, .inl rfl, .av (.agg [.i (bif x1.Mirror then (CP x0.Kind) else x0.Kind), .i ((Ab x1 x0.A).X), .i ((Ab x1 x0.A).Y), .i ((Ab x1 x0.B).X), .i ((Ab x1 x0.B).Y), .i (bif !decide ((x0.Kind : Int) = 1) then ((Ab x1 x0.C).X) else x0.C.X), .i (bif !decide ((x0.Kind : Int) = 1) then ((Ab x1 x0.C).Y) else x0.C.Y)]), by kernel_rfl, Ao (by rfl)⟩
theorem NF (x0 : AH) (x1 : AO) : A1 Try.prog (Eb x0 x1).1 (Eb x0 x1).2.1 (Eb x0 x1).2.2 := Aa (fun _ _ => by kernel_rfl) fun _ => OT x0 x1
def Z0a (x2 : Int) (x1 : Int) : AE := Ab (AO.mk (AE.mk 0 0) x2 false) (AE.mk x1 0)
def Z0b (x3 : Int) (x2 : Int) (x1 : Int) : AE := Ab (AO.mk (AE.mk 0 0) (bif decide ((x3 : Int) = 3) then (W64 (x2 + 3)) else (W64 (x2 + 1))) false) (AE.mk x1 0)
def EI (x0 : AE) (x1 : Int) (x2 : Int) (x3 : Int) : AH := AH.mk x3 (B7 x0 (Z0a x2 x1)) (B7 x0 (Z0b x3 x2 x1)) x0
def Bx (x0 : AE) (x1 : Int) (x2 : Int) (x3 : Int) : FuncId × List Av × Ef := (79, [.agg (AE.c x0), .one (.i x1), .one (.i x2), .one (.i x3)], .val [] (.av (.agg (AH.c (EI x0 x1 x2 x3)))))
theorem QH (x0 : AE) (x1 : Int) (x2 : Int) (x3 : Int) : Bo Try.prog 79 (Bx x0 x1 x2 x3).2.1 (.av (.agg (AH.c (EI x0 x1 x2 x3)))) := by
 refine AX Try.func79 rfl kr kr fun W0 M0 => ?_
 refine AC <| rn ⟨[(1, tI x1), (2, tI x2), (3, tI x3), (4, tP 4 0), (8, tP 8 0)], [(4, .cells (AE.c x0) 52), (8, .cells [.i 0, .i 0, .i 0, .i 0, .i 0, .i 0, .i 0] 133)]⟩ <| AC ?_
 refine rc [(16, Br (AO.mk (AE.mk 0 0) x2 false) (AE.mk x1 0))] [Al (Br (AO.mk (AE.mk 0 0) x2 false) (AE.mk x1 0)).2.1] ⟨[(1, tI x1), (2, tI x2), (3, tI x3), (4, tP 4 0), (8, tP 8 0), (9, tP 9 0)], [(4, .cells (AE.c x0) 52), (8, .cells [.i 0, .i 0, .i 0, .i 0, .i 0, .i 0, .i 0] 133), (9, .cells (AE.c (Z0a x2 x1)) 52)]⟩ (.cons (DT (AO.mk (AE.mk 0 0) x2 false) (AE.mk x1 0)) .nil) (.cons rfl .nil) <| AJ <| AC ?_
 refine rn ⟨[(1, tI x1), (2, tI x2), (3, tI x3), (4, tP 4 0), (8, tP 8 0), (9, tP 9 0), (10, tI (W64 (x2 + 1)))], [(4, .cells (AE.c x0) 52), (8, .cells [.i 0, .i 0, .i 0, .i 0, .i 0, .i 0, .i 0] 133), (9, .cells (AE.c (Z0a x2 x1)) 52)]⟩ ?_
 refine AC <| AC ?_
 refine rn ⟨[(1, tI x1), (2, tI x2), (3, tI x3), (4, tP 4 0), (8, tP 8 0), (9, tP 9 0), (10, tI (W64 (x2 + 1))), (20, tB (decide ((x3 : Int) = 3)))], [(4, .cells (AE.c x0) 52), (8, .cells [.i 0, .i 0, .i 0, .i 0, .i 0, .i 0, .i 0] 133), (9, .cells (AE.c (Z0a x2 x1)) 52)]⟩ ?_
 refine Bm (⟨[(1, tI x1), (3, tI x3), (4, tP 4 0), (8, tP 8 0), (9, tP 9 0), (10, tI (bif decide ((x3 : Int) = 3) then (W64 (x2 + 3)) else (W64 (x2 + 1))))], [(4, .cells (AE.c x0) 52), (8, .cells [.i 0, .i 0, .i 0, .i 0, .i 0, .i 0, .i 0] 133), (9, .cells (AE.c (Z0a x2 x1)) 52)]⟩) ?_ ?_
 ·refine Ae _ rfl (fun h1 => ?_) (fun h1 => ?_)
  ·have g1 := oT h1
   refine rn ⟨[(1, tI x1), (3, tI x3), (4, tP 4 0), (8, tP 8 0), (9, tP 9 0), (10, tI (W64 (x2 + 3)))], [(4, .cells (AE.c x0) 52), (8, .cells [.i 0, .i 0, .i 0, .i 0, .i 0, .i 0, .i 0] 133), (9, .cells (AE.c (Z0a x2 x1)) 52)]⟩ ?_
   refine A6 ?_
   first | rfl | (simp only [h1, cond_true, cond_false] <;> rfl)
  ·have g1 := oF h1
   refine Ak <| AJ ?_
   refine Cv.trans (BA [1, 3, 4, 8, 9, 10] [4, 8, 9] (⟨[(1, tI x1), (3, tI x3), (4, tP 4 0), (8, tP 8 0), (9, tP 9 0), (10, tI (W64 (x2 + 1)))], [(4, .cells (AE.c x0) 52), (8, .cells [.i 0, .i 0, .i 0, .i 0, .i 0, .i 0, .i 0] 133), (9, .cells (AE.c (Z0a x2 x1)) 52)]⟩) kr) (A6 ?_)
   first | rfl | (simp only [h1, cond_true, cond_false] <;> rfl)
 refine AC <| rc [(27, Br (AO.mk (AE.mk 0 0) (bif decide ((x3 : Int) = 3) then (W64 (x2 + 3)) else (W64 (x2 + 1))) false) (AE.mk x1 0))] [Al (Br (AO.mk (AE.mk 0 0) (bif decide ((x3 : Int) = 3) then (W64 (x2 + 3)) else (W64 (x2 + 1))) false) (AE.mk x1 0)).2.1] ⟨[(3, tI x3), (4, tP 4 0), (8, tP 8 0), (9, tP 9 0), (11, tP 11 0)], [(4, .cells (AE.c x0) 52), (8, .cells [.i 0, .i 0, .i 0, .i 0, .i 0, .i 0, .i 0] 133), (9, .cells (AE.c (Z0a x2 x1)) 52), (11, .cells (AE.c (Z0b x3 x2 x1)) 52)]⟩ (.cons (DT (AO.mk (AE.mk 0 0) (bif decide ((x3 : Int) = 3) then (W64 (x2 + 3)) else (W64 (x2 + 1))) false) (AE.mk x1 0)) .nil) (.cons rfl .nil) <| AJ <| AC ?_
 refine dw [] [(31, DZ x0 (Z0a x2 x1)), (34, DZ x0 (Z0b x3 x2 x1))] [Al (DZ x0 (Z0a x2 x1)).2.1, Al (DZ x0 (Z0b x3 x2 x1)).2.1] ⟨[(8, tP 8 0)], [(8, .cells [.i x3, .i ((B7 x0 (Z0a x2 x1)).X), .i ((B7 x0 (Z0a x2 x1)).Y), .i ((B7 x0 (Z0b x3 x2 x1)).X), .i ((B7 x0 (Z0b x3 x2 x1)).Y), .i x0.X, .i x0.Y] 133)]⟩ (.cons (Hq x0 (Z0a x2 x1)) (.cons (Hq x0 (Z0b x3 x2 x1)) .nil)) (.cons rfl (.cons rfl .nil)) <| AJ <| Aj ?_
 exact ⟨_, Cv.refl _, .inl rfl, .av (.agg [.i x3, .i ((B7 x0 (Z0a x2 x1)).X), .i ((B7 x0 (Z0a x2 x1)).Y), .i ((B7 x0 (Z0b x3 x2 x1)).X), .i ((B7 x0 (Z0b x3 x2 x1)).Y), .i x0.X, .i x0.Y]), by kernel_rfl, Ao (by rfl)⟩
theorem DS (x0 : AE) (x1 : Int) (x2 : Int) (x3 : Int) : A1 Try.prog (Bx x0 x1 x2 x3).1 (Bx x0 x1 x2 x3).2.1 (Bx x0 x1 x2 x3).2.2 := Aa (fun _ _ => by kernel_rfl) fun _ => QH x0 x1 x2 x3
def Mm (n : Int) (m : Int) : Int := Int.tmod (W64 ((Int.tmod n m) + m)) m
def Qx (n : Int) (m : Int) : FuncId × List Av × Ef := (25, [.one (.i n), .one (.i m)], .val [] (.av (.one (.i (Mm n m)))))
theorem pMod (n : Int) (m : Int) (hm : m ≠ 0) : Bo Try.prog 25 (Qx n m).2.1 (tO (.i (Mm n m))) := by
 refine AX Try.func25 rfl kr kr fun W0 M0 => ?_
 refine AC <| rn ⟨[(0, tI n), (1, tI m)], []⟩ <| AC ?_
 refine rc [] [(m : Int) ≠ 0, (m : Int) ≠ 0] ⟨[(4, tI (Int.tmod (W64 ((Int.tmod n m) + m)) m))], []⟩ .nil (.cons au14 (.cons au14 .nil)) <| AJ <| Aj ?_
 exact ⟨_, Cv.refl _, .inl rfl, tO (.i (Int.tmod (W64 ((Int.tmod n m) + m)) m)), by kernel_rfl, Ao (by rfl)⟩
theorem okMod (n : Int) (m : Int) (hm : m ≠ 0) : A1 Try.prog (Qx n m).1 (Qx n m).2.1 (Qx n m).2.2 := Aa (fun _ _ => by kernel_rfl) fun _ => pMod n m hm
def Bp (d : AB) : Prop := 0 <= d.At /\ d.At <= d.L.length /\ (d.L.length : Int) <= 9223372036854775807
def AA (d : AB) (n : Int) : (Int × AB) := bif decide ((((d.L.length : Int)) : Int) <= d.At) then ((0, d)) else ((Mm (d.L.getD ((W64 ((W64 (d.At + 1)) - 1)).toNat) default) n, AB.mk d.L (W64 (d.At + 1))))
theorem au6 {p : Prop} (h : p := by first | with_reducible assumption | omega | decide | (simp only [List.length_cons, List.length_nil, List.length_append]; omega) | assumption) : p := h
theorem au0 {p : Prop} (h : p := by first | decide | omega | exact IL (by first | omega | (simp only [C1]; omega)) (by omega) | (simp only [C1]; omega) | (constructor <;> omega) | (simp only [List.length_append, List.length_cons, List.length_nil]; omega) | (simp only [List.length_append, List.length_cons, List.length_nil, List.length_drop, List.length_take] at *; omega)) : p := h
theorem Bd  (d : AB) (n : Int) (hd : Bp d) (hn : n ≠ 0) : Wr Try.prog 54 1000 [.one (.ptr 1000 0), .one (.i n)] (.cells (AB.c d) 146) (tO (.i ((AA d n).1))) (.cells (AB.c ((AA d n).2)) 146) := by
 refine F2 Try.func54 rfl kr kr kr kr fun W0 M0 X hX => ?_
 obtain ⟨a1, a2, a3⟩ := hd
 refine AC <| rn ⟨[(0, tP 1000 0), (1, tI n)], [(1000, .cells (AB.c d) 146)]⟩ ?_
 refine AC <| AC ?_
 refine dw [] [] [] ⟨[(0, tP 1000 0), (1, tI n), (14, tB (decide ((((d.L.length : Int)) : Int) <= d.At)))], [(1000, .cells (AB.c d) 146)]⟩ .nil .nil <| AJ ?_
 refine Ae _ rfl (fun h1 => ?_) (fun h1 => ?_)
 ·have g1 := oT h1
  refine AC <| rn ⟨[(4, tI 0)], [(1000, .cells (AB.c d) 146)]⟩ ?_
  refine Aj <| BO ?_
  exact ⟨_, Cv.refl _, .inl rfl, tO (.i 0), by kernel_rfl, ⟨Ao (by first | (simp only [AA, h1, cond_true, cond_false] <;> rfl)), .cells (AB.c d) 146, by kernel_rfl, DL (by first | (simp only [AA, h1, cond_true, cond_false]; done) | (simp only [AA, h1, cond_true, cond_false]; kernel_rfl))⟩⟩
 ·have g1 := oF h1
  refine Ak <| AJ <| AC ?_
  refine rn ⟨[(0, tP 1000 0), (1, tI n)], [(1000, .cells [lst 1 (fun x => [.i x]) d.L, .i (W64 (d.At + 1))] 146)]⟩ <| AC ?_
  refine dw [] [(34, Qx (d.L.getD ((W64 ((W64 (d.At + 1)) - 1)).toNat) default) n)] [0 <= (W64 ((W64 (d.At + 1)) - 1) : Int) /\ (W64 ((W64 (d.At + 1)) - 1) : Int) < ((d.L.length : Nat) : Int), Al (Qx (d.L.getD ((W64 ((W64 (d.At + 1)) - 1)).toNat) default) n).2.1] ⟨[(4, tI (Mm (d.L.getD ((W64 ((W64 (d.At + 1)) - 1)).toNat) default) n))], [(1000, .cells [lst 1 (fun x => [.i x]) d.L, .i (W64 (d.At + 1))] 146)]⟩ (.cons (okMod (d.L.getD ((W64 ((W64 (d.At + 1)) - 1)).toNat) default) n au6) .nil) (.cons au0 (.cons rfl .nil)) <| AJ <| Aj ?_
  exact ⟨_, Cv.refl _, .inl rfl, tO (.i (Mm (d.L.getD ((W64 ((W64 (d.At + 1)) - 1)).toNat) default) n)), by kernel_rfl, ⟨Ao (by first | (simp only [AA, h1, cond_true, cond_false] <;> rfl)), .cells [lst 1 (fun x => [.i x]) d.L, .i (W64 (d.At + 1))] 146, by kernel_rfl, DL (by first | (simp only [AA, h1, cond_true, cond_false]; done) | (simp only [AA, h1, cond_true, cond_false]; kernel_rfl))⟩⟩
theorem CS {l : List Int} (h : (l.length : Int) <= 9223372036854775807) : Bp (AB.mk l 0) := ⟨Int.le_refl _, by show (0 : Int) <= (l.length : Int); omega, h⟩
theorem BX {d : AB} {n : Int} (h : Bp d) : Bp (AA d n).2 := by
 obtain ⟨h1, h2, h3⟩ := h
 unfold AA
 by_cases hc : (d.L.length : Int) <= d.At
 ·simp only [hc, decide_true, cond_true]; exact ⟨h1, h2, h3⟩
 ·simp only [hc, decide_false, cond_false]
  rw [BP (by omega) (by omega)]
  exact ⟨by show 0 <= d.At + 1; omega, by show d.At + 1 <= (d.L.length : Int); omega, h3⟩
theorem mod_b (n m : Int) (h0 : 0 < m) (h1 : m <= 4611686018427387904) : 0 <= Mm n m /\ Mm n m < m := by
 have e : Mm n m = n % m := by
  unfold Mm W64
  rcases Int.lt_or_le n 0 with h | h
  ·have b1 := Int.emod_nonneg (-n) (show m ≠ 0 by omega)
   have b2 := Int.emod_lt_of_pos (-n) h0
   rw [show n.tmod m = -((-n) % m) by rw [<- Int.tmod_eq_emod_of_nonneg (by omega), Int.neg_tmod, Int.neg_neg]]
   rw [IntKind.wrap_i64]
   rw [show (-((-n) % m) + m + 9223372036854775808) % 18446744073709551616 - 9223372036854775808 = -((-n) % m) + m by omega]
   rw [Int.tmod_eq_emod_of_nonneg (by omega)]
   have e1 := Int.emod_add_mul_ediv (-n) m
   have e2 : -((-n) % m) + m = n + m * ((-n) / m + 1) := by grind
   rw [e2, Int.add_mul_emod_self_left]
  ·have b1 := Int.emod_nonneg n (show m ≠ 0 by omega)
   have b2 := Int.emod_lt_of_pos n h0
   rw [Int.tmod_eq_emod_of_nonneg h, IntKind.wrap_i64]
   rw [show (n % m + m + 9223372036854775808) % 18446744073709551616 - 9223372036854775808 = n % m + m by omega]
   rw [Int.tmod_eq_emod_of_nonneg (by omega), Int.add_emod_right, Int.emod_emod_of_dvd _ (Int.dvd_refl m)]
 rw [e]
 exact ⟨Int.emod_nonneg n (by omega), Int.emod_lt_of_pos n h0⟩
theorem Cq (d : AB) (n : Int) (h0 : 0 < n) (h1 : n <= 4611686018427387904) : 0 <= (AA d n).1 /\ (AA d n).1 < n := by
 unfold AA
 by_cases hc : (d.L.length : Int) <= d.At
 ·simp only [hc, decide_true, cond_true]; omega
 ·simp only [hc, decide_false, cond_false]
  exact mod_b _ n h0 h1
theorem MG {v a : Int} {d : AB} {n : Int} (h : v < W64 (a + (AA d n).1)) (h0 : 0 < n) (h1 : n <= 1000000) (ha : 0 <= a) (hb : a <= 1000000) : v < a + n := by
 have := Cq d n h0 (by omega)
 rw [BP (by omega) (by omega)] at h
 omega
theorem MR {v a : Int} {d : AB} {n : Int} (h : ¬ v < W64 (a + (AA d n).1)) (h0 : 0 < n) (h1 : n <= 1000000) (ha : 0 <= a) (hb : a <= 1000000) : W64 (a + (AA d n).1) < a + n := by
 have := Cq d n h0 (by omega)
 rw [BP (by omega) (by omega)]
 omega
theorem IY {p q : Prop} [Decidable p] [Decidable q] (h : (bif decide p then decide q else false) = true) : p /\ q := by
 by_cases hp : p
 ·rw [decide_eq_true hp] at h; exact ⟨hp, of_decide_eq_true h⟩
 ·rw [decide_eq_false hp] at h; cases h
theorem Cc {c : Bool} {a b : AB} (ha : Bp a) (hb : Bp b) : Bp (bif c then a else b) := by cases c <;> assumption
theorem HD (d : AB) (n k : Int) (h0 : 0 < n) (h1 : n <= 4611686018427387904) (h2 : n <= k) : 0 <= (AA d n).1 /\ (AA d n).1 < k := ⟨(Cq d n h0 h1).1, by have := (Cq d n h0 h1).2; omega⟩
end
section
open Go.RowKit
def Ek (x : Int) : Bool := !decide ((x : Int) = x)
def Gv (x : Int) : FuncId × List Av × Ef := (88, [.one (.i x)], .val [] (.av (.one (.b (Ek x)))))
theorem UT (x : Int) : Bo Try.prog 88 (Gv x).2.1 (tO (.b (Ek x))) := by
 refine AX Try.func88 rfl kr kr fun W0 M0 => ?_
 refine AC <| rn ⟨[(0, tI x)], []⟩ <| AC ?_
 refine rn ⟨[(2, tB (!decide ((x : Int) = x)))], []⟩ <| Aj ?_
 exact ⟨_, Cv.refl _, .inl rfl, tO (.b (!decide ((x : Int) = x))), by kernel_rfl, Ao (by rfl)⟩
theorem PZ (x : Int) : A1 Try.prog (Gv x).1 (Gv x).2.1 (Gv x).2.2 := Aa (fun _ _ => kr) fun _ => UT x
def DY (x : Int) (y : Int) : Int := bif Ek x then (bif Ek y then 0 else (-1)) else (bif Ek y then 1 else (bif decide ((x : Int) < y) then (-1) else (bif decide ((y : Int) < x) then 1 else 0)))
def GI (x : Int) (y : Int) : FuncId × List Av × Ef := (72, [.one (.i x), .one (.i y)], .val [] (.av (.one (.i (DY x y)))))
theorem RY (x : Int) (y : Int) : Bo Try.prog 72 (GI x y).2.1 (tO (.i (DY x y))) := by
 refine AX Try.func72 rfl kr kr fun W0 M0 => ?_
 refine AC <| rn ⟨[(0, tI x), (1, tI y)], []⟩ <| AC ?_
 refine rc [(8, Gv x)] [Al (Gv x).2.1] ⟨[(0, tI x), (1, tI y), (5, tB (Ek x))], []⟩ (.cons (PZ x) .nil) (.cons rfl .nil) <| AJ <| AC ?_
 refine rc [(10, Gv y)] [Al (Gv y).2.1] ⟨[(0, tI x), (1, tI y), (5, tB (Ek x)), (6, tB (Ek y))], []⟩ (.cons (PZ y) .nil) (.cons rfl .nil) <| AJ ?_
 refine AC <| AC ?_
 refine rn ⟨[(0, tI x), (1, tI y), (6, tB (Ek y)), (11, tB (Ek x))], []⟩ ?_
 refine Ae _ rfl (fun h1 => ?_) (fun h1 => ?_)
 ·refine AC <| AC ?_
  refine rn ⟨[(12, tB (Ek y))], []⟩ ?_
  refine Ae _ rfl (fun h2 => ?_) (fun h2 => ?_)
  ·refine AC <| rn ⟨[(4, tI 0)], []⟩ ?_
   refine Aj <| BO <| BO ?_
   exact ⟨_, Cv.refl _, .inl rfl, tO (.i 0), by kernel_rfl, Ao (by first | (simp only [DY, h1, h2, cond_true, cond_false] <;> rfl))⟩
  ·refine Ak <| AJ <| AC ?_
   refine rn ⟨[(4, tI (-1))], []⟩ ?_
   refine Aj <| BO ?_
   exact ⟨_, Cv.refl _, .inl rfl, tO (.i (-1)), by kernel_rfl, Ao (by first | (simp only [DY, h1, h2, cond_true, cond_false] <;> rfl))⟩
 ·refine Ak <| AJ ?_
  refine AC <| AC ?_
  refine rn ⟨[(0, tI x), (1, tI y), (13, tB (Ek y))], []⟩ ?_
  refine Ae _ rfl (fun h2 => ?_) (fun h2 => ?_)
  ·refine AC <| rn ⟨[(4, tI 1)], []⟩ ?_
   refine Aj <| BO ?_
   exact ⟨_, Cv.refl _, .inl rfl, tO (.i 1), by kernel_rfl, Ao (by first | (simp only [DY, h1, h2, cond_true, cond_false] <;> rfl))⟩
  ·refine Ak <| AJ ?_
   refine AC <| AC ?_
   refine rn ⟨[(0, tI x), (1, tI y), (16, tB (decide ((x : Int) < y)))], []⟩ ?_
   refine Ae _ rfl (fun h3 => ?_) (fun h3 => ?_)
   ·have g3 := oT h3
    refine AC <| rn ⟨[(4, tI (-1))], []⟩ ?_
    refine Aj <| BO ?_
    exact ⟨_, Cv.refl _, .inl rfl, tO (.i (-1)), by kernel_rfl, Ao (by first | (simp only [DY, h1, h2, h3, cond_true, cond_false] <;> rfl))⟩
   ·have g3 := oF h3
    refine Ak <| AJ ?_
    refine AC <| AC ?_
    refine rn ⟨[(19, tB (decide ((y : Int) < x)))], []⟩ ?_
    refine Ae _ rfl (fun h4 => ?_) (fun h4 => ?_)
    ·have g4 := oT h4
     refine AC <| rn ⟨[(4, tI 1)], []⟩ ?_
     refine Aj <| BO ?_
     exact ⟨_, Cv.refl _, .inl rfl, tO (.i 1), by kernel_rfl, Ao (by first | (simp only [DY, h1, h2, h3, h4, cond_true, cond_false] <;> rfl))⟩
    ·have g4 := oF h4
     refine Ak <| AJ <| AC ?_
     refine rn ⟨[(4, tI 0)], []⟩ <| Aj ?_
     exact ⟨_, Cv.refl _, .inl rfl, tO (.i 0), by kernel_rfl, Ao (by first | (simp only [DY, h1, h2, h3, h4, cond_true, cond_false] <;> rfl))⟩
theorem QX (x : Int) (y : Int) : A1 Try.prog (GI x y).1 (GI x y).2.1 (GI x y).2.2 := Aa (fun _ _ => kr) fun _ => RY x y
def Ih (x : AD) (y : AD) : Int := DY x.Id y.Id
def Lh (x : AD) (y : AD) : FuncId × List Av × Ef := (71, [.agg (AD.c x), .agg (AD.c y)], .val [] (.av (.one (.i (Ih x y)))))
theorem pcmpP (x : AD) (y : AD) : Bo Try.prog 71 (Lh x y).2.1 (tO (.i (Ih x y))) := by
 refine AX Try.func71 rfl kr kr fun W0 M0 => ?_
 refine AC <| rn ⟨[(2, tP 2 0), (3, tP 3 0)], [(2, .cells (AD.c x) 59), (3, .cells (AD.c y) 59)]⟩ <| AC ?_
 refine rc [(9, GI x.Id y.Id)] [Al (GI x.Id y.Id).2.1] ⟨[(4, tI (DY x.Id y.Id))], []⟩ (.cons (QX x.Id y.Id) .nil) (.cons rfl .nil) <| AJ <| Aj ?_
 exact ⟨_, Cv.refl _, .inl rfl, tO (.i (DY x.Id y.Id)), by kernel_rfl, Ao (by rfl)⟩
theorem Ul (x : AD) (y : AD) : A1 Try.prog (Lh x y).1 (Lh x y).2.1 (Lh x y).2.2 := Aa (fun _ _ => kr) fun _ => pcmpP x y
def Fg (l : (List AD)) (n : Int) (data : List AD) (i : Int) (K0 : List AD -> Int -> (List AD)) : Nat -> List AD -> Int -> (List AD)
 | 0, _, _ => default
 | n1 + 1, data', j => bif bif decide ((0 : Int) < j) then decide (((Ih (data'.getD j.toNat default) (data'.getD (j - 1).toNat default)) : Int) < 0) else false then ((Fg l n data i K0 n1) ((data'.set j.toNat (data'.getD (j - 1).toNat default)).set (j - 1).toNat (data'.getD j.toNat default)) (j - 1)) else (K0 data' (i + 1))
def Dk (l : (List AD)) (n : Int) : Nat -> List AD -> Int -> (List AD)
 | 0, _, _ => default
 | n0 + 1, data, i => bif decide ((i : Int) < n) then (Fg l n data i (Dk l n n0) (i.toNat + 1) data i) else data
def ET (l : (List AD)) (n : Int) : (List AD) := Dk l n ((n - 1).toNat + 1) l 1
theorem au2 {p : Prop} (h : p := by first | (simp; done) | (simp; omega)) : p := h
theorem lr {p : Prop} (h : p := by repeat (first | exact .nil | refine .cons ⟨rfl, .refl _⟩ ?_)) : p := h
theorem pInsP (l : (List AD)) (n : Int) (hn : n = (l.length : Int)) (hl : l.length < 20) : WrR Try.prog 93 1000 [.one (.own 1000 7 l.length), .one (.i 0), .one (.i n), .one (.clo 71 0 (fun _ => default))] 7 l.length (AY AD.c l) 59 (.tup []) (AY AD.c (ET l n)) := by
 refine Hm Try.func93 rfl kr kr kr fun W0 M0 X hX => ?_
 refine AC <| rn ⟨[(0, tO (.own 1000 7 l.length)), (1, tI 0), (2, tI n), (3, .av (.one (.clo 71 0 (fun _ => default)))), (8, tI 1)], [(1000, .row 7 l.length (AY AD.c l) 59)]⟩ <| Af ?_
 refine BL (ι := Nat × List AD × Int) (fun x => ⟨[(0, tO (.own 1000 7 x.2.1.length)), (1, tI 0), (2, tI n), (3, .av (.one (.clo 71 0 (fun _ => default)))), (8, tI x.2.2)], [(1000, .row 7 x.2.1.length (AY AD.c x.2.1) 59)]⟩) (fun x => (n - x.2.2).toNat < x.1 /\ (1 <= x.2.2 /\ x.2.1.length = l.length /\ 1 <= x.2.2 /\ (x.2.2 <= n \/ x.2.2 = 1)) /\ Dk l n x.1 x.2.1 x.2.2 = ET l n) (fun x => x.1) ?_ ((n - 1).toNat + 1, l, 1) ⟨Nat.lt_succ_self _, ⟨ax0, ax0, ax0, ax0⟩, (by simp only [ET, cond_true, cond_false])⟩
 rintro ⟨n0, data, i⟩ ⟨hn, hinv, hF⟩
 have hm0 := hn; have hinv0 := hinv; have hF0 := hF; try dsimp only at hm0 hinv0 hF0
 clear hn hinv hF
 cases n0 with
 | zero => exact absurd hm0 (Nat.not_lt_zero _)
 | succ n0 =>
  refine AC <| AC ?_
  refine rn ⟨[(0, tO (.own 1000 7 data.length)), (1, tI 0), (2, tI n), (3, .av (.one (.clo 71 0 (fun _ => default)))), (8, tI i), (14, tB (decide ((i : Int) < n)))], [(1000, .row 7 data.length (AY AD.c data) 59)]⟩ ?_
  refine Ae _ rfl (fun h1 => ?_) (fun h1 => ?_)
  ·have g1 := oT h1
   refine Ak <| AJ ?_
   refine AC <| Af <| AC ?_
   refine rn ⟨[(0, tO (.own 1000 7 data.length)), (1, tI 0), (2, tI n), (3, .av (.one (.clo 71 0 (fun _ => default)))), (8, tI i), (9, tI i)], [(1000, .row 7 data.length (AY AD.c data) 59)]⟩ <| Af ?_
   refine BL (ι := Nat × List AD × Int) (fun x => ⟨[(0, tO (.own 1000 7 x.2.1.length)), (1, tI 0), (2, tI n), (3, .av (.one (.clo 71 0 (fun _ => default)))), (8, tI i), (9, tI x.2.2)], [(1000, .row 7 x.2.1.length (AY AD.c x.2.1) 59)]⟩) (fun x => x.2.2.toNat < x.1 /\ (0 <= x.2.2 /\ x.2.1.length = l.length /\ x.2.2 < n) /\ Fg l n data i (Dk l n n0) x.1 x.2.1 x.2.2 = ET l n) (fun x => x.1) ?_ (i.toNat + 1, data, i) ⟨Nat.lt_succ_self _, ⟨ax0, ax0, ax0⟩, (by rw [<- hF0]; simp only [Dk, h1, cond_true, cond_false])⟩
   rintro ⟨n1, data', j⟩ ⟨hn, hinv, hF⟩
   have hm1 := hn; have hinv1 := hinv; have hF1 := hF; try dsimp only at hm1 hinv1 hF1
   clear hn hinv hF
   cases n1 with
   | zero => exact absurd hm1 (Nat.not_lt_zero _)
   | succ n1 =>
    refine AC <| AC ?_
    refine dw [] [(32, Lh (data'.getD j.toNat default) (data'.getD (W64 (j - 1)).toNat default))] [((decide ((0 : Int) < j)) = true) -> ((decide ((0 : Int) < j)) = true), ((decide ((0 : Int) < j)) = true) -> ((decide ((0 : Int) < j)) = true), ((decide ((0 : Int) < j)) = true) -> (0 <= (j : Int) /\ (j : Int) < ((data'.length : Nat) : Int)), ((decide ((0 : Int) < j)) = true) -> ((decide ((0 : Int) < j)) = true), ((decide ((0 : Int) < j)) = true) -> (j.toNat < data'.length), ((decide ((0 : Int) < j)) = true) -> ((decide ((0 : Int) < j)) = true), ((decide ((0 : Int) < j)) = true) -> ((decide ((0 : Int) < j)) = true), ((decide ((0 : Int) < j)) = true) -> ((decide ((0 : Int) < j)) = true), ((decide ((0 : Int) < j)) = true) -> (0 <= (W64 (j - 1) : Int) /\ (W64 (j - 1) : Int) < ((data'.length : Nat) : Int)), ((decide ((0 : Int) < j)) = true) -> ((decide ((0 : Int) < j)) = true), ((decide ((0 : Int) < j)) = true) -> ((W64 (j - 1)).toNat < data'.length), ((decide ((0 : Int) < j)) = true) -> ((decide ((0 : Int) < j)) = true), ((decide ((0 : Int) < j)) = true) -> ((decide ((0 : Int) < j)) = true), ((decide ((0 : Int) < j)) = true) -> ((decide ((0 : Int) < j)) = true), ((decide ((0 : Int) < j)) = true) -> (Al (Lh (data'.getD j.toNat default) (data'.getD (W64 (j - 1)).toNat default)).2.1), ((decide ((0 : Int) < j)) = true) -> ((decide ((0 : Int) < j)) = true), (decide ((0 : Int) < j)) = true -> ((decide ((0 : Int) < j)) = true)] ⟨[(0, tO (.own 1000 7 data'.length)), (1, tI 0), (2, tI n), (3, .av (.one (.clo 71 0 (fun _ => default)))), (8, tI i), (9, tI j), (34, tB (bif decide ((0 : Int) < j) then decide (((Ih (data'.getD j.toNat default) (data'.getD (W64 (j - 1)).toNat default)) : Int) < 0) else false))], [(1000, .row 7 data'.length (AY AD.c data') 59)]⟩ (.cons (Ul (data'.getD j.toNat default) (data'.getD (W64 (j - 1)).toNat default)) .nil) (.cons id (.cons id (.cons (fun hG => by first | exact au0 | (simp only [decide_eq_true_eq, decide_eq_false_iff_not, Bool.not_eq_true, Bool.and_eq_true] at hG <;> omega) | (simp at hG <;> omega) | (simp only [decide_eq_true_eq, decide_eq_false_iff_not] at hG; simp only [C1]; omega)) (.cons id (.cons (fun hG => by first | exact au0 | (simp only [decide_eq_true_eq, decide_eq_false_iff_not, Bool.not_eq_true, Bool.and_eq_true] at hG <;> omega) | (simp at hG <;> omega) | (simp only [decide_eq_true_eq, decide_eq_false_iff_not] at hG; simp only [C1]; omega)) (.cons id (.cons id (.cons id (.cons (fun hG => by first | exact au0 | (simp only [decide_eq_true_eq, decide_eq_false_iff_not, Bool.not_eq_true, Bool.and_eq_true] at hG <;> omega) | (simp at hG <;> omega) | (simp only [decide_eq_true_eq, decide_eq_false_iff_not] at hG; simp only [C1]; omega)) (.cons id (.cons (fun hG => by first | exact au0 | (simp only [decide_eq_true_eq, decide_eq_false_iff_not, Bool.not_eq_true, Bool.and_eq_true] at hG <;> omega) | (simp at hG <;> omega) | (simp only [decide_eq_true_eq, decide_eq_false_iff_not] at hG; simp only [C1]; omega)) (.cons id (.cons id (.cons id (.cons (fun _ => rfl) (.cons id (.cons id .nil))))))))))))))))) ?_
    (try rw [(show W64 (j - 1) = j - 1 from BP (by omega) (by omega))])
    refine AJ ?_
    refine Ae _ rfl (fun h2 => ?_) (fun h2 => ?_)
    ·have g2 := IY h2
     refine Ak <| AJ ?_
     refine AC <| Af ?_
     refine dw [] [] [0 <= (W64 (j - 1) : Int) /\ (W64 (j - 1) : Int) < ((data'.length : Nat) : Int), (W64 (j - 1)).toNat < data'.length, 0 <= (j : Int) /\ (j : Int) < ((data'.length : Nat) : Int), j.toNat < data'.length, 0 <= (j : Int) /\ (j : Int) < ((data'.length : Nat) : Int), j.toNat < data'.length, 0 <= (W64 (j - 1) : Int) /\ (W64 (j - 1) : Int) < ((data'.length : Nat) : Int), (W64 (j - 1)).toNat < data'.length] ⟨[(0, tO (.own 1000 7 data'.length)), (1, tI 0), (2, tI n), (3, .av (.one (.clo 71 0 (fun _ => default)))), (8, tI i), (9, tI j)], [(1000, .row 7 data'.length (fun i_ j_ => if i_ = (W64 (j - 1)).toNat /\ 0 <= j_ /\ j_ < 0 + 7 then ([.i (data'.getD j.toNat default).Id, .s (data'.getD j.toNat default).Ref, .s (data'.getD j.toNat default).Type', .i (data'.getD j.toNat default).At.X, .i (data'.getD j.toNat default).At.Y, .i (data'.getD j.toNat default).Turn, .b (data'.getD j.toNat default).Under] : List Cl).getD (j_ - 0) default else (fun i_ j_ => if i_ = j.toNat /\ 0 <= j_ /\ j_ < 0 + 7 then ([.i (data'.getD (W64 (j - 1)).toNat default).Id, .s (data'.getD (W64 (j - 1)).toNat default).Ref, .s (data'.getD (W64 (j - 1)).toNat default).Type', .i (data'.getD (W64 (j - 1)).toNat default).At.X, .i (data'.getD (W64 (j - 1)).toNat default).At.Y, .i (data'.getD (W64 (j - 1)).toNat default).Turn, .b (data'.getD (W64 (j - 1)).toNat default).Under] : List Cl).getD (j_ - 0) default else (AY AD.c data') i_ j_) i_ j_) 59)]⟩ .nil (.cons au0 (.cons au0 (.cons au0 (.cons au0 (.cons au0 (.cons au0 (.cons au0 (.cons au0 .nil)))))))) ?_
     (try rw [(show W64 (j - 1) = j - 1 from BP (by omega) (by omega))])
     refine Bq <| AJ ?_
     refine Bl (Cv.trans (BR (⟨[(0, tO (.own 1000 7 ((data'.set j.toNat (data'.getD (j - 1).toNat default)).set (j - 1).toNat (data'.getD j.toNat default)).length)), (1, tI 0), (2, tI n), (3, .av (.one (.clo 71 0 (fun _ => default)))), (8, tI i), (9, tI j)], [(1000, .row 7 ((data'.set j.toNat (data'.getD (j - 1).toNat default)).set (j - 1).toNat (data'.getD j.toNat default)).length (AY AD.c ((data'.set j.toNat (data'.getD (j - 1).toNat default)).set (j - 1).toNat (data'.getD j.toNat default))) 59)]⟩) (.cons ⟨rfl, .av (.one (.own _ _ au2))⟩ lr) (.cons ⟨rfl, Aw 59 (Jl (l := [.i (data'.getD j.toNat default).Id, .s (data'.getD j.toNat default).Ref, .s (data'.getD j.toNat default).Type', .i (data'.getD j.toNat default).At.X, .i (data'.getD j.toNat default).At.Y, .i (data'.getD j.toNat default).Turn, .b (data'.getD j.toNat default).Under]) (off := 0) (q := 7) (k := (j - 1).toNat) (Jl (l := [.i (data'.getD (j - 1).toNat default).Id, .s (data'.getD (j - 1).toNat default).Ref, .s (data'.getD (j - 1).toNat default).Type', .i (data'.getD (j - 1).toNat default).At.X, .i (data'.getD (j - 1).toNat default).At.Y, .i (data'.getD (j - 1).toNat default).Turn, .b (data'.getD (j - 1).toNat default).Under]) (off := 0) (q := 7) (k := j.toNat) (BK 7 AD.c data') au0 (data'.getD (j - 1).toNat default) (GQ kr)) au0 (data'.getD j.toNat default) (GQ kr))⟩ .nil)) (Cv.refl _)) ?_
     refine rg ⟨[(0, tO (.own 1000 7 ((data'.set j.toNat (data'.getD (j - 1).toNat default)).set (j - 1).toNat (data'.getD j.toNat default)).length)), (1, tI 0), (2, tI n), (3, .av (.one (.clo 71 0 (fun _ => default)))), (8, tI i), (9, tI (W64 (j - 1)))], [(1000, .row 7 ((data'.set j.toNat (data'.getD (j - 1).toNat default)).set (j - 1).toNat (data'.getD j.toNat default)).length (AY AD.c ((data'.set j.toNat (data'.getD (j - 1).toNat default)).set (j - 1).toNat (data'.getD j.toNat default))) 59)]⟩ ?_
     (try rw [(show W64 (j - 1) = j - 1 from BP (by omega) (by omega))])
     refine AJ ?_
     refine ⟨(n1, (data'.set j.toNat (data'.getD (j - 1).toNat default)).set (j - 1).toNat (data'.getD j.toNat default), j - 1), ⟨?_, ?_, (by rw [<- hF1]; simp only [Fg, h2, cond_true, cond_false])⟩, Nat.lt_succ_self _, A6 kr⟩
     ·show (j - 1).toNat < n1; omega
     ·exact ⟨ax0, ax0, ax0⟩
    ·refine BZ <| BI ?_
     refine BI <| Ba ?_
     refine Bq <| AJ ?_
     refine rg ⟨[(0, tO (.own 1000 7 data'.length)), (1, tI 0), (2, tI n), (3, .av (.one (.clo 71 0 (fun _ => default)))), (8, tI (W64 (i + 1)))], [(1000, .row 7 data'.length (AY AD.c data') 59)]⟩ ?_
     (try rw [(show W64 (i + 1) = i + 1 from BP (by omega) (by omega))])
     refine AJ ?_
     refine ⟨(n0, data', i + 1), ⟨?_, ?_, (by rw [<- hF1]; simp only [Fg, h2, cond_true, cond_false])⟩, Nat.lt_succ_self _, A6 kr⟩
     ·show (n - (i + 1)).toNat < n0; omega
     ·exact ⟨ax0, ax0, ax0, ax0⟩
  ·have g1 := oF h1
   refine BZ <| BI ?_
   refine BI <| Ba ?_
   exact ⟨_, Cv.refl _, .inr rfl, .tup [], by kernel_rfl, Ao rfl, .row 7 data.length (AY AD.c data) 59, by kernel_rfl, H1 (c := AD.c) (xs := data) (by rw [<- hF0]; first | (simp only [Dk, h1, cond_true, cond_false] <;> rfl)) (by first | omega | (simp only [List.length_set]; omega) | simp)⟩
theorem N7 (l : List AD) (n : Int) (hn : n = (l.length : Int)) : ET l n = Ft (fun x y => decide (Ih x y < 0)) l := by
 unfold ET
 cases l with
 | nil => subst hn; rfl
 | cons a l =>
  have h := U3 (fun x y => decide (Ih x y < 0)) (a :: l) (Dk (a :: l) n) id (fun m d i hi => by
   rw [Dk, decide_eq_false (by omega), cond_false]; rfl) (fun m i out rest x hi ho => by
   rw [Dk, decide_eq_true (by omega), cond_true]
   have h1 := U2 (fun x y => decide (Ih x y < 0)) (Fg (a :: l) n (out ++ x :: rest) i (Dk (a :: l) n m)) (fun d => Dk (a :: l) n m d ((i : Int) + 1)) (fun m d j => by
    rw [Fg, Int.toNat_natCast, show ((j : Int) - 1).toNat = j - 1 by omega]) out rest x i ((i : Int).toNat + 1) (by omega) (by omega)
   subst ho
   rw [List.take_length, List.drop_length, List.nil_append] at h1
   rw [h1]
   unfold MK
   rw [List.append_assoc]; rfl) ((a :: l).length - 1) ((n - 1).toNat + 1) 1 rfl (by simp) (by omega)
  exact h
theorem HV (l : List AD) (n : Int) (hn : n = (l.length : Int)) (hl : l.length < 20) : (ET l n).length = l.length := by rw [N7 l n hn, Hs]
def Z0c (l : (List AD)) (n : Int) : FuncId × List Av × Ef := (93, ([.one (.own 1000 7 l.length), .one (.i 0), .one (.i n), .one (.clo 71 0 (fun _ => default))] : List Av).map (Lu 1000 1000), wrI 1000 (.row 7 l.length (AY AD.c l) 59) (.tup []) (.row 7 l.length (AY AD.c (ET l n)) 59))
def G5 (l : (List AD)) (n : Int) : (List AD) := ET l n
theorem pStaP (l : (List AD)) (n : Int) (hn : n = (l.length : Int)) (hl : l.length < 20) : WrR Try.prog 87 1000 [.one (.own 1000 7 l.length), .one (.i n), .one (.clo 71 0 (fun _ => default))] 7 l.length (AY AD.c l) 59 (.tup []) (AY AD.c (G5 l n)) := by
 refine Hm Try.func87 rfl kr kr kr fun W0 M0 X hX => ?_
 refine AC <| rn ⟨[(0, tO (.own 1000 7 l.length)), (1, tI n), (2, .av (.one (.clo 71 0 (fun _ => default)))), (6, tI 20)], [(1000, .row 7 l.length (AY AD.c l) 59)]⟩ <| AC ?_
 refine rn ⟨[(0, tO (.own 1000 7 l.length)), (1, tI n), (2, .av (.one (.clo 71 0 (fun _ => default)))), (6, tI 20), (7, tI 0), (8, tI 20)], [(1000, .row 7 l.length (AY AD.c l) 59)]⟩ ?_
 refine AC <| Af ?_
 refine I7 1 ?_
 refine Fc <| AC <| AC ?_
 refine rn ⟨[(0, tO (.own 1000 7 l.length)), (1, tI n), (2, .av (.one (.clo 71 0 (fun _ => default)))), (6, tI 20), (7, tI 0), (8, tI 20), (13, tB (decide ((20 : Int) <= n)))], [(1000, .row 7 l.length (AY AD.c l) 59)]⟩ ?_
 have h1 : (decide ((20 : Int) <= n)) = false := decide_eq_false (by omega)
 have g1 := oF h1
 refine Ae _ rfl (fun h => absurd (h1.symm.trans h) (by decide)) (fun _ => ?_)
 refine BZ <| BI ?_
 refine BI <| Ba ?_
 refine AJ <| AC ?_
 refine rc [(27, (Z0c l n))] [Al (Z0c l n).2.1, BH (.row 7 l.length (AY AD.c l) 59)] ⟨[(0, tO (.own 1000 7 l.length)), (1, tI n), (2, .av (.one (.clo 71 0 (fun _ => default)))), (6, tI 20)], [(1000, .row 7 l.length (AY AD.c (ET l n)) 59)]⟩ (.cons (Hz (fun _ _ => kr) kr (pInsP l n au6 au6)) .nil) (.cons rfl (.cons rfl .nil)) <| AJ ?_
 refine Bl (Cv.trans (BR (⟨[(0, tO (.own 1000 7 (ET l n).length)), (1, tI n), (2, .av (.one (.clo 71 0 (fun _ => default)))), (6, tI 20)], [(1000, .row 7 (ET l n).length (AY AD.c (ET l n)) 59)]⟩) (.cons ⟨rfl, .av (.one (.own _ _ (HV l n au6 au6).symm))⟩ lr) (.cons ⟨rfl, Aw 59 (⟨(HV l n au6 au6).symm, fun _ _ _ _ => .refl _⟩)⟩ .nil)) (Cv.refl _)) <| Af ?_
 refine I7 1 ?_
 refine Fc <| AC <| AC ?_
 refine rn ⟨[(0, tO (.own 1000 7 (ET l n).length)), (1, tI n), (2, .av (.one (.clo 71 0 (fun _ => default)))), (6, tI 20), (30, tB (decide ((20 : Int) < n)))], [(1000, .row 7 (ET l n).length (AY AD.c (ET l n)) 59)]⟩ ?_
 have h2 : (decide ((20 : Int) < n)) = false := decide_eq_false (by omega)
 have g2 := oF h2
 refine Ae _ rfl (fun h => absurd (h2.symm.trans h) (by decide)) (fun _ => ?_)
 refine BZ <| BI ?_
 refine BI <| Ba ?_
 exact ⟨_, Cv.refl _, .inr rfl, .tup [], by kernel_rfl, Ao rfl, .row 7 (ET l n).length (AY AD.c (ET l n)) 59, by kernel_rfl, H1 (c := AD.c) (xs := ET l n) (by first | (simp only [G5, h1, h2, cond_true, cond_false] <;> rfl)) (HV l n hn hl)⟩
theorem JB (l : List AD) (n : Int) (hn : n = (l.length : Int)) (hl : l.length < 20) : (G5 l n).length = l.length := HV l n hn hl
def Z0d (l : (List AD)) : FuncId × List Av × Ef := (87, ([.one (.own 1000 7 l.length), .one (.i ((l.length : Nat) : Int)), .one (.clo 71 0 (fun _ => default))] : List Av).map (Lu 1000 1000), wrI 1000 (.row 7 l.length (AY AD.c l) 59) (.tup []) (.row 7 l.length (AY AD.c (G5 l ((l.length : Nat) : Int))) 59))
def BN (l : (List AD)) : (List AD) := G5 l ((l.length : Nat) : Int)
theorem pSrtP (l : (List AD)) (hl : l.length < 20) : WrR Try.prog 70 1000 [.one (.own 1000 7 l.length), .one (.clo 71 0 (fun _ => default))] 7 l.length (AY AD.c l) 59 (.tup []) (AY AD.c (BN l)) := by
 refine Hm Try.func70 rfl kr kr kr fun W0 M0 X hX => ?_
 refine rc [(8, (Z0d l))] [Al (Z0d l).2.1, BH (.row 7 l.length (AY AD.c l) 59)] ⟨[], [(1000, .row 7 l.length (AY AD.c (G5 l ((l.length : Nat) : Int))) 59)]⟩ (.cons (Hz (fun _ _ => kr) kr (pStaP l ((l.length : Nat) : Int) au6 au6)) .nil) (.cons rfl (.cons rfl .nil)) ?_
 exact ⟨_, Cv.trans (BR (⟨[], [(1000, .row 7 (G5 l ((l.length : Nat) : Int)).length (AY AD.c (G5 l ((l.length : Nat) : Int))) 59)]⟩) .nil (.cons ⟨rfl, Aw 59 (⟨(JB l ((l.length : Nat) : Int) au6 au6).symm, fun _ _ _ _ => .refl _⟩)⟩ .nil)) (Cv.refl _), .inr rfl, .tup [], by kernel_rfl, Ao rfl, .row 7 (G5 l ((l.length : Nat) : Int)).length (AY AD.c (G5 l ((l.length : Nat) : Int))) 59, by kernel_rfl, H1 (c := AD.c) (xs := G5 l ((l.length : Nat) : Int)) (by rfl) (JB l _ rfl hl)⟩
theorem HU (l : List AD) (hl : l.length < 20) : (BN l).length = l.length := JB l _ rfl hl
theorem Sr (l : List AD) : BN l = Ft (fun x y => decide (Ih x y < 0)) l := N7 l _ rfl
end
section
open Go.RowKit
def N2 (p : Ap) : Prop := (p.Shape.Edges.length : Int) <= 1000000
def H5 (g : As) : Prop := (g.Legs.length : Int) <= 1000000
def H3 (t : AG) : Prop := (t.Pads.length : Int) <= 1000000 /\ (t.Gates.length : Int) <= 1000000 /\ (∀ p ∈ t.Pads, N2 p) /\ ∀ g ∈ t.Gates, H5 g
def B1 (l : List AG) : Prop := (l.length : Int) <= 1000000 /\ ∀ t ∈ l, H3 t
theorem GY {α : Type} [Inhabited α] {p : α -> Prop} {l : List α} (hd : p default) (h : ∀ x ∈ l, p x) (k : Nat) : p (l.getD k default) := by
 rw [List.getD_eq_getElem?_getD]
 cases hk : l[k]? with
 | none => exact hd
 | some x => exact h x (List.mem_of_getElem? hk)
theorem N9 {l : List AG} (h : B1 l) (k : Nat) : H3 (l.getD k default) := GY (p := H3) ⟨by decide, by decide, (fun p hp => by cases hp), fun p hp => by cases hp⟩ h.2 k
theorem J5 {t : AG} (h : H3 t) (k : Nat) : ((t.Pads.getD k default).Shape.Edges.length : Int) <= 1000000 := GY (p := N2) (by unfold N2; decide) h.2.2.1 k
theorem LS {t : AG} (h : H3 t) (k : Nat) : ((t.Gates.getD k default).Legs.length : Int) <= 1000000 := GY (p := H5) (by unfold H5; decide) h.2.2.2 k
theorem au3 {p : Prop} (h : p := by first | (unfold maxLen; omega) | (unfold maxLen; simp only [List.length_append, List.length_cons, List.length_nil]; omega) | first | omega | (simp only [List.length_append, List.length_cons, List.length_nil]; omega)) : p := h
theorem RM (l : (List AH)) (h0 : (l.length : Int) <= 1000000) : Fr Try.prog 43 [.one (.list true 7 l.length (AY AH.c l))] (.row 7 l.length (AY AH.c l) 133) (fun d => tO (.own d 7 l.length)) := by
 refine EZ Try.func43 rfl kr (FV _ _) fun W0 M0 => ?_
 refine AC <| rn ⟨[(0, .av (.one (.list true 7 l.length (AY AH.c l))))], []⟩ ?_
 refine AC <| AC ?_
 refine rn ⟨[(0, .av (.one (.list true 7 l.length (AY AH.c l)))), (4, tB false)], []⟩ ?_
 refine EH kr <| Ak ?_
 refine AJ <| AC ?_
 refine Da Dz [5] [] [] [2] [7] [0 = 0, 0 + l.length <= maxLen, (0 + l.length) * 56 <= 140737488355328] ⟨[(2, tO (.own 7 7 (0 + l.length)))], [(7, .row 7 (0 + l.length) (fun i_ j_ => if i_ < 0 then (A0 7 0 []) i_ j_ else (AY AH.c l) (i_ - 0) j_) 133)]⟩ .nil kr (.cons rfl (.cons au3 (.cons au3 .nil))) <| AJ ?_
 refine Bl (Cv.trans (BR (⟨[(2, tO (.own 7 7 l.length))], [(7, .row 7 l.length (AY AH.c l) 133)]⟩) (.cons ⟨rfl, .av (.one (.own _ _ au2))⟩ .nil) (.cons ⟨rfl, Aw 133 (BV (A2 (c := AH.c) (xs := (([] : List AH) : List AH)) rfl kr) (BK 7 AH.c l))⟩ .nil)) (Cv.refl _)) <| Aj ?_
 exact ⟨_, Cv.refl _, .inl rfl, tO (.own 7 7 l.length), by kernel_rfl, frE (c := AH.c) (xs := l) (by rfl) kr⟩
abbrev vN : Cl := .val (.slice none 0 0)
theorem RN (l : (List AH)) (h0 : l.length = 0) : Fr Try.prog 43 [.one vN] (.row 7 l.length (AY AH.c l) 133) (fun d => tO (.own d 7 l.length)) := by
 refine EZ Try.func43 rfl kr (FV _ _) fun W0 M0 => ?_
 cases l with
 | cons a l => cases h0
 | nil =>
 refine AC <| rn ⟨[(0, .av (.one vN))], []⟩ ?_
 refine AC <| AC ?_
 refine rn ⟨[(0, .av (.one vN)), (4, tB true)], []⟩ ?_
 refine Db kr <| AC ?_
 refine rn ⟨[(2, .av (.one vN))], []⟩ ?_
 refine Aj <| BO ?_
 exact ⟨_, Cv.trans (CH (⟨[(2, tO (.own 100000 7 0))], [(100000, .row 7 0 (fun _ _ => default) 133)]⟩) 100000 7 (fun _ _ => default) 133 [(2, [0])] [] (K := []) (fun k x h => by cases h) rfl kr kr) (Cv.trans (BR (⟨[(2, tO (.own 100000 7 ([] : List AH).length))], [(100000, .row 7 ([] : List AH).length (AY AH.c ([] : List AH)) 133)]⟩) (.cons ⟨rfl, .av (.one (.own _ _ au2))⟩ .nil) (.cons ⟨rfl, Aw 133 (CF 7 (fun _ _ => default) AH.c)⟩ .nil)) (Cv.refl _)), .inl rfl, tO (.own 100000 7 ([] : List AH).length), by kernel_rfl, frE (c := AH.c) (xs := ([] : List AH)) (by rfl) kr⟩
def FF (l : (List AH)) : FuncId × List Av × Ef := (43, [.one (lst 7 AH.c l)], .new [] (.row 7 l.length (AY AH.c l) 133) (fun d => .av (.one (.own d 7 l.length))))
theorem J7 (l : (List AH)) (h0 : (l.length : Int) <= 1000000) : A1 Try.prog (FF l).1 (FF l).2.1 (FF l).2.2 := Li (fun _ _ => kr) (O0 (fun hz => RN l hz) (RM l h0))
theorem RK (l : (List BT)) (h0 : (l.length : Int) <= 1000000) : Fr Try.prog 61 [.one (.list true 2 l.length (AY BT.c l))] (.row 2 l.length (AY BT.c l) 160) (fun d => tO (.own d 2 l.length)) := by
 refine EZ Try.func61 rfl kr (FV _ _) fun W0 M0 => ?_
 refine AC <| rn ⟨[(0, .av (.one (.list true 2 l.length (AY BT.c l))))], []⟩ ?_
 refine AC <| AC ?_
 refine rn ⟨[(0, .av (.one (.list true 2 l.length (AY BT.c l)))), (4, tB false)], []⟩ ?_
 refine EH kr <| Ak ?_
 refine AJ <| AC ?_
 refine Da Dz [5] [] [] [2] [7] [0 = 0, 0 + l.length <= maxLen, (0 + l.length) * 24 <= 140737488355328] ⟨[(2, tO (.own 7 2 (0 + l.length)))], [(7, .row 2 (0 + l.length) (fun i_ j_ => if i_ < 0 then (A0 2 0 []) i_ j_ else (AY BT.c l) (i_ - 0) j_) 160)]⟩ .nil kr (.cons rfl (.cons au3 (.cons au3 .nil))) <| AJ ?_
 refine Bl (Cv.trans (BR (⟨[(2, tO (.own 7 2 l.length))], [(7, .row 2 l.length (AY BT.c l) 160)]⟩) (.cons ⟨rfl, .av (.one (.own _ _ au2))⟩ .nil) (.cons ⟨rfl, Aw 160 (BV (A2 (c := BT.c) (xs := (([] : List BT) : List BT)) rfl kr) (BK 2 BT.c l))⟩ .nil)) (Cv.refl _)) <| Aj ?_
 exact ⟨_, Cv.refl _, .inl rfl, tO (.own 7 2 l.length), by kernel_rfl, frE (c := BT.c) (xs := l) (by rfl) kr⟩
theorem RL (l : (List BT)) (h0 : l.length = 0) : Fr Try.prog 61 [.one vN] (.row 2 l.length (AY BT.c l) 160) (fun d => tO (.own d 2 l.length)) := by
 refine EZ Try.func61 rfl kr (FV _ _) fun W0 M0 => ?_
 cases l with
 | cons a l => cases h0
 | nil =>
 refine AC <| rn ⟨[(0, .av (.one vN))], []⟩ ?_
 refine AC <| AC ?_
 refine rn ⟨[(0, .av (.one vN)), (4, tB true)], []⟩ ?_
 refine Db kr <| AC ?_
 refine rn ⟨[(2, .av (.one vN))], []⟩ ?_
 refine Aj <| BO ?_
 exact ⟨_, Cv.trans (CH (⟨[(2, tO (.own 100000 2 0))], [(100000, .row 2 0 (fun _ _ => default) 160)]⟩) 100000 2 (fun _ _ => default) 160 [(2, [0])] [] (K := []) (fun k x h => by cases h) rfl kr kr) (Cv.trans (BR (⟨[(2, tO (.own 100000 2 ([] : List BT).length))], [(100000, .row 2 ([] : List BT).length (AY BT.c ([] : List BT)) 160)]⟩) (.cons ⟨rfl, .av (.one (.own _ _ au2))⟩ .nil) (.cons ⟨rfl, Aw 160 (CF 2 (fun _ _ => default) BT.c)⟩ .nil)) (Cv.refl _)), .inl rfl, tO (.own 100000 2 ([] : List BT).length), by kernel_rfl, frE (c := BT.c) (xs := ([] : List BT)) (by rfl) kr⟩
theorem RI (l : (List AD)) (h0 : (l.length : Int) <= 1000000) : Fr Try.prog 69 [.one (.list true 7 l.length (AY AD.c l))] (.row 7 l.length (AY AD.c l) 59) (fun d => tO (.own d 7 l.length)) := by
 refine EZ Try.func69 rfl kr (FV _ _) fun W0 M0 => ?_
 refine AC <| rn ⟨[(0, .av (.one (.list true 7 l.length (AY AD.c l))))], []⟩ ?_
 refine AC <| AC ?_
 refine rn ⟨[(0, .av (.one (.list true 7 l.length (AY AD.c l)))), (4, tB false)], []⟩ ?_
 refine EH kr <| Ak ?_
 refine AJ <| AC ?_
 refine Da Dz [5] [] [] [2] [7] [0 = 0, 0 + l.length <= maxLen, (0 + l.length) * 72 <= 140737488355328] ⟨[(2, tO (.own 7 7 (0 + l.length)))], [(7, .row 7 (0 + l.length) (fun i_ j_ => if i_ < 0 then (A0 7 0 []) i_ j_ else (AY AD.c l) (i_ - 0) j_) 59)]⟩ .nil kr (.cons rfl (.cons au3 (.cons au3 .nil))) <| AJ ?_
 refine Bl (Cv.trans (BR (⟨[(2, tO (.own 7 7 l.length))], [(7, .row 7 l.length (AY AD.c l) 59)]⟩) (.cons ⟨rfl, .av (.one (.own _ _ au2))⟩ .nil) (.cons ⟨rfl, Aw 59 (BV (A2 (c := AD.c) (xs := (([] : List AD) : List AD)) rfl kr) (BK 7 AD.c l))⟩ .nil)) (Cv.refl _)) <| Aj ?_
 exact ⟨_, Cv.refl _, .inl rfl, tO (.own 7 7 l.length), by kernel_rfl, frE (c := AD.c) (xs := l) (by rfl) kr⟩
theorem RJ (l : (List AD)) (h0 : l.length = 0) : Fr Try.prog 69 [.one vN] (.row 7 l.length (AY AD.c l) 59) (fun d => tO (.own d 7 l.length)) := by
 refine EZ Try.func69 rfl kr (FV _ _) fun W0 M0 => ?_
 cases l with
 | cons a l => cases h0
 | nil =>
 refine AC <| rn ⟨[(0, .av (.one vN))], []⟩ ?_
 refine AC <| AC ?_
 refine rn ⟨[(0, .av (.one vN)), (4, tB true)], []⟩ ?_
 refine Db kr <| AC ?_
 refine rn ⟨[(2, .av (.one vN))], []⟩ ?_
 refine Aj <| BO ?_
 exact ⟨_, Cv.trans (CH (⟨[(2, tO (.own 100000 7 0))], [(100000, .row 7 0 (fun _ _ => default) 59)]⟩) 100000 7 (fun _ _ => default) 59 [(2, [0])] [] (K := []) (fun k x h => by cases h) rfl kr kr) (Cv.trans (BR (⟨[(2, tO (.own 100000 7 ([] : List AD).length))], [(100000, .row 7 ([] : List AD).length (AY AD.c ([] : List AD)) 59)]⟩) (.cons ⟨rfl, .av (.one (.own _ _ au2))⟩ .nil) (.cons ⟨rfl, Aw 59 (CF 7 (fun _ _ => default) AD.c)⟩ .nil)) (Cv.refl _)), .inl rfl, tO (.own 100000 7 ([] : List AD).length), by kernel_rfl, frE (c := AD.c) (xs := ([] : List AD)) (by rfl) kr⟩
def IW (l : (List AD)) : FuncId × List Av × Ef := (69, [.one (lst 7 AD.c l)], .new [] (.row 7 l.length (AY AD.c l) 59) (fun d => .av (.one (.own d 7 l.length))))
theorem Rf (l : (List AD)) (h0 : (l.length : Int) <= 1000000) : A1 Try.prog (IW l).1 (IW l).2.1 (IW l).2.2 := Li (fun _ _ => kr) (O0 (fun hz => RJ l hz) (RI l h0))
def CU (l : List BT) : List BT := l
def Gx (l : List BT) : FuncId × List Av × Ef := (61, [.one (lst 2 BT.c l)], .val [] (.av (.one (lst 2 BT.c (CU l)))))
theorem QV (l : List BT) (h0 : (l.length : Int) <= 1000000) : A1 Try.prog (Gx l).1 (Gx l).2.1 (Gx l).2.2 := Aa (fun _ _ => kr) fun _ => Jz (O0 (fun hz => RL l hz) (RK l h0))
def E5 (t : AG) (name : ByteArray) : Bool := (t.Name.toList == name.toList)
theorem pisTy  (t : AG) (name : ByteArray) : Bo Try.prog 60 [.agg (AG.c t), .one (.eptr 1 1 (gD [.s name]) 0 0)] (tO (.b (E5 t name))) := by
 refine AX Try.func60 rfl kr kr fun W0 M0 => ?_
 refine AC <| rn ⟨[(1, .av (.one (.eptr 1 1 (gD [.s name]) 0 0))), (2, tP 2 0)], [(2, .cells (AG.c t) 114)]⟩ <| AC ?_
 refine rn ⟨[(3, tB (t.Name.toList == name.toList))], []⟩ <| Aj ?_
 exact ⟨_, Cv.refl _, .inl rfl, tO (.b (t.Name.toList == name.toList)), by kernel_rfl, Ao (by rfl)⟩
def Z0e (xs : (List AG)) (v8 : Int) (name : ByteArray) : FuncId × List Av × Ef := (60, [.agg (AG.c (xs.getD v8.toNat default)), .one (.eptr 1 1 (fun _ j_ => ([.s name] : List Cl).getD j_ default) 0 0)], .val [] (tB (E5 (xs.getD v8.toNat default) name)))
def E2 (xs : (List AG)) (name : ByteArray) : Nat -> Int -> Int
 | 0, _ => default
 | n0 + 1, v8 => bif decide ((v8 : Int) < (xs.length : Int)) then (bif E5 (xs.getD v8.toNat default) name then v8 else ((E2 xs name n0) (v8 + 1))) else (-1)
def A7 (xs : (List AG)) (name : ByteArray) : Int := E2 xs name (((xs.length : Int) - 0).toNat + 1) 0
theorem au9 {p : Prop} (h : p := by first | omega | (simp only [List.length_drop, List.length_take] at *; omega)) : p := h
theorem pixTy  (xs : (List AG)) (name : ByteArray) (hx : (xs.length : Int) <= 9223372036854775807) : Bo Try.prog 59 [.one (lst 3 AG.c xs), .one (.clo 60 1 (BE [.eptr 1 1 (gD [.s name]) 0 0]))] (tO (.i (A7 xs name))) := by
 refine AX Try.func59 rfl kr kr fun W0 M0 => ?_
 refine AC <| rn ⟨[(0, tO (lst 3 AG.c xs)), (1, .av (.one (.clo 60 1 (BE [.eptr 1 1 (gD [.s name]) 0 0]))))], []⟩ ?_
 refine AC <| AC ?_
 refine rn ⟨[(0, tO (lst 3 AG.c xs)), (1, .av (.one (.clo 60 1 (BE [.eptr 1 1 (gD [.s name]) 0 0])))), (7, tI (xs.length : Int)), (8, tI 0)], []⟩ <| Af ?_
 refine BL (ι := Nat × Int) (fun x => ⟨[(0, tO (lst 3 AG.c xs)), (1, .av (.one (.clo 60 1 (BE [.eptr 1 1 (gD [.s name]) 0 0])))), (7, tI (xs.length : Int)), (8, tI x.2)], []⟩) (fun x => ((xs.length : Int) - x.2).toNat < x.1 /\ (0 <= x.2 /\ (x.2 <= (xs.length : Int) \/ x.2 = 0)) /\ E2 xs name x.1 x.2 = A7 xs name) (fun x => x.1) ?_ (((xs.length : Int) - 0).toNat + 1, 0) ⟨Nat.lt_succ_self _, ⟨ax0, ax0⟩, (by simp only [A7, cond_true, cond_false])⟩
 rintro ⟨n0, v8⟩ ⟨hn, hinv, hF⟩
 have hm0 := hn; have hinv0 := hinv; have hF0 := hF; try dsimp only at hm0 hinv0 hF0
 clear hn hinv hF
 cases n0 with
 | zero => exact absurd hm0 (Nat.not_lt_zero _)
 | succ n0 =>
  refine AC <| rn ⟨[(0, tO (lst 3 AG.c xs)), (1, .av (.one (.clo 60 1 (BE [.eptr 1 1 (gD [.s name]) 0 0])))), (7, tI (xs.length : Int)), (8, tI v8), (9, tB (decide ((v8 : Int) < (xs.length : Int))))], []⟩ <| AC ?_
  refine Ae _ rfl (fun h1 => ?_) (fun h1 => ?_)
  ·have g1 := oT h1
   refine Ak <| AJ ?_
   refine AC <| Af <| AC ?_
   refine rn ⟨[(0, tO (lst 3 AG.c xs)), (1, .av (.one (.clo 60 1 (BE [.eptr 1 1 (gD [.s name]) 0 0])))), (5, tI v8), (7, tI (xs.length : Int)), (8, tI v8)], []⟩ <| AC ?_
   refine rc [(16, (Z0e xs v8 name))] [0 <= (v8 : Int) /\ (v8 : Int) < ((xs.length : Nat) : Int), Al (Z0e xs v8 name).2.1] ⟨[(0, tO (lst 3 AG.c xs)), (1, .av (.one (.clo 60 1 (BE [.eptr 1 1 (gD [.s name]) 0 0])))), (5, tI v8), (7, tI (xs.length : Int)), (8, tI v8), (16, tB (E5 (xs.getD v8.toNat default) name))], []⟩ (.cons (Aa (fun _ _ => kr) fun _ => pisTy (xs.getD v8.toNat default) name) .nil) (.cons au0 (.cons rfl .nil)) <| AJ ?_
   refine Ae _ rfl (fun h2 => ?_) (fun h2 => ?_)
   ·refine AC <| rn ⟨[(4, tI v8)], []⟩ ?_
    refine Aj <| CD ?_
    refine BO <| BO ?_
    refine CD <| BO ?_
    exact ⟨_, Cv.refl _, .inl rfl, tO (.i v8), by kernel_rfl, Ao (by rw [<- hF0]; first | (simp only [E2, h1, h2, cond_true, cond_false] <;> rfl))⟩
   ·refine Ak <| Bq <| AJ ?_
    refine rg ⟨[(0, tO (lst 3 AG.c xs)), (1, .av (.one (.clo 60 1 (BE [.eptr 1 1 (gD [.s name]) 0 0])))), (7, tI (xs.length : Int)), (8, tI (W64 (v8 + 1)))], []⟩ ?_
    (try rw [(show W64 (v8 + 1) = v8 + 1 from BP (by omega) au9)])
    refine AJ ?_
    refine ⟨(n0, v8 + 1), ⟨?_, ?_, (by rw [<- hF0]; simp only [E2, h1, h2, cond_true, cond_false])⟩, Nat.lt_succ_self _, A6 kr⟩
    ·show ((xs.length : Int) - (v8 + 1)).toNat < n0; omega
    ·exact ⟨ax0, ax0⟩
  ·have g1 := oF h1
   refine BZ <| BI ?_
   refine BI <| Ba ?_
   refine AJ <| AC ?_
   refine rn ⟨[(4, tI (-1))], []⟩ <| Aj ?_
   exact ⟨_, Cv.refl _, .inl rfl, tO (.i (-1)), by kernel_rfl, Ao (by rw [<- hF0]; first | (simp only [E2, h1, cond_true, cond_false] <;> rfl))⟩
def Hl (p : Ap) (pad : ByteArray) : Bool := (p.Name.toList == pad.toList)
theorem pisPd  (p : Ap) (pad : ByteArray) : Bo Try.prog 63 [.agg (Ap.c p), .one (.eptr 1 1 (gD [.s pad]) 0 0)] (tO (.b (Hl p pad))) := by
 refine AX Try.func63 rfl kr kr fun W0 M0 => ?_
 refine AC <| rn ⟨[(1, .av (.one (.eptr 1 1 (gD [.s pad]) 0 0))), (2, tP 2 0)], [(2, .cells (Ap.c p) 118)]⟩ <| AC ?_
 refine rn ⟨[(3, tB (p.Name.toList == pad.toList))], []⟩ <| Aj ?_
 exact ⟨_, Cv.refl _, .inl rfl, tO (.b (p.Name.toList == pad.toList)), by kernel_rfl, Ao (by rfl)⟩
def Z0f (xs : (List Ap)) (v8 : Int) (pad : ByteArray) : FuncId × List Av × Ef := (63, [.agg (Ap.c (xs.getD v8.toNat default)), .one (.eptr 1 1 (fun _ j_ => ([.s pad] : List Cl).getD j_ default) 0 0)], .val [] (tB (Hl (xs.getD v8.toNat default) pad)))
def E4 (xs : (List Ap)) (pad : ByteArray) : Nat -> Int -> Int
 | 0, _ => default
 | n0 + 1, v8 => bif decide ((v8 : Int) < (xs.length : Int)) then (bif Hl (xs.getD v8.toNat default) pad then v8 else ((E4 xs pad n0) (v8 + 1))) else (-1)
def EW (xs : (List Ap)) (pad : ByteArray) : Int := E4 xs pad (((xs.length : Int) - 0).toNat + 1) 0
theorem pixPd  (xs : (List Ap)) (pad : ByteArray) (hx : (xs.length : Int) <= 9223372036854775807) : Bo Try.prog 62 [.one (lst 7 Ap.c xs), .one (.clo 63 1 (BE [.eptr 1 1 (gD [.s pad]) 0 0]))] (tO (.i (EW xs pad))) := by
 refine AX Try.func62 rfl kr kr fun W0 M0 => ?_
 refine AC <| rn ⟨[(0, tO (lst 7 Ap.c xs)), (1, .av (.one (.clo 63 1 (BE [.eptr 1 1 (gD [.s pad]) 0 0]))))], []⟩ ?_
 refine AC <| AC ?_
 refine rn ⟨[(0, tO (lst 7 Ap.c xs)), (1, .av (.one (.clo 63 1 (BE [.eptr 1 1 (gD [.s pad]) 0 0])))), (7, tI (xs.length : Int)), (8, tI 0)], []⟩ <| Af ?_
 refine BL (ι := Nat × Int) (fun x => ⟨[(0, tO (lst 7 Ap.c xs)), (1, .av (.one (.clo 63 1 (BE [.eptr 1 1 (gD [.s pad]) 0 0])))), (7, tI (xs.length : Int)), (8, tI x.2)], []⟩) (fun x => ((xs.length : Int) - x.2).toNat < x.1 /\ (0 <= x.2 /\ (x.2 <= (xs.length : Int) \/ x.2 = 0)) /\ E4 xs pad x.1 x.2 = EW xs pad) (fun x => x.1) ?_ (((xs.length : Int) - 0).toNat + 1, 0) ⟨Nat.lt_succ_self _, ⟨ax0, ax0⟩, (by simp only [EW, cond_true, cond_false])⟩
 rintro ⟨n0, v8⟩ ⟨hn, hinv, hF⟩
 have hm0 := hn; have hinv0 := hinv; have hF0 := hF; try dsimp only at hm0 hinv0 hF0
 clear hn hinv hF
 cases n0 with
 | zero => exact absurd hm0 (Nat.not_lt_zero _)
 | succ n0 =>
  refine AC <| rn ⟨[(0, tO (lst 7 Ap.c xs)), (1, .av (.one (.clo 63 1 (BE [.eptr 1 1 (gD [.s pad]) 0 0])))), (7, tI (xs.length : Int)), (8, tI v8), (9, tB (decide ((v8 : Int) < (xs.length : Int))))], []⟩ <| AC ?_
  refine Ae _ rfl (fun h1 => ?_) (fun h1 => ?_)
  ·have g1 := oT h1
   refine Ak <| AJ ?_
   refine AC <| Af <| AC ?_
   refine rn ⟨[(0, tO (lst 7 Ap.c xs)), (1, .av (.one (.clo 63 1 (BE [.eptr 1 1 (gD [.s pad]) 0 0])))), (5, tI v8), (7, tI (xs.length : Int)), (8, tI v8)], []⟩ <| AC ?_
   refine rc [(16, (Z0f xs v8 pad))] [0 <= (v8 : Int) /\ (v8 : Int) < ((xs.length : Nat) : Int), Al (Z0f xs v8 pad).2.1] ⟨[(0, tO (lst 7 Ap.c xs)), (1, .av (.one (.clo 63 1 (BE [.eptr 1 1 (gD [.s pad]) 0 0])))), (5, tI v8), (7, tI (xs.length : Int)), (8, tI v8), (16, tB (Hl (xs.getD v8.toNat default) pad))], []⟩ (.cons (Aa (fun _ _ => kr) fun _ => pisPd (xs.getD v8.toNat default) pad) .nil) (.cons au0 (.cons rfl .nil)) <| AJ ?_
   refine Ae _ rfl (fun h2 => ?_) (fun h2 => ?_)
   ·refine AC <| rn ⟨[(4, tI v8)], []⟩ ?_
    refine Aj <| CD ?_
    refine BO <| BO ?_
    refine CD <| BO ?_
    exact ⟨_, Cv.refl _, .inl rfl, tO (.i v8), by kernel_rfl, Ao (by rw [<- hF0]; first | (simp only [E4, h1, h2, cond_true, cond_false] <;> rfl))⟩
   ·refine Ak <| Bq <| AJ ?_
    refine rg ⟨[(0, tO (lst 7 Ap.c xs)), (1, .av (.one (.clo 63 1 (BE [.eptr 1 1 (gD [.s pad]) 0 0])))), (7, tI (xs.length : Int)), (8, tI (W64 (v8 + 1)))], []⟩ ?_
    (try rw [(show W64 (v8 + 1) = v8 + 1 from BP (by omega) au9)])
    refine AJ ?_
    refine ⟨(n0, v8 + 1), ⟨?_, ?_, (by rw [<- hF0]; simp only [E4, h1, h2, cond_true, cond_false])⟩, Nat.lt_succ_self _, A6 kr⟩
    ·show ((xs.length : Int) - (v8 + 1)).toNat < n0; omega
    ·exact ⟨ax0, ax0⟩
  ·have g1 := oF h1
   refine BZ <| BI ?_
   refine BI <| Ba ?_
   refine AJ <| AC ?_
   refine rn ⟨[(4, tI (-1))], []⟩ <| Aj ?_
   exact ⟨_, Cv.refl _, .inl rfl, tO (.i (-1)), by kernel_rfl, Ao (by rw [<- hF0]; first | (simp only [E4, h1, cond_true, cond_false] <;> rfl))⟩
def Hk (x : AD) (pin : AR) : Bool := (x.Ref.toList == pin.Ref.toList)
theorem pisPl  (x : AD) (pin : AR) : Bo Try.prog 30 [.agg (AD.c x), .one (.eptr 2 1 (gD (AR.c pin)) 0 0)] (tO (.b (Hk x pin))) := by
 refine AX Try.func30 rfl kr kr fun W0 M0 => ?_
 refine AC <| rn ⟨[(1, .av (.one (.eptr 2 1 (gD (AR.c pin)) 0 0))), (2, tP 2 0)], [(2, .cells (AD.c x) 59)]⟩ <| AC ?_
 refine rn ⟨[(3, tB (x.Ref.toList == pin.Ref.toList))], []⟩ <| Aj ?_
 exact ⟨_, Cv.refl _, .inl rfl, tO (.b (x.Ref.toList == pin.Ref.toList)), by kernel_rfl, Ao (by rfl)⟩
def Z0g (xs : (List AD)) (v8 : Int) (pin : AR) : FuncId × List Av × Ef := (30, [.agg (AD.c (xs.getD v8.toNat default)), .one (.eptr 2 1 (fun _ j_ => ((AR.c pin) : List Cl).getD j_ default) 0 0)], .val [] (tB (Hk (xs.getD v8.toNat default) pin)))
def E3 (xs : (List AD)) (pin : AR) : Nat -> Int -> Int
 | 0, _ => default
 | n0 + 1, v8 => bif decide ((v8 : Int) < (xs.length : Int)) then (bif Hk (xs.getD v8.toNat default) pin then v8 else ((E3 xs pin n0) (v8 + 1))) else (-1)
def DN (xs : (List AD)) (pin : AR) : Int := E3 xs pin (((xs.length : Int) - 0).toNat + 1) 0
theorem pixPl  (xs : (List AD)) (pin : AR) (hx : (xs.length : Int) <= 9223372036854775807) : Bo Try.prog 29 [.one (lst 7 AD.c xs), .one (.clo 30 1 (BE [.eptr 2 1 (gD (AR.c pin)) 0 0]))] (tO (.i (DN xs pin))) := by
 refine AX Try.func29 rfl kr kr fun W0 M0 => ?_
 refine AC <| rn ⟨[(0, tO (lst 7 AD.c xs)), (1, .av (.one (.clo 30 1 (BE [.eptr 2 1 (gD (AR.c pin)) 0 0]))))], []⟩ ?_
 refine AC <| AC ?_
 refine rn ⟨[(0, tO (lst 7 AD.c xs)), (1, .av (.one (.clo 30 1 (BE [.eptr 2 1 (gD (AR.c pin)) 0 0])))), (7, tI (xs.length : Int)), (8, tI 0)], []⟩ <| Af ?_
 refine BL (ι := Nat × Int) (fun x => ⟨[(0, tO (lst 7 AD.c xs)), (1, .av (.one (.clo 30 1 (BE [.eptr 2 1 (gD (AR.c pin)) 0 0])))), (7, tI (xs.length : Int)), (8, tI x.2)], []⟩) (fun x => ((xs.length : Int) - x.2).toNat < x.1 /\ (0 <= x.2 /\ (x.2 <= (xs.length : Int) \/ x.2 = 0)) /\ E3 xs pin x.1 x.2 = DN xs pin) (fun x => x.1) ?_ (((xs.length : Int) - 0).toNat + 1, 0) ⟨Nat.lt_succ_self _, ⟨ax0, ax0⟩, (by simp only [DN, cond_true, cond_false])⟩
 rintro ⟨n0, v8⟩ ⟨hn, hinv, hF⟩
 have hm0 := hn; have hinv0 := hinv; have hF0 := hF; try dsimp only at hm0 hinv0 hF0
 clear hn hinv hF
 cases n0 with
 | zero => exact absurd hm0 (Nat.not_lt_zero _)
 | succ n0 =>
  refine AC <| rn ⟨[(0, tO (lst 7 AD.c xs)), (1, .av (.one (.clo 30 1 (BE [.eptr 2 1 (gD (AR.c pin)) 0 0])))), (7, tI (xs.length : Int)), (8, tI v8), (9, tB (decide ((v8 : Int) < (xs.length : Int))))], []⟩ <| AC ?_
  refine Ae _ rfl (fun h1 => ?_) (fun h1 => ?_)
  ·have g1 := oT h1
   refine Ak <| AJ ?_
   refine AC <| Af <| AC ?_
   refine rn ⟨[(0, tO (lst 7 AD.c xs)), (1, .av (.one (.clo 30 1 (BE [.eptr 2 1 (gD (AR.c pin)) 0 0])))), (5, tI v8), (7, tI (xs.length : Int)), (8, tI v8)], []⟩ <| AC ?_
   refine rc [(16, (Z0g xs v8 pin))] [0 <= (v8 : Int) /\ (v8 : Int) < ((xs.length : Nat) : Int), Al (Z0g xs v8 pin).2.1] ⟨[(0, tO (lst 7 AD.c xs)), (1, .av (.one (.clo 30 1 (BE [.eptr 2 1 (gD (AR.c pin)) 0 0])))), (5, tI v8), (7, tI (xs.length : Int)), (8, tI v8), (16, tB (Hk (xs.getD v8.toNat default) pin))], []⟩ (.cons (Aa (fun _ _ => kr) fun _ => pisPl (xs.getD v8.toNat default) pin) .nil) (.cons au0 (.cons rfl .nil)) <| AJ ?_
   refine Ae _ rfl (fun h2 => ?_) (fun h2 => ?_)
   ·refine AC <| rn ⟨[(4, tI v8)], []⟩ ?_
    refine Aj <| CD ?_
    refine BO <| BO ?_
    refine CD <| BO ?_
    exact ⟨_, Cv.refl _, .inl rfl, tO (.i v8), by kernel_rfl, Ao (by rw [<- hF0]; first | (simp only [E3, h1, h2, cond_true, cond_false] <;> rfl))⟩
   ·refine Ak <| Bq <| AJ ?_
    refine rg ⟨[(0, tO (lst 7 AD.c xs)), (1, .av (.one (.clo 30 1 (BE [.eptr 2 1 (gD (AR.c pin)) 0 0])))), (7, tI (xs.length : Int)), (8, tI (W64 (v8 + 1)))], []⟩ ?_
    (try rw [(show W64 (v8 + 1) = v8 + 1 from BP (by omega) au9)])
    refine AJ ?_
    refine ⟨(n0, v8 + 1), ⟨?_, ?_, (by rw [<- hF0]; simp only [E3, h1, h2, cond_true, cond_false])⟩, Nat.lt_succ_self _, A6 kr⟩
    ·show ((xs.length : Int) - (v8 + 1)).toNat < n0; omega
    ·exact ⟨ax0, ax0⟩
  ·have g1 := oF h1
   refine BZ <| BI ?_
   refine BI <| Ba ?_
   refine AJ <| AC ?_
   refine rn ⟨[(4, tI (-1))], []⟩ <| Aj ?_
   exact ⟨_, Cv.refl _, .inl rfl, tO (.i (-1)), by kernel_rfl, Ao (by rw [<- hF0]; first | (simp only [E3, h1, cond_true, cond_false] <;> rfl))⟩
theorem Kj (xs : List AG) (c : ByteArray) : A7 xs c = ixI (fun x => E5 x c) xs := by
 unfold A7
 have h := Pq (fun x => E5 x c) xs (E2 xs c) (fun m v => by rw [E2, Int.toNat_natCast]) xs.length 0 (((xs.length : Int) - 0).toNat + 1) rfl (Nat.zero_le _) (by omega)
 rw [List.drop_zero] at h
 refine h.trans ?_
 unfold ixI
 cases xs.findIdx? (fun x => E5 x c) with
 | none => rfl
 | some i => simp
theorem Ux {xs : List AG} {c : ByteArray} (h : ¬ A7 xs c < 0) : 0 <= A7 xs c /\ A7 xs c < (xs.length : Int) := by
 rw [Kj] at *
 exact Pr h
theorem N5 (xs : List Ap) (c : ByteArray) : EW xs c = ixI (fun x => Hl x c) xs := by
 unfold EW
 have h := Pq (fun x => Hl x c) xs (E4 xs c) (fun m v => by rw [E4, Int.toNat_natCast]) xs.length 0 (((xs.length : Int) - 0).toNat + 1) rfl (Nat.zero_le _) (by omega)
 rw [List.drop_zero] at h
 refine h.trans ?_
 unfold ixI
 cases xs.findIdx? (fun x => Hl x c) with
 | none => rfl
 | some i => simp
theorem Uz {xs : List Ap} {c : ByteArray} (h : ¬ EW xs c < 0) : 0 <= EW xs c /\ EW xs c < (xs.length : Int) := by
 rw [N5] at *
 exact Pr h
theorem N4 (xs : List AD) (c : AR) : DN xs c = ixI (fun x => Hk x c) xs := by
 unfold DN
 have h := Pq (fun x => Hk x c) xs (E3 xs c) (fun m v => by rw [E3, Int.toNat_natCast]) xs.length 0 (((xs.length : Int) - 0).toNat + 1) rfl (Nat.zero_le _) (by omega)
 rw [List.drop_zero] at h
 refine h.trans ?_
 unfold ixI
 cases xs.findIdx? (fun x => Hk x c) with
 | none => rfl
 | some i => simp
theorem Uy {xs : List AD} {c : AR} (h : ¬ DN xs c < 0) : 0 <= DN xs c /\ DN xs c < (xs.length : Int) := by
 rw [N4] at *
 exact Pr h
def Z0h (types : (List AG)) (name : ByteArray) (v49 : Int) : As := (types.getD (A7 types name).toNat default).Gates.getD v49.toNat default
def Z0i (types : (List AG)) (name : ByteArray) (v26 : Int) : Ap := (types.getD (A7 types name).toNat default).Pads.getD v26.toNat default
def Gg (types : (List AG)) (name : ByteArray) (v7_1 : List Ap) (v26 : Int) (K0 : List Ap -> Int -> (AG × Bool)) : Nat -> List As -> Int -> (AG × Bool)
 | 0, _, _ => default
 | n1 + 1, v7_2, v49 => bif decide ((v49 : Int) < ((types.getD (A7 types name).toNat default).Gates.length : Int)) then ((Gg types name v7_1 v26 K0 n1) (v7_2 ++ [As.mk (Z0h types name v49).Kind (CU (Z0h types name v49).Legs)]) (v49 + 1)) else (AG.mk name v7_1 v7_2, true)
def Et (types : (List AG)) (name : ByteArray) : Nat -> List Ap -> Int -> (AG × Bool)
 | 0, _, _ => default
 | n0 + 1, v7_1, v26 => bif decide ((v26 : Int) < ((types.getD (A7 types name).toNat default).Pads.length : Int)) then ((Et types name n0) (v7_1 ++ [Ap.mk (Z0i types name v26).Name (AQ.mk (Z0i types name v26).Shape.Kind (Z0i types name v26).Shape.Edges (Z0i types name v26).Shape.R) (Z0i types name v26).At (Z0i types name v26).Drill]) (v26 + 1)) else (Gg types name v7_1 v26 (Et types name n0) ((((types.getD (A7 types name).toNat default).Gates.length : Int) - 0).toNat + 1) ([] : List As) 0)
def B8 (types : (List AG)) (name : ByteArray) : (AG × Bool) := bif decide (((A7 types name) : Int) < 0) then (AG.mk (⟨#[]⟩) [] [], false) else (Et types name ((((types.getD (A7 types name).toNat default).Pads.length : Int) - 0).toNat + 1) ([] : List Ap) 0)
def Nx (types : (List AG)) (name : ByteArray) : FuncId × List Av × Ef := (31, [.one (lst 3 AG.c types), .one (.s name)], .val [] (.tup [.agg (AG.c (B8 types name).1), .one (.b (B8 types name).2)]))
theorem au13 {p : Prop} (h : p := by first | (exact J5 (hta _) _) | (exact LS (hta _) _) | with_reducible assumption | omega | decide | (simp only [List.length_cons, List.length_nil, List.length_append]; omega) | assumption) : p := h
theorem au20 {p : Prop} (h : p := by first | exact Ux (by assumption) | omega) : p := h
theorem pGet (types : (List AG)) (name : ByteArray) (ht : B1 types) : Bo Try.prog 31 (Nx types name).2.1 (.tup [.agg (AG.c (B8 types name).1), .one (.b (B8 types name).2)]) := by
 refine AX Try.func31 rfl kr kr fun W0 M0 => ?_
 have ht1 := ht.1
 have hta := N9 ht
 have htp := (hta (A7 types name).toNat).1
 have htg := (hta (A7 types name).toNat).2.1
 refine AC <| rn ⟨[(0, tO (lst 3 AG.c types)), (3, tP 3 0), (4, tP 4 0)], [(3, .cells [.s name] 9), (4, .cells [.s (⟨#[]⟩), vN, vN] 114)]⟩ <| AC ?_
 refine rc [(14, (59, [.one (lst 3 AG.c types), .one (.clo 60 1 (BE [.ptr 3 0]))], rdI [3] [.cells [.s name] 9] (tI (A7 types name))))] [Al [.one (lst 3 AG.c types), .one (.clo 60 1 (BE [.ptr 3 0]))], Me [.cells [.s name] 9]] ⟨[(0, tO (lst 3 AG.c types)), (3, tP 3 0), (4, tP 4 0), (6, tI (A7 types name))], [(3, .cells [.s name] 9), (4, .cells [.s (⟨#[]⟩), vN, vN] 114)]⟩ (.cons (I1 (fun _ _ => kr) kr kr (Lw (pixTy types name au13) (.cons (AvE.refl _) (.cons (.one (.clo 60 1 _ _ (GQ kr))) .nil)))) .nil) (.cons rfl (.cons rfl .nil)) <| AJ ?_
 refine AC <| AC ?_
 refine rn ⟨[(0, tO (lst 3 AG.c types)), (3, tP 3 0), (4, tP 4 0), (6, tI (A7 types name)), (16, tB (decide (((A7 types name) : Int) < 0)))], [(3, .cells [.s name] 9), (4, .cells [.s (⟨#[]⟩), vN, vN] 114)]⟩ ?_
 refine Ae _ rfl (fun h1 => ?_) (fun h1 => ?_)
 ·have g1 := oT h1
  refine AC <| rn ⟨[(4, tP 4 0), (5, tB false)], [(4, .cells [.s (⟨#[]⟩), vN, vN] 114)]⟩ ?_
  refine Aj <| BO ?_
  exact ⟨_, Cv.refl _, .inl rfl, .tup [.agg [.s (⟨#[]⟩), vN, vN], .one (.b false)], by kernel_rfl, DG (y := .tup [.agg [.s (⟨#[]⟩), lst 7 Ap.c [], lst 2 As.c []], .one (.b false)]) (.tup (.cons (.agg (rr (.cons (A8 7 Ap.c) (.cons (A8 2 As.c) .nil)))) (.cons (AvE.refl _) .nil))) (by first | (simp only [B8, h1, cond_true, cond_false] <;> rfl))⟩
 ·have g1 := oF h1
  refine Ak <| AJ <| AC ?_
  refine rn ⟨[(0, tO (lst 3 AG.c types)), (4, tP 4 0), (6, tI (A7 types name)), (7, tP 7 0)], [(4, .cells [.s (⟨#[]⟩), vN, vN] 114), (7, .cells [.s name, vN, vN] 114)]⟩ ?_
  refine AC <| AC ?_
  refine rc [] [0 <= (A7 types name : Int) /\ (A7 types name : Int) < ((types.length : Nat) : Int)] ⟨[(0, tO (lst 3 AG.c types)), (4, tP 4 0), (6, tI (A7 types name)), (7, tP 7 0), (24, tO (lst 7 Ap.c (types.getD (A7 types name).toNat default).Pads)), (25, tI ((types.getD (A7 types name).toNat default).Pads.length : Int)), (26, tI 0)], [(4, .cells [.s (⟨#[]⟩), vN, vN] 114), (7, .cells [.s name, vN, vN] 114)]⟩ .nil (.cons au20 .nil) <| AJ <| Af ?_
  refine Bl (Cv.trans (CH (⟨[(0, tO (lst 3 AG.c types)), (4, tP 4 0), (6, tI (A7 types name)), (7, tP 7 0), (24, tO (lst 7 Ap.c (types.getD (A7 types name).toNat default).Pads)), (25, tI ((types.getD (A7 types name).toNat default).Pads.length : Int)), (26, tI 0)], [(100000, .row 7 0 (fun _ _ => default) 118), (4, .cells [.s (⟨#[]⟩), vN, vN] 114), (7, .cells [.s name, .own 100000 7 0, vN] 114)]⟩) 100000 7 (fun _ _ => default) 118 [] [(7, [1])] (K := []) (fun k x h => by cases h) rfl kr kr) (Cv.trans (BR (⟨[(0, tO (lst 3 AG.c types)), (4, tP 4 0), (6, tI (A7 types name)), (7, tP 7 0), (24, tO (lst 7 Ap.c (types.getD (A7 types name).toNat default).Pads)), (25, tI ((types.getD (A7 types name).toNat default).Pads.length : Int)), (26, tI 0)], [(100000, .row 7 ([] : List Ap).length (AY Ap.c ([] : List Ap)) 118), (4, .cells [.s (⟨#[]⟩), vN, vN] 114), (7, .cells [.s name, .own 100000 7 ([] : List Ap).length, vN] 114)]⟩) lr (.cons ⟨rfl, Aw 118 (CF 7 (fun _ _ => default) Ap.c)⟩ (.cons ⟨rfl, .refl _⟩ (.cons ⟨rfl, .cells _ (rr (.cons (.own _ _ au2) (rr .nil)))⟩ .nil)))) (Cv.trans (BA [0, 4, 6, 7, 24, 25, 26] [4, 7, 100000] (⟨[(0, tO (lst 3 AG.c types)), (4, tP 4 0), (6, tI (A7 types name)), (7, tP 7 0), (24, tO (lst 7 Ap.c (types.getD (A7 types name).toNat default).Pads)), (25, tI ((types.getD (A7 types name).toNat default).Pads.length : Int)), (26, tI 0)], [(4, .cells [.s (⟨#[]⟩), vN, vN] 114), (7, .cells [.s name, .own 100000 7 ([] : List Ap).length, vN] 114), (100000, .row 7 ([] : List Ap).length (AY Ap.c ([] : List Ap)) 118)]⟩) kr) (Cv.refl _)))) ?_
  refine BL (ι := Nat × List Ap × Int) (fun x => ⟨[(0, tO (lst 3 AG.c types)), (4, tP 4 0), (6, tI (A7 types name)), (7, tP 7 0), (24, tO (lst 7 Ap.c (types.getD (A7 types name).toNat default).Pads)), (25, tI ((types.getD (A7 types name).toNat default).Pads.length : Int)), (26, tI x.2.2)], [(4, .cells [.s (⟨#[]⟩), vN, vN] 114), (7, .cells [.s name, .own 100000 7 x.2.1.length, vN] 114), (100000, .row 7 x.2.1.length (AY Ap.c x.2.1) 118)]⟩) (fun x => (((types.getD (A7 types name).toNat default).Pads.length : Int) - x.2.2).toNat < x.1 /\ (0 <= x.2.2 /\ (x.2.2 <= ((types.getD (A7 types name).toNat default).Pads.length : Int) \/ x.2.2 = 0) /\ (x.2.1.length : Int) <= 0 + 1 * (x.2.2 - 0)) /\ Et types name x.1 x.2.1 x.2.2 = B8 types name) (fun x => x.1) ?_ ((((types.getD (A7 types name).toNat default).Pads.length : Int) - 0).toNat + 1, ([] : List Ap), 0) ⟨Nat.lt_succ_self _, ⟨ax0, ax0, ax0⟩, (by simp only [B8, h1, cond_true, cond_false])⟩
  rintro ⟨n0, v7_1, v26⟩ ⟨hn, hinv, hF⟩
  have hm0 := hn; have hinv0 := hinv; have hF0 := hF; try dsimp only at hm0 hinv0 hF0
  clear hn hinv hF
  cases n0 with
  | zero => exact absurd hm0 (Nat.not_lt_zero _)
  | succ n0 =>
   refine AC <| rn ⟨[(0, tO (lst 3 AG.c types)), (4, tP 4 0), (6, tI (A7 types name)), (7, tP 7 0), (24, tO (lst 7 Ap.c (types.getD (A7 types name).toNat default).Pads)), (25, tI ((types.getD (A7 types name).toNat default).Pads.length : Int)), (26, tI v26), (27, tB (decide ((v26 : Int) < ((types.getD (A7 types name).toNat default).Pads.length : Int))))], [(4, .cells [.s (⟨#[]⟩), vN, vN] 114), (7, .cells [.s name, .own 100000 7 v7_1.length, vN] 114), (100000, .row 7 v7_1.length (AY Ap.c v7_1) 118)]⟩ <| AC ?_
   refine Ae _ rfl (fun h2 => ?_) (fun h2 => ?_)
   ·have g2 := oT h2
    refine Ak <| AJ ?_
    refine AC <| Af <| AC ?_
    refine rc [] [0 <= (v26 : Int) /\ (v26 : Int) < (((types.getD (A7 types name).toNat default).Pads.length : Nat) : Int)] ⟨[(0, tO (lst 3 AG.c types)), (4, tP 4 0), (6, tI (A7 types name)), (7, tP 7 0), (9, tP 9 0), (24, tO (lst 7 Ap.c (types.getD (A7 types name).toNat default).Pads)), (25, tI ((types.getD (A7 types name).toNat default).Pads.length : Int)), (26, tI v26)], [(4, .cells [.s (⟨#[]⟩), vN, vN] 114), (7, .cells [.s name, .own 100000 7 v7_1.length, vN] 114), (9, .cells (Ap.c (Z0i types name v26)) 118), (100000, .row 7 v7_1.length (AY Ap.c v7_1) 118)]⟩ .nil (.cons au20 .nil) <| AJ <| AC ?_
    refine rc [(33, FF (Z0i types name v26).Shape.Edges)] [Al (FF (Z0i types name v26).Shape.Edges).2.1] ⟨[(0, tO (lst 3 AG.c types)), (4, tP 4 0), (6, tI (A7 types name)), (7, tP 7 0), (9, tP 9 0), (24, tO (lst 7 Ap.c (types.getD (A7 types name).toNat default).Pads)), (25, tI ((types.getD (A7 types name).toNat default).Pads.length : Int)), (26, tI v26)], [(4, .cells [.s (⟨#[]⟩), vN, vN] 114), (7, .cells [.s name, .own 100000 7 v7_1.length, vN] 114), (9, .cells [.s (Z0i types name v26).Name, .i (Z0i types name v26).Shape.Kind, .own 33 7 (Z0i types name v26).Shape.Edges.length, .i (Z0i types name v26).Shape.R, .i (Z0i types name v26).At.X, .i (Z0i types name v26).At.Y, .i (Z0i types name v26).Drill] 118), (33, .row 7 (Z0i types name v26).Shape.Edges.length (AY AH.c (Z0i types name v26).Shape.Edges) 133), (100000, .row 7 v7_1.length (AY Ap.c v7_1) 118)]⟩ (.cons (J7 (Z0i types name v26).Shape.Edges au13) .nil) (.cons rfl .nil) <| AJ ?_
    refine Bl (Cv.trans (Cu (⟨[(0, tO (lst 3 AG.c types)), (4, tP 4 0), (6, tI (A7 types name)), (7, tP 7 0), (9, tP 9 0), (24, tO (lst 7 Ap.c (types.getD (A7 types name).toNat default).Pads)), (25, tI ((types.getD (A7 types name).toNat default).Pads.length : Int)), (26, tI v26)], [(4, .cells [.s (⟨#[]⟩), vN, vN] 114), (7, .cells [.s name, .own 100000 7 v7_1.length, vN] 114), (9, .cells [.s (Z0i types name v26).Name, .i (Z0i types name v26).Shape.Kind, lst 7 AH.c (Z0i types name v26).Shape.Edges, .i (Z0i types name v26).Shape.R, .i (Z0i types name v26).At.X, .i (Z0i types name v26).At.Y, .i (Z0i types name v26).Drill] 118), (100000, .row 7 v7_1.length (AY Ap.c v7_1) 118)]⟩) 33 7 (Z0i types name v26).Shape.Edges.length (AY AH.c (Z0i types name v26).Shape.Edges) 133 (K := []) (fun k x h => by cases h) kr kr (.cons ⟨rfl, rfl⟩ .nil) kr) (Cv.refl _)) ?_
    refine rc [] [v7_1.length = v7_1.length, v7_1.length + 1 <= maxLen, (v7_1.length + 1) * 80 <= 140737488355328] ⟨[(0, tO (lst 3 AG.c types)), (4, tP 4 0), (6, tI (A7 types name)), (7, tP 7 0), (24, tO (lst 7 Ap.c (types.getD (A7 types name).toNat default).Pads)), (25, tI ((types.getD (A7 types name).toNat default).Pads.length : Int)), (26, tI v26)], [(4, .cells [.s (⟨#[]⟩), vN, vN] 114), (7, .cells [.s name, .own 40 7 (v7_1.length + 1), vN] 114), (40, .row 7 (v7_1.length + 1) (fun i_ j_ => if i_ < v7_1.length then (AY Ap.c v7_1) i_ j_ else (A0 7 1 [.s (Z0i types name v26).Name, .i (Z0i types name v26).Shape.Kind, lst 7 AH.c (Z0i types name v26).Shape.Edges, .i (Z0i types name v26).Shape.R, .i (Z0i types name v26).At.X, .i (Z0i types name v26).At.Y, .i (Z0i types name v26).Drill]) (i_ - v7_1.length) j_) 118)]⟩ .nil (.cons rfl (.cons au3 (.cons au3 .nil))) <| Bq <| AJ ?_
    refine Bl (Cv.trans (BR (⟨[(0, tO (lst 3 AG.c types)), (4, tP 4 0), (6, tI (A7 types name)), (7, tP 7 0), (24, tO (lst 7 Ap.c (types.getD (A7 types name).toNat default).Pads)), (25, tI ((types.getD (A7 types name).toNat default).Pads.length : Int)), (26, tI v26)], [(4, .cells [.s (⟨#[]⟩), vN, vN] 114), (7, .cells [.s name, .own 40 7 (v7_1 ++ [Ap.mk (Z0i types name v26).Name (AQ.mk (Z0i types name v26).Shape.Kind (Z0i types name v26).Shape.Edges (Z0i types name v26).Shape.R) (Z0i types name v26).At (Z0i types name v26).Drill]).length, vN] 114), (40, .row 7 (v7_1 ++ [Ap.mk (Z0i types name v26).Name (AQ.mk (Z0i types name v26).Shape.Kind (Z0i types name v26).Shape.Edges (Z0i types name v26).Shape.R) (Z0i types name v26).At (Z0i types name v26).Drill]).length (AY Ap.c (v7_1 ++ [Ap.mk (Z0i types name v26).Name (AQ.mk (Z0i types name v26).Shape.Kind (Z0i types name v26).Shape.Edges (Z0i types name v26).Shape.R) (Z0i types name v26).At (Z0i types name v26).Drill])) 118)]⟩) lr (.cons ⟨rfl, .refl _⟩ (.cons ⟨rfl, .cells _ (rr (.cons (.own _ _ au2) (rr .nil)))⟩ (.cons ⟨rfl, Aw 118 (BV (BK 7 Ap.c v7_1) (A2 (c := Ap.c) (xs := ([Ap.mk (Z0i types name v26).Name (AQ.mk (Z0i types name v26).Shape.Kind (Z0i types name v26).Shape.Edges (Z0i types name v26).Shape.R) (Z0i types name v26).At (Z0i types name v26).Drill] : List Ap)) rfl kr))⟩ .nil)))) (Cv.refl _)) ?_
    refine rg ⟨[(0, tO (lst 3 AG.c types)), (4, tP 4 0), (6, tI (A7 types name)), (7, tP 7 0), (24, tO (lst 7 Ap.c (types.getD (A7 types name).toNat default).Pads)), (25, tI ((types.getD (A7 types name).toNat default).Pads.length : Int)), (26, tI (W64 (v26 + 1)))], [(4, .cells [.s (⟨#[]⟩), vN, vN] 114), (7, .cells [.s name, .own 40 7 (v7_1 ++ [Ap.mk (Z0i types name v26).Name (AQ.mk (Z0i types name v26).Shape.Kind (Z0i types name v26).Shape.Edges (Z0i types name v26).Shape.R) (Z0i types name v26).At (Z0i types name v26).Drill]).length, vN] 114), (40, .row 7 (v7_1 ++ [Ap.mk (Z0i types name v26).Name (AQ.mk (Z0i types name v26).Shape.Kind (Z0i types name v26).Shape.Edges (Z0i types name v26).Shape.R) (Z0i types name v26).At (Z0i types name v26).Drill]).length (AY Ap.c (v7_1 ++ [Ap.mk (Z0i types name v26).Name (AQ.mk (Z0i types name v26).Shape.Kind (Z0i types name v26).Shape.Edges (Z0i types name v26).Shape.R) (Z0i types name v26).At (Z0i types name v26).Drill])) 118)]⟩ ?_
    (try rw [(show W64 (v26 + 1) = v26 + 1 from BP (by omega) au9)])
    refine AJ ?_
    refine ⟨(n0, v7_1 ++ [Ap.mk (Z0i types name v26).Name (AQ.mk (Z0i types name v26).Shape.Kind (Z0i types name v26).Shape.Edges (Z0i types name v26).Shape.R) (Z0i types name v26).At (Z0i types name v26).Drill], v26 + 1), ⟨?_, ?_, (by rw [<- hF0]; simp only [Et, h2, cond_true, cond_false])⟩, Nat.lt_succ_self _, Cv.trans (Be (⟨[(0, tO (lst 3 AG.c types)), (4, tP 4 0), (6, tI (A7 types name)), (7, tP 7 0), (24, tO (lst 7 Ap.c (types.getD (A7 types name).toNat default).Pads)), (25, tI ((types.getD (A7 types name).toNat default).Pads.length : Int)), (26, tI (v26 + 1))], [(4, .cells [.s (⟨#[]⟩), vN, vN] 114), (7, .cells [.s name, .own 100000 7 (v7_1 ++ [Ap.mk (Z0i types name v26).Name (AQ.mk (Z0i types name v26).Shape.Kind (Z0i types name v26).Shape.Edges (Z0i types name v26).Shape.R) (Z0i types name v26).At (Z0i types name v26).Drill]).length, vN] 114), (100000, .row 7 (v7_1 ++ [Ap.mk (Z0i types name v26).Name (AQ.mk (Z0i types name v26).Shape.Kind (Z0i types name v26).Shape.Edges (Z0i types name v26).Shape.R) (Z0i types name v26).At (Z0i types name v26).Drill]).length (AY Ap.c (v7_1 ++ [Ap.mk (Z0i types name v26).Name (AQ.mk (Z0i types name v26).Shape.Kind (Z0i types name v26).Shape.Edges (Z0i types name v26).Shape.R) (Z0i types name v26).At (Z0i types name v26).Drill])) 118)]⟩) 40 100000 (K := []) (fun k x h => by cases h) rfl rfl kr kr) (A6 kr)⟩
    ·show (((types.getD (A7 types name).toNat default).Pads.length : Int) - (v26 + 1)).toNat < n0; omega
    ·exact ⟨ax0, ax0, ax0⟩
   ·have g2 := oF h2
    refine BZ <| BI ?_
    refine BI <| Ba ?_
    refine AJ <| AC <| AC ?_
    refine rc [] [0 <= (A7 types name : Int) /\ (A7 types name : Int) < ((types.length : Nat) : Int)] ⟨[(4, tP 4 0), (7, tP 7 0), (47, tO (lst 2 As.c (types.getD (A7 types name).toNat default).Gates)), (48, tI ((types.getD (A7 types name).toNat default).Gates.length : Int)), (49, tI 0)], [(4, .cells [.s (⟨#[]⟩), vN, vN] 114), (7, .cells [.s name, .own 100000 7 v7_1.length, vN] 114), (100000, .row 7 v7_1.length (AY Ap.c v7_1) 118)]⟩ .nil (.cons au20 .nil) <| AJ <| Af ?_
    refine Bl (Cv.trans (CH (⟨[(4, tP 4 0), (7, tP 7 0), (47, tO (lst 2 As.c (types.getD (A7 types name).toNat default).Gates)), (48, tI ((types.getD (A7 types name).toNat default).Gates.length : Int)), (49, tI 0)], [(100001, .row 2 0 (fun _ _ => default) 157), (4, .cells [.s (⟨#[]⟩), vN, vN] 114), (7, .cells [.s name, .own 100000 7 v7_1.length, .own 100001 2 0] 114), (100000, .row 7 v7_1.length (AY Ap.c v7_1) 118)]⟩) 100001 2 (fun _ _ => default) 157 [] [(7, [2])] (K := []) (fun k x h => by cases h) rfl kr kr) (Cv.trans (BR (⟨[(4, tP 4 0), (7, tP 7 0), (47, tO (lst 2 As.c (types.getD (A7 types name).toNat default).Gates)), (48, tI ((types.getD (A7 types name).toNat default).Gates.length : Int)), (49, tI 0)], [(100001, .row 2 ([] : List As).length (AY As.c ([] : List As)) 157), (4, .cells [.s (⟨#[]⟩), vN, vN] 114), (7, .cells [.s name, .own 100000 7 v7_1.length, .own 100001 2 ([] : List As).length] 114), (100000, .row 7 v7_1.length (AY Ap.c v7_1) 118)]⟩) lr (.cons ⟨rfl, Aw 157 (CF 2 (fun _ _ => default) As.c)⟩ (.cons ⟨rfl, .refl _⟩ (.cons ⟨rfl, .cells _ (rr (rr (.cons (.own _ _ au2) .nil)))⟩ lr)))) (Cv.trans (BA [4, 7, 47, 48, 49] [4, 7, 100000, 100001] (⟨[(4, tP 4 0), (7, tP 7 0), (47, tO (lst 2 As.c (types.getD (A7 types name).toNat default).Gates)), (48, tI ((types.getD (A7 types name).toNat default).Gates.length : Int)), (49, tI 0)], [(4, .cells [.s (⟨#[]⟩), vN, vN] 114), (7, .cells [.s name, .own 100000 7 v7_1.length, .own 100001 2 ([] : List As).length] 114), (100000, .row 7 v7_1.length (AY Ap.c v7_1) 118), (100001, .row 2 ([] : List As).length (AY As.c ([] : List As)) 157)]⟩) kr) (Cv.refl _)))) ?_
    refine BL (ι := Nat × List As × Int) (fun x => ⟨[(4, tP 4 0), (7, tP 7 0), (47, tO (lst 2 As.c (types.getD (A7 types name).toNat default).Gates)), (48, tI ((types.getD (A7 types name).toNat default).Gates.length : Int)), (49, tI x.2.2)], [(4, .cells [.s (⟨#[]⟩), vN, vN] 114), (7, .cells [.s name, .own 100000 7 v7_1.length, .own 100001 2 x.2.1.length] 114), (100000, .row 7 v7_1.length (AY Ap.c v7_1) 118), (100001, .row 2 x.2.1.length (AY As.c x.2.1) 157)]⟩) (fun x => (((types.getD (A7 types name).toNat default).Gates.length : Int) - x.2.2).toNat < x.1 /\ (0 <= x.2.2 /\ (x.2.2 <= ((types.getD (A7 types name).toNat default).Gates.length : Int) \/ x.2.2 = 0) /\ (x.2.1.length : Int) <= 0 + 1 * (x.2.2 - 0)) /\ Gg types name v7_1 v26 (Et types name n0) x.1 x.2.1 x.2.2 = B8 types name) (fun x => x.1) ?_ ((((types.getD (A7 types name).toNat default).Gates.length : Int) - 0).toNat + 1, ([] : List As), 0) ⟨Nat.lt_succ_self _, ⟨ax0, ax0, ax0⟩, (by rw [<- hF0]; simp only [Et, h2, cond_true, cond_false])⟩
    rintro ⟨n1, v7_2, v49⟩ ⟨hn, hinv, hF⟩
    have hm1 := hn; have hinv1 := hinv; have hF1 := hF; try dsimp only at hm1 hinv1 hF1
    clear hn hinv hF
    cases n1 with
    | zero => exact absurd hm1 (Nat.not_lt_zero _)
    | succ n1 =>
     refine AC <| rn ⟨[(4, tP 4 0), (7, tP 7 0), (47, tO (lst 2 As.c (types.getD (A7 types name).toNat default).Gates)), (48, tI ((types.getD (A7 types name).toNat default).Gates.length : Int)), (49, tI v49), (50, tB (decide ((v49 : Int) < ((types.getD (A7 types name).toNat default).Gates.length : Int))))], [(4, .cells [.s (⟨#[]⟩), vN, vN] 114), (7, .cells [.s name, .own 100000 7 v7_1.length, .own 100001 2 v7_2.length] 114), (100000, .row 7 v7_1.length (AY Ap.c v7_1) 118), (100001, .row 2 v7_2.length (AY As.c v7_2) 157)]⟩ <| AC ?_
     refine Ae _ rfl (fun h3 => ?_) (fun h3 => ?_)
     ·have g3 := oT h3
      refine Ak <| AJ ?_
      refine AC <| Af <| AC ?_
      refine rc [] [0 <= (v49 : Int) /\ (v49 : Int) < (((types.getD (A7 types name).toNat default).Gates.length : Nat) : Int)] ⟨[(4, tP 4 0), (7, tP 7 0), (11, tP 11 0), (47, tO (lst 2 As.c (types.getD (A7 types name).toNat default).Gates)), (48, tI ((types.getD (A7 types name).toNat default).Gates.length : Int)), (49, tI v49)], [(4, .cells [.s (⟨#[]⟩), vN, vN] 114), (7, .cells [.s name, .own 100000 7 v7_1.length, .own 100001 2 v7_2.length] 114), (11, .cells (As.c (Z0h types name v49)) 157), (100000, .row 7 v7_1.length (AY Ap.c v7_1) 118), (100001, .row 2 v7_2.length (AY As.c v7_2) 157)]⟩ .nil (.cons au20 .nil) <| AJ ?_
      refine dw [] [(59, Gx (Z0h types name v49).Legs)] [Al (Gx (Z0h types name v49).Legs).2.1, v7_2.length = v7_2.length, v7_2.length + 1 <= maxLen, (v7_2.length + 1) * 32 <= 140737488355328] ⟨[(4, tP 4 0), (7, tP 7 0), (47, tO (lst 2 As.c (types.getD (A7 types name).toNat default).Gates)), (48, tI ((types.getD (A7 types name).toNat default).Gates.length : Int)), (49, tI v49)], [(4, .cells [.s (⟨#[]⟩), vN, vN] 114), (7, .cells [.s name, .own 100000 7 v7_1.length, .own 62 2 (v7_2.length + 1)] 114), (62, .row 2 (v7_2.length + 1) (fun i_ j_ => if i_ < v7_2.length then (AY As.c v7_2) i_ j_ else (A0 2 1 [.i (Z0h types name v49).Kind, lst 2 BT.c (CU (Z0h types name v49).Legs)]) (i_ - v7_2.length) j_) 157), (100000, .row 7 v7_1.length (AY Ap.c v7_1) 118)]⟩ (.cons (QV (Z0h types name v49).Legs (by first | assumption | exact LS (hta _) _ | exact J5 (hta _) _ | omega)) .nil) (.cons rfl (.cons rfl (.cons au3 (.cons au3 .nil)))) <| Bq <| AJ ?_
      refine Bl (Cv.trans (BR (⟨[(4, tP 4 0), (7, tP 7 0), (47, tO (lst 2 As.c (types.getD (A7 types name).toNat default).Gates)), (48, tI ((types.getD (A7 types name).toNat default).Gates.length : Int)), (49, tI v49)], [(4, .cells [.s (⟨#[]⟩), vN, vN] 114), (7, .cells [.s name, .own 100000 7 v7_1.length, .own 62 2 (v7_2 ++ [As.mk (Z0h types name v49).Kind (CU (Z0h types name v49).Legs)]).length] 114), (62, .row 2 (v7_2 ++ [As.mk (Z0h types name v49).Kind (CU (Z0h types name v49).Legs)]).length (AY As.c (v7_2 ++ [As.mk (Z0h types name v49).Kind (CU (Z0h types name v49).Legs)])) 157), (100000, .row 7 v7_1.length (AY Ap.c v7_1) 118)]⟩) lr (.cons ⟨rfl, .refl _⟩ (.cons ⟨rfl, .cells _ (rr (rr (.cons (.own _ _ au2) .nil)))⟩ (.cons ⟨rfl, Aw 157 (BV (BK 2 As.c v7_2) (A2 (c := As.c) (xs := ([As.mk (Z0h types name v49).Kind (CU (Z0h types name v49).Legs)] : List As)) rfl kr))⟩ lr)))) (Cv.refl _)) ?_
      refine rg ⟨[(4, tP 4 0), (7, tP 7 0), (47, tO (lst 2 As.c (types.getD (A7 types name).toNat default).Gates)), (48, tI ((types.getD (A7 types name).toNat default).Gates.length : Int)), (49, tI (W64 (v49 + 1)))], [(4, .cells [.s (⟨#[]⟩), vN, vN] 114), (7, .cells [.s name, .own 100000 7 v7_1.length, .own 62 2 (v7_2 ++ [As.mk (Z0h types name v49).Kind (CU (Z0h types name v49).Legs)]).length] 114), (62, .row 2 (v7_2 ++ [As.mk (Z0h types name v49).Kind (CU (Z0h types name v49).Legs)]).length (AY As.c (v7_2 ++ [As.mk (Z0h types name v49).Kind (CU (Z0h types name v49).Legs)])) 157), (100000, .row 7 v7_1.length (AY Ap.c v7_1) 118)]⟩ ?_
      (try rw [(show W64 (v49 + 1) = v49 + 1 from BP (by omega) au9)])
      refine AJ ?_
      refine ⟨(n1, v7_2 ++ [As.mk (Z0h types name v49).Kind (CU (Z0h types name v49).Legs)], v49 + 1), ⟨?_, ?_, (by rw [<- hF1]; simp only [Gg, h3, cond_true, cond_false])⟩, Nat.lt_succ_self _, Cv.trans (Be (⟨[(4, tP 4 0), (7, tP 7 0), (47, tO (lst 2 As.c (types.getD (A7 types name).toNat default).Gates)), (48, tI ((types.getD (A7 types name).toNat default).Gates.length : Int)), (49, tI (v49 + 1))], [(4, .cells [.s (⟨#[]⟩), vN, vN] 114), (7, .cells [.s name, .own 100000 7 v7_1.length, .own 100001 2 (v7_2 ++ [As.mk (Z0h types name v49).Kind (CU (Z0h types name v49).Legs)]).length] 114), (100001, .row 2 (v7_2 ++ [As.mk (Z0h types name v49).Kind (CU (Z0h types name v49).Legs)]).length (AY As.c (v7_2 ++ [As.mk (Z0h types name v49).Kind (CU (Z0h types name v49).Legs)])) 157), (100000, .row 7 v7_1.length (AY Ap.c v7_1) 118)]⟩) 62 100001 (K := []) (fun k x h => by cases h) rfl rfl kr kr) (Cv.trans (BA [4, 7, 47, 48, 49] [4, 7, 100000, 100001] (⟨[(4, tP 4 0), (7, tP 7 0), (47, tO (lst 2 As.c (types.getD (A7 types name).toNat default).Gates)), (48, tI ((types.getD (A7 types name).toNat default).Gates.length : Int)), (49, tI (v49 + 1))], [(4, .cells [.s (⟨#[]⟩), vN, vN] 114), (7, .cells [.s name, .own 100000 7 v7_1.length, .own 100001 2 (v7_2 ++ [As.mk (Z0h types name v49).Kind (CU (Z0h types name v49).Legs)]).length] 114), (100000, .row 7 v7_1.length (AY Ap.c v7_1) 118), (100001, .row 2 (v7_2 ++ [As.mk (Z0h types name v49).Kind (CU (Z0h types name v49).Legs)]).length (AY As.c (v7_2 ++ [As.mk (Z0h types name v49).Kind (CU (Z0h types name v49).Legs)])) 157)]⟩) kr) (A6 kr))⟩
      ·show (((types.getD (A7 types name).toNat default).Gates.length : Int) - (v49 + 1)).toNat < n1; omega
      ·exact ⟨ax0, ax0, ax0⟩
     ·have g3 := oF h3
      refine BZ <| BI ?_
      refine BI <| Ba ?_
      refine AJ <| AC ?_
      refine rn ⟨[(4, tP 4 0), (5, tB true)], [(4, .cells [.s name, .own 100000 7 v7_1.length, .own 100001 2 v7_2.length] 114), (100000, .row 7 v7_1.length (AY Ap.c v7_1) 118), (100001, .row 2 v7_2.length (AY As.c v7_2) 157)]⟩ <| Aj ?_
      exact ⟨_, Cv.trans (Cu (⟨[(4, tP 4 0), (5, tB true)], [(4, .cells [.s name, lst 7 Ap.c v7_1, .own 100001 2 v7_2.length] 114), (100001, .row 2 v7_2.length (AY As.c v7_2) 157)]⟩) 100000 7 v7_1.length (AY Ap.c v7_1) 118 (K := []) (fun k x h => by cases h) kr kr (.cons ⟨rfl, rfl⟩ .nil) kr) (Cv.trans (Cu (⟨[(4, tP 4 0), (5, tB true)], [(4, .cells [.s name, lst 7 Ap.c v7_1, lst 2 As.c v7_2] 114)]⟩) 100001 2 v7_2.length (AY As.c v7_2) 157 (K := []) (fun k x h => by cases h) kr kr (.cons ⟨rfl, rfl⟩ .nil) kr) (Cv.refl _)), .inl rfl, .tup [.agg [.s name, lst 7 Ap.c v7_1, lst 2 As.c v7_2], .one (.b true)], by kernel_rfl, Ao (by rw [<- hF1]; first | (simp only [Gg, h3, cond_true, cond_false] <;> rfl))⟩
theorem T9 (types : (List AG)) (name : ByteArray) (ht : B1 types) : A1 Try.prog (Nx types name).1 (Nx types name).2.1 (Nx types name).2.2 := Aa (fun _ _ => kr) fun _ => pGet types name ht
def MQ (types : List AG) (name : ByteArray) : AG × Bool := match types.find? (fun t => E5 t name) with
 | some t => (⟨name, t.Pads, t.Gates⟩, true)
 | none => (⟨⟨#[]⟩, [], []⟩, false)
theorem Fq (types : List AG) (name : ByteArray) : B8 types name = MQ types name := by
 unfold B8 MQ
 rw [Kj]
 cases hc : decide ((ixI (fun x => E5 x name) types : Int) < 0) with
 | true =>
  rw [Nc (oT hc)]
  rfl
 | false =>
  obtain ⟨_, h2⟩ := Nb (oF hc)
  rw [h2, cond_false]
  have e := Kj types name
  rw [<- e]
  generalize ht : types.getD (A7 types name).toNat default = t
  have h1 := fun (acc0 : List Ap) (v0 : Int) K0 => cp_l t.Gates (Gg types name acc0 v0 K0) (fun acc _ => (AG.mk name acc0 acc, true)) (fun m acc v => by
   rw [Gg]
   unfold Z0h CU
   rw [ht, Int.toNat_natCast]) t.Gates.length 0 ((((t.Gates.length : Int)) - 0).toNat + 1) [] rfl (Nat.zero_le _) (by omega)
  have h0 := cp_l t.Pads (Et types name) (fun acc v => (AG.mk name acc t.Gates, true)) (fun m acc v => by
   rw [Et]
   unfold Z0i
   rw [ht, Int.toNat_natCast]
   have := h1 acc v (Et types name m)
   rw [List.drop_zero, List.nil_append] at this
   cases decide ((v : Int) < (t.Pads.length : Int)) with
   | true => rfl
   | false => exact this) t.Pads.length 0 ((((t.Pads.length : Int)) - 0).toNat + 1) [] rfl (Nat.zero_le _) (by omega)
  rw [List.drop_zero, List.nil_append] at h0
  exact h0
theorem GV {types : List AG} (h : B1 types) (name : ByteArray) : ((MQ types name).1.Pads.length : Int) <= 1000000 := by
 unfold MQ
 cases hf : types.find? (fun t => E5 t name) with
 | none => exact (by decide : ((0 : Nat) : Int) <= 1000000)
 | some t => exact (h.2 t (List.mem_of_find?_eq_some hf)).1
end
end Go.Proofs.Ytdbampcfmjbgmaa
