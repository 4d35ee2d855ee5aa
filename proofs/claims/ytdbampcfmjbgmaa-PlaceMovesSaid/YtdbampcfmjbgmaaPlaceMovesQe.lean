/-
  No statement is proved in this text. It holds a part of what the proof of PlaceMoves needs.
-/
import Derived.Test.YtdbampcfmjbgmaaPlaceMovesQd
namespace Go.Proofs.Ytdbampcfmjbgmaa
set_option maxRecDepth 100000
set_option linter.unusedVariables false
set_option linter.unusedSimpArgs false
open Go.RowKit
section
open Go.RowKit
theorem Rb {b:AH} (d:AE) (hp:1<=(b.Parts.length:Int)) (h0:(b.Parts.length:Int)<=1000000) (h1:(b.Tracks.length:Int)<=1000000) (h2:(b.Vias.length:Int)<=1000000) (h3:(b.Pours.length:Int)<=1000000) (h4:(b.Keeps.length:Int)<=1000000) (h5:(b.Slots.length:Int)<=1000000):0<=(AB d ((D7 b).length:Int)).1/\(AB d ((D7 b).length:Int)).1<((D7 b).length:Int):=by
 have hq:=UM b
 exact IA _ _ _ (by omega) (by omega) (by omega)
theorem cS {b:AH} (hp:1<=(b.Parts.length:Int)):((D7 b).length:Int)≠0:=by
 have hq:=UM b
 omega
theorem Zf {α:Type} {c:Bool} {a b:List α} {k n:Nat} (ha:a.length+k<=n) (hb:b.length+k<=n):(bif c then a else b).length+k<=n:=by cases c <;> assumption
theorem XZ {α:Type} {c:Bool} {a b:List α} {k n m:Nat} (ha:(a.length+k)*m<=n) (hb:(b.length+k)*m<=n):((bif c then a else b).length+k)*m<=n:=by cases c <;> assumption
variable (b:AH) (d:AE)
def Z38:CT:=(54,([.one (.ptr 1000 0),.one (.i 10)]:List Av).map (Bp 1000 1001),wrI 1001 (GK d) (tI (AB d 10).1) (.cells (AE.c (AB d 10).2) 146))
abbrev EI:=AB (AB d 10).2 8
def Z39:CT:=(54,([.one (.ptr 1000 0),.one (.i 8)]:List Av).map (Bp 1000 1001),wrI 1001 (.cells (AE.c (AB d 10).2) 146) (tI (EI d).1) (.cells (AE.c (EI d).2) 146))
def Z3a:Blk:=.cells (AE.c (EI d).2) 146
def Z3b:Blk:=.row 20 ([Aq.mk ({ data := #[99,49] }:ByteArray) 1 1 AK AK (W64 (3+(AB d 10).1)),Aq.mk ({ data := #[101,49] }:ByteArray) 1 3 AK AK (W64 (2+(EI d).1))].length) (AU Aq.c [Aq.mk ({ data := #[99,49] }:ByteArray) 1 1 AK AK (W64 (3+(AB d 10).1)),Aq.mk ({ data := #[101,49] }:ByteArray) 1 3 AK AK (W64 (2+(EI d).1))]) 107
def Z3c:Blk:=.cells (A7 b (CO b [vN,.own 18 20 ([Aq.mk ({ data := #[99,49] }:ByteArray) 1 1 AK AK (W64 (3+(AB d 10).1)),Aq.mk ({ data := #[101,49] }:ByteArray) 1 3 AK AK (W64 (2+(EI d).1))].length),vN,vN])) 42
def Z3d:CT:=(54,(GT:List Av).map (Bp 1000 1001),wrI 1001 (.cells (AE.c (EI d).2) 146) (tI (AB (EI d).2 2).1) (.cells (AE.c (AB (EI d).2 2).2) 146))
abbrev Z3e:AE:=(AB (AB (AB d 10).2 8).2 2).2
def Z3f:CT:=(54,(Iy:List Av).map (Bp 1000 1001),wrI 1001 (.cells (AE.c (Z3e d)) 146) (tI (AB (Z3e d) 5).1) (.cells (AE.c (AB (Z3e d) 5).2) 146))
abbrev Ir:=AB (AB (Z3e d) 5).2 4
def Z3g:CT:=(54,(IZ:List Av).map (Bp 1000 1001),wrI 1001 (.cells (AE.c (AB (Z3e d) 5).2) 146) (tI (Ir d).1) (.cells (AE.c (Ir d).2) 146))
def Z3h:Blk:=.cells (AE.c (Ir d).2) 146
def Z3i:Blk:=.row 20 ([Aq.mk ({ data := #[99,49] }:ByteArray) 1 1 AK AK (W64 (3+(AB d 10).1)),Aq.mk ({ data := #[101,49] }:ByteArray) 1 3 AK AK (W64 (2+(EI d).1))]++[Aq.mk ({ data := #[119,49] }:ByteArray) 1 2 AK AK (W64 (6+(AB (Z3e d) 5).1)),Aq.mk ({ data := #[114,49] }:ByteArray) 1 4 AK AK (W64 (2+(Ir d).1))]).length (AU Aq.c ([Aq.mk ({ data := #[99,49] }:ByteArray) 1 1 AK AK (W64 (3+(AB d 10).1)),Aq.mk ({ data := #[101,49] }:ByteArray) 1 3 AK AK (W64 (2+(EI d).1))]++[Aq.mk ({ data := #[119,49] }:ByteArray) 1 2 AK AK (W64 (6+(AB (Z3e d) 5).1)),Aq.mk ({ data := #[114,49] }:ByteArray) 1 4 AK AK (W64 (2+(Ir d).1))])) 107
def Z3j:Blk:=.cells (A7 b (CO b [vN,.own 100000 20 ([Aq.mk ({ data := #[99,49] }:ByteArray) 1 1 AK AK (W64 (3+(AB d 10).1)),Aq.mk ({ data := #[101,49] }:ByteArray) 1 3 AK AK (W64 (2+(EI d).1))]++[Aq.mk ({ data := #[119,49] }:ByteArray) 1 2 AK AK (W64 (6+(AB (Z3e d) 5).1)),Aq.mk ({ data := #[114,49] }:ByteArray) 1 4 AK AK (W64 (2+(Ir d).1))]).length,vN,vN])) 42
def Z3k:Blk:=.cells (A7 b (CO b [vN,.own 100000 20 ([Aq.mk ({ data := #[99,49] }:ByteArray) 1 1 AK AK (W64 (3+(AB d 10).1)),Aq.mk ({ data := #[101,49] }:ByteArray) 1 3 AK AK (W64 (2+(EI d).1))].length),vN,vN])) 42
abbrev Z3l:AE:=bif decide (((AB (AB (AB d 10).2 8).2 2).1:Int)=1) then (AB (AB (Z3e d) 5).2 4).2 else (Z3e d)
def Z3m:(List Aq):=bif decide (((AB (AB (AB d 10).2 8).2 2).1:Int)=1) then ([Aq.mk ({ data := #[99,49] }:ByteArray) 1 1 AK AK (W64 (3+(AB d 10).1)),Aq.mk ({ data := #[101,49] }:ByteArray) 1 3 AK AK (W64 (2+(AB (AB d 10).2 8).1))]++[Aq.mk ({ data := #[119,49] }:ByteArray) 1 2 AK AK (W64 (6+(AB (Z3e d) 5).1)),Aq.mk ({ data := #[114,49] }:ByteArray) 1 4 AK AK (W64 (2+(AB (AB (Z3e d) 5).2 4).1))]) else [Aq.mk ({ data := #[99,49] }:ByteArray) 1 1 AK AK (W64 (3+(AB d 10).1)),Aq.mk ({ data := #[101,49] }:ByteArray) 1 3 AK AK (W64 (2+(AB (AB d 10).2 8).1))]
def Z3n:CT:=(54,(GT:List Av).map (Bp 1000 1001),wrI 1001 (.cells (AE.c (Z3l d)) 146) (tI (AB (Z3l d) 2).1) (.cells (AE.c (AB (Z3l d) 2).2) 146))
def Z3o:Blk:=.cells (A7 b (CO b [vN,.own 100000 20 (Z3m d).length,vN,vN])) 42
def Z3p:Blk:=.cells (AE.c (AB (Z3l d) 2).2) 146
def Z3q:Blk:=.row 20 (Z3m d).length (AU Aq.c (Z3m d)) 107
abbrev Hi:=AB (AB (Z3l d) 2).2 2
def Z3r:CT:=(54,(GT:List Av).map (Bp 1000 1001),wrI 1001 (.cells (AE.c (AB (Z3l d) 2).2) 146) (tI (Hi d).1) (.cells (AE.c (Hi d).2) 146))
def Z3s:CT:=(85,([.one (.ptr 1000 0)]:List Av).map (Bp 1000 1001),wrI 1001 (.cells (AE.c (Hi d).2) 146) (.av (.agg (BI.c (BF (Hi d).2).1))) (.cells (AE.c (BF (Hi d).2).2) 146))
abbrev Z3t:AE:=(BF (AB (AB (Z3l d) 2).2 2).2).2
def Z3u:BI:=(BF (AB (AB (Z3l d) 2).2 2).2).1
def Z3v:CT:=(85,([.one (.ptr 1000 0)]:List Av).map (Bp 1000 1001),wrI 1001 (.cells (AE.c (Z3t d)) 146) (.av (.agg (BI.c (BF (Z3t d)).1))) (.cells (AE.c (BF (Z3t d)).2) 146))
abbrev KL:=AB (BF (Z3t d)).2 14
def Z3w:CT:=(54,([.one (.ptr 1000 0),.one (.i 14)]:List Av).map (Bp 1000 1001),wrI 1001 (.cells (AE.c (BF (Z3t d)).2) 146) (tI (KL d).1) (.cells (AE.c (KL d).2) 146))
abbrev Z3x:AE:=(AB (BF (Z3t d)).2 14).2
def Z3y:Blk:=.row 20 ((Z3m d)++[Aq.mk ({ data := #[99,50] }:ByteArray) (W64 (1+(Hi d).1)) 1 (Z3u d) (BF (Z3t d)).1 (W64 (1+(KL d).1))]).length (AU Aq.c ((Z3m d)++[Aq.mk ({ data := #[99,50] }:ByteArray) (W64 (1+(Hi d).1)) 1 (Z3u d) (BF (Z3t d)).1 (W64 (1+(KL d).1))])) 107
def Z3z:Blk:=.cells (A7 b (CO b [vN,.own 100001 20 ((Z3m d)++[Aq.mk ({ data := #[99,50] }:ByteArray) (W64 (1+(Hi d).1)) 1 (Z3u d) (BF (Z3t d)).1 (W64 (1+(KL d).1))]).length,vN,vN])) 42
abbrev Z3A:AE:=bif decide (((AB (Z3l d) 2).1:Int)=1) then (Z3x d) else (AB (Z3l d) 2).2
def Z3B:(List Aq):=bif decide (((AB (Z3l d) 2).1:Int)=1) then ((Z3m d)++[Aq.mk ({ data := #[99,50] }:ByteArray) (W64 (1+(AB (AB (Z3l d) 2).2 2).1)) 1 (Z3u d) (BF (Z3t d)).1 (W64 (1+(AB (BF (Z3t d)).2 14).1))]) else (Z3m d)
def Z3C:CT:=(54,(EO:List Av).map (Bp 1000 1001),wrI 1001 (.cells (AE.c (Z3A d)) 146) (tI (AB (Z3A d) 3).1) (.cells (AE.c (AB (Z3A d) 3).2) 146))
def Z3D:Blk:=.cells (A7 b (CO b [vN,.own 100001 20 (Z3B d).length,vN,vN])) 42
def Z3E:Blk:=.cells (AE.c (AB (Z3A d) 3).2) 146
def Z3F:Blk:=.row 20 (Z3B d).length (AU Aq.c (Z3B d)) 107
def Z3G:(List BJ):=bif decide (((AB (Z3A d) 3).1:Int)=0) then [BJ.mk ({ data := #[112,111,119,101,114] }:ByteArray) [({ data := #[71,78,68] }:ByteArray)]] else []
def Z3H:CT:=(54,(IZ:List Av).map (Bp 1000 1001),wrI 1001 (.cells (AE.c (AB (Z3A d) 3).2) 146) (tI (AB (AB (Z3A d) 3).2 4).1) (.cells (AE.c (AB (AB (Z3A d) 3).2 4).2) 146))
abbrev Z3I:AE:=(AB (AB (Z3A d) 3).2 4).2
abbrev Ot (t_:List Cl):List Cl:=(lst 2 BJ.c (Z3G d))::(.own 100001 20 (Z3B d).length)::t_
abbrev Z9:List Cl:=(A7 b (CO b (Ot d [vN,vN])))
def Z3J:Blk:=.cells (Z9 b d) 42
def Z3K:(List Int):=D7 (AH.mk b.Layers (Ah.mk 0 [] 0) b.Parts [] b.Tracks b.Vias b.Pours b.Keeps b.Slots [] [] [] [])
def Z3L:CT:=(54,([.one (.ptr 1000 0),.one (.i ((Z3K b).length:Int))]:List Av).map (Bp 1000 1001),wrI 1001 (.cells (AE.c (Z3I d)) 146) (tI (AB (Z3I d) ((Z3K b).length:Int)).1) (.cells (AE.c (AB (Z3I d) ((Z3K b).length:Int)).2) 146))
abbrev Z3M (d:AE) (b:AH):AE:=(AB (Z3I d) ((Z3K b).length:Int)).2
def Z3N:CT:=(54,([.one (.ptr 1000 0),.one (.i ((Z3K b).length:Int))]:List Av).map (Bp 1000 1001),wrI 1001 (.cells (AE.c (Z3M d b)) 146) (tI (AB (Z3M d b) ((Z3K b).length:Int)).1) (.cells (AE.c (AB (Z3M d b) ((Z3K b).length:Int)).2) 146))
abbrev Z3O (d:AE) (b:AH):AE:=(AB (Z3M d b) ((Z3K b).length:Int)).2
abbrev Z3P (d:AE) (b:AH):AE:=bif decide (((AB (AB (Z3A d) 3).2 4).1:Int)=0) then (Z3O d b) else (Z3I d)
def Z3Q (d:AE) (b:AH):(List Ao):=bif decide (((AB (AB (Z3A d) 3).2 4).1:Int)=0) then [Ao.mk ((Z3K b).getD (AB (Z3I d) ((Z3K b).length:Int)).1.toNat default) ((Z3K b).getD (AB (Z3M d b) ((Z3K b).length:Int)).1.toNat default) ({ data := #[99,49] }:ByteArray)] else []
def Z3R (d:AE) (b:AH):CT:=(54,(IZ:List Av).map (Bp 1000 1001),wrI 1001 (.cells (AE.c (Z3P d b)) 146) (tI (AB (Z3P d b) 4).1) (.cells (AE.c (AB (Z3P d b) 4).2) 146))
def Z3S (d:AE) (b:AH):CT:=(54,([.one (.ptr 1000 0),.one (.i 8)]:List Av).map (Bp 1000 1001),wrI 1001 (.cells (AE.c (AB (Z3P d b) 4).2) 146) (tI (AB (AB (Z3P d b) 4).2 8).1) (.cells (AE.c (AB (AB (Z3P d b) 4).2 8).2) 146))
abbrev Z3T (d:AE) (b:AH):AE:=(AB (AB (Z3P d b) 4).2 8).2
def Cb (b:AH) (d:AE):(AH×AE):=bif decide (((AB (Z3P d b) 4).1:Int)=0) then (AH.mk b.Layers b.Outline b.Parts b.Nets b.Tracks b.Vias b.Pours b.Keeps b.Slots (Z3G d) (Z3B d) (Z3Q d b) [BW.mk ({ data := #[109,49] }:ByteArray) [({ data := #[78,49] }:ByteArray),({ data := #[78,50] }:ByteArray)] (W64 (10*(AB (AB (Z3P d b) 4).2 8).1))],Z3T d b) else (AH.mk b.Layers b.Outline b.Parts b.Nets b.Tracks b.Vias b.Pours b.Keeps b.Slots (Z3G d) (Z3B d) (Z3Q d b) [],(AB (Z3P d b) 4).2)
abbrev O4:Nat×Blk:=(1001,.cells (AE.c (Z3I d)) 146)
abbrev Ou (d:AE) (b:AH) (t_:List Cl):List Cl:=(lst 2 BJ.c (Z3G d))::(lst 20 Aq.c (Z3B d))::(lst 3 Ao.c (Z3Q d b))::t_
theorem au5 {p:Prop} (h:p:=by repeat (first | with_reducible assumption | exact Ca (C6 hll _) | with_reducible refine BR ?_ | with_reducible refine D3 ?_ | with_reducible refine DK ?_ | with_reducible refine VZ ?_  | with_reducible refine Cg ?_ ?_)):p:=h
theorem au6 {p:Prop} (h:p:=by first | decide | omega | exact cS (b:=AH.mk b.Layers (Ah.mk 0 [] 0) b.Parts [] b.Tracks b.Vias b.Pours b.Keeps b.Slots [] [] [] []) hi | (simp only [C9];omega)):p:=h
theorem au20 {p:Prop} (h:p:=by first | (simp only [List.length_append,List.length_cons,List.length_nil];decide) | exact Zf (by simp only [List.length_append,List.length_cons,List.length_nil];decide) (by simp only [List.length_append,List.length_cons,List.length_nil];decide) | exact XZ (by simp only [List.length_append,List.length_cons,List.length_nil];decide) (by simp only [List.length_append,List.length_cons,List.length_nil];decide) | (unfold maxLen;omega) | (simp only [XK,XJ,XI];omega)):p:=h
set_option maxHeartbeats 2000000 in
theorem Wq  (b:AH) (d:AE) (hd:Bi d) (h0:(b.Parts.length:Int)<=1000000) (h1:(b.Tracks.length:Int)<=1000000) (h2:(b.Vias.length:Int)<=1000000) (h3:(b.Pours.length:Int)<=1000000) (h4:(b.Keeps.length:Int)<=1000000) (h5:(b.Slots.length:Int)<=1000000) (hi:1<=(b.Parts.length:Int)):Wr2 Try.prog 57 1000 1001 [.one (.ptr 1000 0),.one (.ptr 1001 0)] (.cells [.i b.Layers,.i b.Outline.Kind,lst 7 AO.c b.Outline.Edges,.i b.Outline.R,lst 7 AG.c b.Parts,lst 2 BA.c b.Nets,lst 6 Aj.c b.Tracks,lst 8 Br.c b.Vias,lst 8 BB.c b.Pours,lst 5 BS.c b.Keeps,lst 4 Bb.c b.Slots,vN,vN,vN,vN] 42) (.cells (AE.c d) 146) (.tup []) (.cells (AH.c (Cb b d).1) 42) (.cells (AE.c (Cb b d).2) 146):=by
 refine MP Try.func57 rfl kr kr kr rfl kr kr kr fun W0 M0 X hX => ?_
 refine AD ?_
 refine DQ D6 [18] [] [(6,CD),(7,CD),(9,(Z38 d)),(12,CD),(13,CD),(15,(Z39 d))] [0,1] [18,1000,1001] [Ay CD.2.1,Ay CD.2.1,Ay (Z38 d).2.1,Bu (GK d),Ay CD.2.1,Ay CD.2.1,Ay (Z39 d).2.1,Bu (.cells (AE.c (AB d 10).2) 146)] ⟨Di,[(18,.row 20 2 (Au 20 2 [.s ({ data := #[99,49] }:ByteArray),.i 1,.i 1,.i AK.Op,.s AK.Text,.i AK.N,.i AK.Box.X0,.i AK.Box.Y0,.i AK.Box.X1,.i AK.Box.Y1,opL AK.L,.i AK.Op,.s AK.Text,.i AK.N,.i AK.Box.X0,.i AK.Box.Y0,.i AK.Box.X1,.i AK.Box.Y1,opL AK.L,.i (W64 (3+(AB d 10).1)),.s ({ data := #[101,49] }:ByteArray),.i 1,.i 3,.i AK.Op,.s AK.Text,.i AK.N,.i AK.Box.X0,.i AK.Box.Y0,.i AK.Box.X1,.i AK.Box.Y1,opL AK.L,.i AK.Op,.s AK.Text,.i AK.N,.i AK.Box.X0,.i AK.Box.Y0,.i AK.Box.X1,.i AK.Box.Y1,opL AK.L,.i (W64 (2+(AB (AB d 10).2 8).1))]) 107),(1000,.cells (A7 b (CO b [vN,.own 18 20 2,vN,vN])) 42),(1001,Z3a d)]⟩ (.cons Do (.cons Do (.cons (cWr (BT d 10 au5 au6)) (.cons Do (.cons Do (.cons (cWr (BT (AB d 10).2 8 au5 au6)) .nil)))))) kr (.cons rfl (.cons rfl (.cons rfl (.cons rfl (.cons rfl (.cons rfl (.cons rfl (.cons rfl .nil))))))))<|AJ ?_
 refine BL (Cv.trans (BH (⟨Di,[(18,Z3b d),(1000,Z3c b d),(1001,Z3a d)]⟩) lr (.cons ⟨rfl,Ai 107 (Ar (c:=Aq.c) (xs:=([Aq.mk ({ data := #[99,49] }:ByteArray) 1 1 AK AK (W64 (3+(AB d 10).1)),Aq.mk ({ data := #[101,49] }:ByteArray) 1 3 AK AK (W64 (2+(AB (AB d 10).2 8).1))]:List Aq)) rfl kr)⟩ (.cons ⟨rfl,.cells _ (rr9 (rr3 (.cons (.own _ _ au0) (rr (rr .nil)))))⟩ lr))) (Cv.refl _))<|AD<|AD ?_
 refine rb 22 (Z3d d) (.cells (AE.c (AB (AB d 10).2 8).2) 146) ⟨[(0,tP 1000 0),(1,tP 1001 0),(23,tB (decide (((AB (EI d).2 2).1:Int)=1)))],[(18,Z3b d),(1000,Z3c b d),(1001,.cells (AE.c (Z3e d)) 146)]⟩ (cWr (BT (AB (AB d 10).2 8).2 2 au5 au6))<|AJ ?_
 refine Bz (⟨Di,[(1000,.cells (A7 b (CO b [vN,.own 100000 20 (Z3m d).length,vN,vN])) 42),(1001,.cells (AE.c (Z3l d)) 146),(100000,.row 20 (Z3m d).length (AU Aq.c (Z3m d)) 107)]⟩) ?_ ?_
 ·refine Aa _ rfl (fun h1 => ?_) (fun h1 => ?_)
  ·have g1:=oT h1
   refine dw [] [(29,CD),(30,CD),(32,(Z3f d)),(35,CD),(36,CD),(38,(Z3g d))] [Ay CD.2.1,Ay CD.2.1,Ay (Z3f d).2.1,Bu (.cells (AE.c (Z3e d)) 146),Ay CD.2.1,Ay CD.2.1,Ay (Z3g d).2.1,Bu (.cells (AE.c (AB (Z3e d) 5).2) 146),[Aq.mk ({ data := #[99,49] }:ByteArray) 1 1 AK AK (W64 (3+(AB d 10).1)),Aq.mk ({ data := #[101,49] }:ByteArray) 1 3 AK AK (W64 (2+(AB (AB d 10).2 8).1))].length=[Aq.mk ({ data := #[99,49] }:ByteArray) 1 1 AK AK (W64 (3+(AB d 10).1)),Aq.mk ({ data := #[101,49] }:ByteArray) 1 3 AK AK (W64 (2+(AB (AB d 10).2 8).1))].length,([Aq.mk ({ data := #[99,49] }:ByteArray) 1 1 AK AK (W64 (3+(AB d 10).1)),Aq.mk ({ data := #[101,49] }:ByteArray) 1 3 AK AK (W64 (2+(AB (AB d 10).2 8).1))].length)+2<=maxLen,(([Aq.mk ({ data := #[99,49] }:ByteArray) 1 1 AK AK (W64 (3+(AB d 10).1)),Aq.mk ({ data := #[101,49] }:ByteArray) 1 3 AK AK (W64 (2+(AB (AB d 10).2 8).1))].length)+2)*216<=140737488355328] ⟨Di,[(42,.row 20 (([Aq.mk ({ data := #[99,49] }:ByteArray) 1 1 AK AK (W64 (3+(AB d 10).1)),Aq.mk ({ data := #[101,49] }:ByteArray) 1 3 AK AK (W64 (2+(AB (AB d 10).2 8).1))].length)+2) (fun i_ j_=>if i_<([Aq.mk ({ data := #[99,49] }:ByteArray) 1 1 AK AK (W64 (3+(AB d 10).1)),Aq.mk ({ data := #[101,49] }:ByteArray) 1 3 AK AK (W64 (2+(AB (AB d 10).2 8).1))].length) then (AU Aq.c [Aq.mk ({ data := #[99,49] }:ByteArray) 1 1 AK AK (W64 (3+(AB d 10).1)),Aq.mk ({ data := #[101,49] }:ByteArray) 1 3 AK AK (W64 (2+(AB (AB d 10).2 8).1))]) i_ j_ else (Au 20 2 [.s ({ data := #[119,49] }:ByteArray),.i 1,.i 2,.i AK.Op,.s AK.Text,.i AK.N,.i AK.Box.X0,.i AK.Box.Y0,.i AK.Box.X1,.i AK.Box.Y1,opL AK.L,.i AK.Op,.s AK.Text,.i AK.N,.i AK.Box.X0,.i AK.Box.Y0,.i AK.Box.X1,.i AK.Box.Y1,opL AK.L,.i (W64 (6+(AB (Z3e d) 5).1)),.s ({ data := #[114,49] }:ByteArray),.i 1,.i 4,.i AK.Op,.s AK.Text,.i AK.N,.i AK.Box.X0,.i AK.Box.Y0,.i AK.Box.X1,.i AK.Box.Y1,opL AK.L,.i AK.Op,.s AK.Text,.i AK.N,.i AK.Box.X0,.i AK.Box.Y0,.i AK.Box.X1,.i AK.Box.Y1,opL AK.L,.i (W64 (2+(AB (AB (Z3e d) 5).2 4).1))]) (i_-([Aq.mk ({ data := #[99,49] }:ByteArray) 1 1 AK AK (W64 (3+(AB d 10).1)),Aq.mk ({ data := #[101,49] }:ByteArray) 1 3 AK AK (W64 (2+(AB (AB d 10).2 8).1))].length)) j_) 107),(1000,.cells (A7 b (CO b [vN,.own 42 20 (([Aq.mk ({ data := #[99,49] }:ByteArray) 1 1 AK AK (W64 (3+(AB d 10).1)),Aq.mk ({ data := #[101,49] }:ByteArray) 1 3 AK AK (W64 (2+(AB (AB d 10).2 8).1))].length)+2),vN,vN])) 42),(1001,Z3h d)]⟩ (.cons Do (.cons Do (.cons (cWr (BT (Z3e d) 5 au5 au6)) (.cons Do (.cons Do (.cons (cWr (BT (AB (Z3e d) 5).2 4 au5 au6)) .nil)))))) (.cons rfl (.cons rfl (.cons rfl (.cons rfl (.cons rfl (.cons rfl (.cons rfl (.cons rfl (.cons rfl (.cons au20 (.cons au20 .nil)))))))))))<|AJ ?_
   refine Cv.trans (BH (⟨Di,[(42,Z3i d),(1000,.cells (A7 b (CO b [vN,.own 42 20 ([Aq.mk ({ data := #[99,49] }:ByteArray) 1 1 AK AK (W64 (3+(AB d 10).1)),Aq.mk ({ data := #[101,49] }:ByteArray) 1 3 AK AK (W64 (2+(EI d).1))]++[Aq.mk ({ data := #[119,49] }:ByteArray) 1 2 AK AK (W64 (6+(AB (Z3e d) 5).1)),Aq.mk ({ data := #[114,49] }:ByteArray) 1 4 AK AK (W64 (2+(Ir d).1))]).length,vN,vN])) 42),(1001,Z3h d)]⟩) lr (.cons ⟨rfl,Ai 107 (BM (A8 20 Aq.c [Aq.mk ({ data := #[99,49] }:ByteArray) 1 1 AK AK (W64 (3+(AB d 10).1)),Aq.mk ({ data := #[101,49] }:ByteArray) 1 3 AK AK (W64 (2+(AB (AB d 10).2 8).1))]) (Ar (c:=Aq.c) (xs:=([Aq.mk ({ data := #[119,49] }:ByteArray) 1 2 AK AK (W64 (6+(AB (Z3e d) 5).1)),Aq.mk ({ data := #[114,49] }:ByteArray) 1 4 AK AK (W64 (2+(AB (AB (Z3e d) 5).2 4).1))]:List Aq)) rfl kr))⟩ (.cons ⟨rfl,.cells _ (rr9 (rr3 (.cons (.own _ _ au0) (rr (rr .nil)))))⟩ lr))) (Cv.trans (vr 42 100000 (K:=[1000,1001]) hX) (Cv.trans (ck (⟨Di,[(1000,Z3j b d),(1001,Z3h d),(100000,Z3i d)]⟩)) (A9 ?_)))
   first | rfl | (simp only [h1,Z3l,Z3m,cond_true,cond_false] <;> rfl)
  refine Ad<|AJ ?_
  refine Cv.trans (vk [0,1] [18,1000,1001]) (Cv.trans (vr 18 100000 (K:=[1000,1001]) hX) (Cv.trans (ck (⟨Di,[(1000,Z3k b d),(1001,.cells (AE.c (Z3e d)) 146),(100000,Z3b d)]⟩)) (A9 ?_)))
  first | rfl | (simp only [h1,Z3l,Z3m,cond_true,cond_false] <;> rfl)
 refine AD<|AD ?_
 refine rb 46 (Z3n d) (.cells (AE.c (Z3l d)) 146) ⟨[(0,tP 1000 0),(1,tP 1001 0),(47,tB (decide (((AB (Z3l d) 2).1:Int)=1)))],[(1000,Z3o b d),(1001,Z3p d),(100000,Z3q d)]⟩ (cWr (BT (Z3l d) 2 au5 au6))<|AJ ?_
 refine Bz (⟨Di,[(1000,.cells (A7 b (CO b [vN,.own 100001 20 (Z3B d).length,vN,vN])) 42),(1001,.cells (AE.c (Z3A d)) 146),(100001,.row 20 (Z3B d).length (AU Aq.c (Z3B d)) 107)]⟩) ?_ ?_
 ·refine Aa _ rfl (fun h1 => ?_) (fun h1 => ?_)
  ·have g1:=oT h1
   refine dw [] [(54,(Z3r d)),(57,(Z3s d)),(59,(Z3v d)),(61,(Z3w d))] [Ay (Z3r d).2.1,Bu (.cells (AE.c (AB (Z3l d) 2).2) 146),Ay (Z3s d).2.1,Bu (.cells (AE.c (AB (AB (Z3l d) 2).2 2).2) 146),Ay (Z3v d).2.1,Bu (.cells (AE.c (Z3t d)) 146),Ay (Z3w d).2.1,Bu (.cells (AE.c (BF (Z3t d)).2) 146),(Z3m d).length=(Z3m d).length,(Z3m d).length+1<=maxLen,((Z3m d).length+1)*216<=140737488355328] ⟨Di,[(65,.row 20 ((Z3m d).length+1) (fun i_ j_=>if i_<(Z3m d).length then (AU Aq.c (Z3m d)) i_ j_ else (Au 20 1 [.s ({ data := #[99,50] }:ByteArray),.i (W64 (1+(AB (AB (Z3l d) 2).2 2).1)),.i 1,.i (Z3u d).Op,.s (Z3u d).Text,.i (Z3u d).N,.i (Z3u d).Box.X0,.i (Z3u d).Box.Y0,.i (Z3u d).Box.X1,.i (Z3u d).Box.Y1,opL (Z3u d).L,.i (BF (Z3t d)).1.Op,.s (BF (Z3t d)).1.Text,.i (BF (Z3t d)).1.N,.i (BF (Z3t d)).1.Box.X0,.i (BF (Z3t d)).1.Box.Y0,.i (BF (Z3t d)).1.Box.X1,.i (BF (Z3t d)).1.Box.Y1,opL (BF (Z3t d)).1.L,.i (W64 (1+(AB (BF (Z3t d)).2 14).1))]) (i_-(Z3m d).length) j_) 107),(1000,.cells (A7 b (CO b [vN,.own 65 20 ((Z3m d).length+1),vN,vN])) 42),(1001,.cells (AE.c (Z3x d)) 146)]⟩ (.cons (cWr (BT (AB (Z3l d) 2).2 2 au5 au6)) (.cons (cWr (Tt (AB (AB (Z3l d) 2).2 2).2 au5)) (.cons (cWr (Tt (Z3t d) au5)) (.cons (cWr (BT (BF (Z3t d)).2 14 au5 au6)) .nil)))) (.cons rfl (.cons rfl (.cons rfl (.cons rfl (.cons rfl (.cons rfl (.cons rfl (.cons rfl (.cons rfl (.cons au20 (.cons au20 .nil)))))))))))<|AJ ?_
   refine Cv.trans (BH (⟨Di,[(65,Z3y d),(1000,.cells (A7 b (CO b [vN,.own 65 20 ((Z3m d)++[Aq.mk ({ data := #[99,50] }:ByteArray) (W64 (1+(AB (AB (Z3l d) 2).2 2).1)) 1 (Z3u d) (BF (Z3t d)).1 (W64 (1+(KL d).1))]).length,vN,vN])) 42),(1001,.cells (AE.c (Z3x d)) 146)]⟩) lr (.cons ⟨rfl,Ai 107 (BM (A8 20 Aq.c (Z3m d)) (Ar (c:=Aq.c) (xs:=([Aq.mk ({ data := #[99,50] }:ByteArray) (W64 (1+(AB (AB (Z3l d) 2).2 2).1)) 1 (Z3u d) (BF (Z3t d)).1 (W64 (1+(AB (BF (Z3t d)).2 14).1))]:List Aq)) rfl kr))⟩ (.cons ⟨rfl,.cells _ (rr9 (rr3 (.cons (.own _ _ au0) (rr (rr .nil)))))⟩ lr))) (Cv.trans (vr 65 100001 (K:=[1000,1001]) hX) (Cv.trans (ck (⟨Di,[(1000,Z3z b d),(1001,.cells (AE.c (Z3x d)) 146),(100001,Z3y d)]⟩)) (A9 ?_)))
   first | rfl | (simp only [h1,Z3A,Z3B,cond_true,cond_false] <;> rfl)
  refine Ad<|AJ ?_
  refine Cv.trans (vk [0,1] [1000,1001,100000]) (Cv.trans (wr (⟨Di,[(1000,.cells (A7 b (CO b [vN,.own 100001 20 (Z3m d).length,vN,vN])) 42),(1001,Z3p d),(100001,Z3q d)]⟩) 100000 100001 (K:=[1000,1001]) hX) (A9 ?_))
  first | rfl | (simp only [h1,Z3A,Z3B,cond_true,cond_false] <;> rfl)
 refine AD<|AD ?_
 refine rb 69 (Z3C d) (.cells (AE.c (Z3A d)) 146) ⟨[(0,tP 1000 0),(1,tP 1001 0),(70,tB (decide (((AB (Z3A d) 3).1:Int)=0)))],[(1000,Z3D b d),(1001,Z3E d),(100001,Z3F d)]⟩ (cWr (BT (Z3A d) 3 au5 au6))<|AJ ?_
 refine Bz (⟨Di,[(1000,.cells (A7 b (CO b [lst 2 BJ.c (Z3G d),.own 100001 20 (Z3B d).length,vN,vN])) 42),(1001,.cells (AE.c (AB (Z3A d) 3).2) 146),(100001,.row 20 (Z3B d).length (AU Aq.c (Z3B d)) 107)]⟩) ?_ ?_
 ·refine Aa _ rfl (fun h1 => ?_) (fun h1 => ?_)
  ·refine rn ⟨Di,[(1000,.cells (A7 b (CO b [.list true 2 1 (Au 2 1 [.s ({ data := #[112,111,119,101,114] }:ByteArray),.list true 1 1 (Au 1 1 [.s ({ data := #[71,78,68] }:ByteArray)])]),.own 100001 20 (Z3B d).length,vN,vN])) 42),(1001,Z3E d),(100001,Z3F d)]⟩ ?_
   refine Cv.trans (BH (⟨Di,[(1000,.cells (A7 b (CO b [lst 2 BJ.c [BJ.mk ({ data := #[112,111,119,101,114] }:ByteArray) [({ data := #[71,78,68] }:ByteArray)]],.own 100001 20 (Z3B d).length,vN,vN])) 42),(1001,Z3E d),(100001,Z3F d)]⟩) lr (.cons ⟨rfl,.cells _ (rr9 (rr2 (.cons (Be true (EQ (c:=BJ.c) (xs:=([BJ.mk ({ data := #[112,111,119,101,114] }:ByteArray) [({ data := #[71,78,68] }:ByteArray)]]:List BJ)) (y:=[[.s ({ data := #[112,111,119,101,114] }:ByteArray),.list true 1 1 (Au 1 1 [.s ({ data := #[71,78,68] }:ByteArray)])]]) (z:=[[.s ({ data := #[112,111,119,101,114] }:ByteArray),lst 1 (fun x=>[.s x]) [({ data := #[71,78,68] }:ByteArray)]]]) rfl kr kr (.cons (rr (.cons (Be true (Ar (c:=(fun x=>[.s x])) (xs:=([({ data := #[71,78,68] }:ByteArray)]:List ByteArray)) rfl kr)) .nil)) .nil))) (rr (rr (rr .nil))))))⟩ lr)) (A9 ?_)
   first | rfl | (simp only [h1,Z3G,cond_true,cond_false] <;> rfl)
  refine Ad<|AJ ?_
  refine Cv.trans (ck (⟨Di,[(1000,Z3D b d),(1001,Z3E d),(100001,Z3F d)]⟩)) (Cv.trans (BH (⟨Di,[(1000,.cells (A7 b (CO b [lst 2 BJ.c [],.own 100001 20 (Z3B d).length,vN,vN])) 42),(1001,Z3E d),(100001,Z3F d)]⟩) lr (.cons ⟨rfl,.cells _ (rr9 (rr2 (.cons (CY 2 BJ.c) (rr (rr (rr .nil))))))⟩ lr)) (A9 ?_))
  first | rfl | (simp only [h1,Z3G,cond_true,cond_false] <;> rfl)
 refine AD<|AD ?_
 refine rb 78 (Z3H d) (.cells (AE.c (AB (Z3A d) 3).2) 146) ⟨[(0,tP 1000 0),(1,tP 1001 0),(79,tB (decide (((AB (AB (Z3A d) 3).2 4).1:Int)=0)))],[(1000,Z3J b d),(O4 d),(100001,Z3F d)]⟩ (cWr (BT (AB (Z3A d) 3).2 4 au5 au6))<|AJ ?_
 refine Bz (⟨Di,[(1000,.cells (A7 b (CO b [lst 2 BJ.c (Z3G d),.own 100001 20 (Z3B d).length,lst 3 Ao.c (Z3Q d b),vN])) 42),(1001,.cells (AE.c (Z3P d b)) 146),(100001,.row 20 (Z3B d).length (AU Aq.c (Z3B d)) 107)]⟩) ?_ ?_
 ·refine Aa _ rfl (fun h1 => ?_) (fun h1 => ?_)
  ·have g1:=oT h1
   refine AD<|rs 83 (ceI [.agg (Z9 b d)] (TQ (AH.mk b.Layers (Ah.mk 0 [] 0) b.Parts [] b.Tracks b.Vias b.Pours b.Keeps b.Slots [] [] [] []))) ⟨[(0,tP 1000 0),(1,tP 1001 0),(4,tO (lst 1 eIn (Z3K b)))],[(1000,Z3J b d),(O4 d),(100001,Z3F d)]⟩ (CX (ZS (AH.mk b.Layers (Ah.mk 0 [] 0) b.Parts [] b.Tracks b.Vias b.Pours b.Keeps b.Slots [] [] [] []) au9 au9 au9 au9 au9 au9) (.cons (.agg (rr (.cons (.any _) (.cons (.any _) (.cons (.any _) (rr (.cons (.any _) (rr5 (.cons (.any _) (.cons (.any _) (.cons (.any _) (.cons (.any _) .nil)))))))))))) .nil))<|AJ ?_
   refine dw [] [(89,(Z3L b d)),(96,(Z3N b d))] [Ay (Z3L b d).2.1,Bu (.cells (AE.c (Z3I d)) 146),0<=((AB (Z3I d) ((Z3K b).length:Int)).1:Int)/\((AB (Z3I d) ((Z3K b).length:Int)).1:Int)<(((Z3K b).length:Nat):Int),Ay (Z3N b d).2.1,Bu (.cells (AE.c (Z3M d b)) 146),0<=((AB (Z3M d b) ((Z3K b).length:Int)).1:Int)/\((AB (Z3M d b) ((Z3K b).length:Int)).1:Int)<(((Z3K b).length:Nat):Int)] ⟨Di,[(1000,.cells (A7 b (CO b (Ot d [.list true 3 1 (Au 3 1 [.i ((Z3K b).getD (AB (Z3I d) ((Z3K b).length:Int)).1.toNat default),.i ((Z3K b).getD (AB (Z3M d b) ((Z3K b).length:Int)).1.toNat default),.s ({ data := #[99,49] }:ByteArray)]),vN]))) 42),(1001,.cells (AE.c (Z3O d b)) 146),(100001,Z3F d)]⟩ (.cons (cWr (BT (Z3I d) ((Z3K b).length:Int) au5 au6)) (.cons (cWr (BT (Z3M d b) ((Z3K b).length:Int) au5 au6)) .nil)) (.cons rfl (.cons rfl (.cons (by first | exact IA _ _ _ (by decide) (by decide) (by decide) | exact Rb (b:=AH.mk b.Layers (Ah.mk 0 [] 0) b.Parts [] b.Tracks b.Vias b.Pours b.Keeps b.Slots [] [] [] []) _ hi (by assumption) (by assumption) (by assumption) (by assumption) (by assumption) (by assumption) | decide | omega) (.cons rfl (.cons rfl (.cons (by first | exact IA _ _ _ (by decide) (by decide) (by decide) | exact Rb (b:=AH.mk b.Layers (Ah.mk 0 [] 0) b.Parts [] b.Tracks b.Vias b.Pours b.Keeps b.Slots [] [] [] []) _ hi (by assumption) (by assumption) (by assumption) (by assumption) (by assumption) (by assumption) | decide | omega) .nil))))))<|AJ ?_
   refine Cv.trans (BH (⟨Di,[(1000,.cells (A7 b (CO b [lst 2 BJ.c (Z3G d),.own 100001 20 (Z3B d).length,lst 3 Ao.c [Ao.mk ((Z3K b).getD (AB (Z3I d) ((Z3K b).length:Int)).1.toNat default) ((Z3K b).getD (AB (Z3M d b) ((Z3K b).length:Int)).1.toNat default) ({ data := #[99,49] }:ByteArray)],vN])) 42),(1001,.cells (AE.c (Z3O d b)) 146),(100001,Z3F d)]⟩) lr (.cons ⟨rfl,.cells _ (rr9 (rr4 (.cons (Be true (Ar (c:=Ao.c) (xs:=([Ao.mk ((Z3K b).getD (AB (Z3I d) ((Z3K b).length:Int)).1.toNat default) ((Z3K b).getD (AB (Z3M d b) ((Z3K b).length:Int)).1.toNat default) ({ data := #[99,49] }:ByteArray)]:List Ao)) rfl kr)) (rr .nil))))⟩ lr)) (A9 ?_)
   first | rfl | (simp only [h1,Z3P,Z3Q,cond_true,cond_false] <;> rfl)
  refine Ad<|AJ ?_
  refine Cv.trans (ck (⟨Di,[(1000,Z3J b d),(O4 d),(100001,Z3F d)]⟩)) (Cv.trans (BH (⟨Di,[(1000,.cells (A7 b (CO b [lst 2 BJ.c (Z3G d),.own 100001 20 (Z3B d).length,lst 3 Ao.c [],vN])) 42),(O4 d),(100001,Z3F d)]⟩) lr (.cons ⟨rfl,.cells _ (rr9 (rr4 (.cons (CY 3 Ao.c) (rr .nil))))⟩ lr)) (A9 ?_))
  first | rfl | (simp only [h1,Z3P,Z3Q,cond_true,cond_false] <;> rfl)
 refine AD<|rb 104 (Z3R d b) (.cells (AE.c (Z3P d b)) 146) ⟨[(0,tP 1000 0),(1,tP 1001 0),(105,tB (decide (((AB (Z3P d b) 4).1:Int)=0)))],[(1000,.cells (A7 b (CO b (Ot d [lst 3 Ao.c (Z3Q d b),vN]))) 42),(1001,.cells (AE.c (AB (Z3P d b) 4).2) 146),(100001,Z3F d)]⟩ (cWr (BT (Z3P d b) 4 au5 au6))<|AJ ?_
 refine Aa _ rfl (fun h1 => ?_) (fun h1 => ?_)
 ·have g1:=oT h1
  refine rb 109 (Z3S d b) (.cells (AE.c (AB (Z3P d b) 4).2) 146) ⟨[],[(1000,.cells (A7 b (CO b (Ot d [lst 3 Ao.c (Z3Q d b),.list true 3 1 (Au 3 1 [.s ({ data := #[109,49] }:ByteArray),.list true 1 2 (Au 1 2 [.s ({ data := #[78,49] }:ByteArray),.s ({ data := #[78,50] }:ByteArray)]),.i (W64 (10*(AB (AB (Z3P d b) 4).2 8).1))])]))) 42),(1001,.cells (AE.c (Z3T d b)) 146),(100001,Z3F d)]⟩ (cWr (BT (AB (Z3P d b) 4).2 8 au5 au6)) ?_
  exact yn (Cv.trans (vf 100001 20 (Z3B d).length (AU Aq.c (Z3B d)) 107 (K:=[1000,1001]) hX (.cons ⟨rfl,rfl⟩ .nil)) (Cv.refl _)) (.tup []) ⟨An rfl,⟨.cells (A7 b (CO b (Ou d b [.list true 3 1 (Au 3 1 [.s ({ data := #[109,49] }:ByteArray),.list true 1 2 (Au 1 2 [.s ({ data := #[78,49] }:ByteArray),.s ({ data := #[78,50] }:ByteArray)]),.i (W64 (10*(AB (AB (Z3P d b) 4).2 8).1))])]))) 42,by kernel_rfl,QV (y:=.cells (A7 b (CO b (Ou d b [lst 3 BW.c [BW.mk ({ data := #[109,49] }:ByteArray) [({ data := #[78,49] }:ByteArray),({ data := #[78,50] }:ByteArray)] (W64 (10*(AB (AB (Z3P d b) 4).2 8).1))]]))) 42) (.cells _ (rr9 (rr5 (.cons (Be true (EQ (c:=BW.c) (xs:=([BW.mk ({ data := #[109,49] }:ByteArray) [({ data := #[78,49] }:ByteArray),({ data := #[78,50] }:ByteArray)] (W64 (10*(AB (AB (Z3P d b) 4).2 8).1))]:List BW)) (y:=[[.s ({ data := #[109,49] }:ByteArray),.list true 1 2 (Au 1 2 [.s ({ data := #[78,49] }:ByteArray),.s ({ data := #[78,50] }:ByteArray)]),.i (W64 (10*(AB (AB (Z3P d b) 4).2 8).1))]]) (z:=[[.s ({ data := #[109,49] }:ByteArray),lst 1 (fun x=>[.s x]) [({ data := #[78,49] }:ByteArray),({ data := #[78,50] }:ByteArray)],.i (W64 (10*(AB (AB (Z3P d b) 4).2 8).1))]]) rfl kr kr (.cons (rr (.cons (Be true (Ar (c:=(fun x=>[.s x])) (xs:=([({ data := #[78,49] }:ByteArray),({ data := #[78,50] }:ByteArray)]:List ByteArray)) rfl kr)) (rr .nil))) .nil))) .nil)))) (by first | (simp only [Cb,h1,cond_true,cond_false];done) | (simp only [Cb,h1,cond_true,cond_false];kernel_rfl))⟩,.cells (AE.c (Z3T d b)) 146,by kernel_rfl,DP (by first | (simp only [Cb,h1,cond_true,cond_false];done) | (simp only [Cb,h1,cond_true,cond_false];kernel_rfl))⟩
 have g1:=oF h1
 refine Ad ?_
 exact yn (Cv.trans (vf 100001 20 (Z3B d).length (AU Aq.c (Z3B d)) 107 (K:=[1000,1001]) hX (.cons ⟨rfl,rfl⟩ .nil)) (Cv.refl _)) (.tup []) ⟨An rfl,⟨.cells (A7 b (CO b (Ou d b [vN]))) 42,by kernel_rfl,QV (y:=.cells (A7 b (CO b (Ou d b [lst 3 BW.c []]))) 42) (.cells _ (rr9 (rr5 (.cons (CY 3 BW.c) .nil)))) (by first | (simp only [Cb,h1,cond_true,cond_false];done) | (simp only [Cb,h1,cond_true,cond_false];kernel_rfl))⟩,.cells (AE.c (AB (Z3P d b) 4).2) 146,by kernel_rfl,DP (by first | (simp only [Cb,h1,cond_true,cond_false];done) | (simp only [Cb,h1,cond_true,cond_false];kernel_rfl))⟩
end
section
open Go.RowKit
theorem M5 {v a:Int} {d:AE} {n:Int} (h:v<W64 (a+(AB d n).1)) (h0:0<n) (h1:n<=1000000) (ha:0<=a) (hb:a<=1000000):v<a+n-1:=by
 have:=Ct d n h0 (by omega)
 rw [Ap (by omega) (by omega)] at h
 omega
theorem Gq {p q:Prop} [Decidable p] [Decidable q] {r:Bool} (h:(bif bif decide p then decide q else false then r else (bif bif decide p then decide q else false then false else false))=true):q:=by
 by_cases hp:p
 ·rw [decide_eq_true hp] at h
  by_cases hq:q
  ·exact hq
  rw [decide_eq_false hq] at h;cases h
 rw [decide_eq_false hp] at h;cases h
theorem T8 {n:Nat} (h:(0:Int)<(n:Int)):0<n:=by omega
theorem OU {c2 c1:Bool} {a b c:A1} {L:List A1} (hL:L=bif c2 then [a,b] else bif c1 then [c] else []):L.length<=2:=by
 subst hL;cases c2 <;> cases c1 <;> simp
theorem UO {c2 c1:Bool} {a b c:A1} {L:List A1} {k:Int} (hk:0<=k/\k<2) (ha:a.Legs.length=2) (hc:c.Legs.length=2) (hL:L=bif c2 then [a,b] else bif c1 then [c] else []) (h:(0:Int)<(L.length:Int)):0<=k/\k<(((L.getD 0 default).Legs.length:Nat):Int):=by
 subst hL
 cases c2 with
 | true=>show 0<=k/\k<((a.Legs.length:Nat):Int);rw [ha];exact hk
 | false =>
  cases c1 with
  | true=>show 0<=k/\k<((c.Legs.length:Nat):Int);rw [hc];exact hk
  | false=>exact absurd h (by simp)
theorem Xu {α:Type} {L:List α} (h:L.length<=2):L.length+1<=maxLen:=by unfold maxLen;omega
theorem Xv {α:Type} {L:List α} (h:L.length<=2):(L.length+1)*32<=140737488355328:=by omega
def Z3U:Blk:=.cells L8 114
variable (r:Al) (name:ByteArray) (l:List Int) (v6_1:List A3) (v8:Int) (x0:AF) (radius:Int) (v5:AE) (x1:AF)
abbrev HX:=AB (AE.mk l 0) 5
def Z3V:CT:=(54,(Iy:List Av).map (Bp 1000 14),wrI 14 (.cells [lst 1 eIn l,.i 0] 146) (tI (HX l).1) (.cells (AE.c (HX l).2) 146))
def Z3W:Tv:=tI (W64 (2+(HX l).1))
def Z3X:Blk:=.cells (AE.c (HX l).2) 146
abbrev GX:Bool:=(decide (((W64 (2+(AB (AE.mk l 0) 5).1)):Int)<4))
def Z3Y:Tv:=tB (GX l)
abbrev KN:Av:=.one (.ptr 14 0)
def Z3Z:Tv:=.grd ((GX l)=true) KN
def Z40:Blk:=.row 2 ([]:List A1).length (AU A1.c ([]:List A1)) 157
abbrev GY:Bool:=(decide ((4:Int)<=(W64 (2+(AB (AE.mk l 0) 5).1))))
def Z41:Tv:=tB (GY l)
def Z42:Tv:=.grd ((GY l)=true) KN
def Z43:Blk:=.row 7 ([]:List A3).length (AU A3.c ([]:List A3)) 118
def Z44:Blk:=.cells (R8 name) 114
def Z45:Blk:=.cells [.s name,.own 100000 7 v6_1.length,vN] 114
def Z46:Blk:=.row 7 v6_1.length (AU A3.c v6_1) 118
abbrev KQ:Blk:=.cells (AE.c (AB v5 2).2) 146
abbrev KH:Blk:=.cells (AE.c v5) 146
def Z47:CT:=(54,(GT:List Av).map (Bp 1000 14),wrI 14 (KH v5) (tI (AB v5 2).1) (KQ v5))
def Z48:Blk:=.cells [.s (Ae v8),.i 0,vN,.i 0,.i (W64 (30*v8)),.i (W64 (10*(AB v5 2).1)),.i 0] 118
def Z49:Blk:=.cells [.i (W64 (30*v8)),.i (W64 (10*(AB v5 2).1))] 52
abbrev GV:=AB (AB v5 2).2 3
def Z4a:CT:=(54,(EO:List Av).map (Bp 1000 14),wrI 14 (KQ v5) (tI (GV v5).1) (.cells (AE.c (GV v5).2) 146))
def Z4b:Blk:=.cells (AE.c (GV v5).2) 146
def Z4c:Ah:=C4 (Al.mk (W64 ((W64 (30*v8))-6)) (W64 ((W64 (10*(AB v5 2).1))-6)) (W64 ((W64 (30*v8))+6)) (W64 ((W64 (10*(AB v5 2).1))+6)))
def Z4d:CT:=(54,(EO:List Av).map (Bp 1000 14),wrI 14 (.cells (AE.c (GV v5).2) 146) (tI (AB (GV v5).2 3).1) (.cells (AE.c (AB (GV v5).2 3).2) 146))
abbrev Z4e:AE:=(AB (AB (AB v5 2).2 3).2 3).2
def Z4f:Ah:=Dt (AF.mk (W64 (30*v8)) (W64 (10*(AB v5 2).1))) (W64 (4+(AB (AB (AB v5 2).2 3).2 3).1))
abbrev Z4g:AE:=bif decide (((AB (AB v5 2).2 3).1:Int)=0) then (AB (AB v5 2).2 3).2 else (bif decide (((AB (AB v5 2).2 3).1:Int)=1) then (Z4e v5) else (AB (AB v5 2).2 3).2)
def Z4h (v5:AE) (v8:Int):(List AO):=bif decide (((AB (AB v5 2).2 3).1:Int)=0) then (Z4c v8 v5).Edges else (bif decide (((AB (AB v5 2).2 3).1:Int)=1) then (Z4f v8 v5).Edges else [AO.mk 1 (AF.mk (W64 ((W64 (30*v8))-2)) (W64 (10*(AB v5 2).1))) (AF.mk (W64 ((W64 (30*v8))+2)) (W64 (10*(AB v5 2).1))) (AF.mk 0 0)])
def Z4i:CT:=(54,(IZ:List Av).map (Bp 1000 14),wrI 14 (.cells (AE.c (Z4g v5)) 146) (tI (AB (Z4g v5) 4).1) (.cells (AE.c (AB (Z4g v5) 4).2) 146))
def Z4j:CT:=(54,(GT:List Av).map (Bp 1000 14),wrI 14 (.cells (AE.c (AB (Z4g v5) 4).2) 146) (tI (AB (AB (Z4g v5) 4).2 2).1) (.cells (AE.c (AB (AB (Z4g v5) 4).2 2).2) 146))
abbrev Z4k:AE:=(AB (AB (Z4g v5) 4).2 2).2
def Z4l:CT:=(54,(EO:List Av).map (Bp 1000 14),wrI 14 (KH v5) (tI (AB v5 3).1) (.cells (AE.c (AB v5 3).2) 146))
abbrev Z4m:AE:=bif decide (((W64 (2+(AB (AE.mk l 0) 5).1)):Int)<4) then (AB v5 3).2 else v5
def Z4n:CT:=(54,(GT:List Av).map (Bp 1000 14),wrI 14 (.cells (AE.c (Z4m l v5)) 146) (tI (AB (Z4m l v5) 2).1) (.cells (AE.c (AB (Z4m l v5) 2).2) 146))
def Z4o:Blk:=.cells (AE.c (AB (Z4m l v5) 2).2) 146
abbrev SE:=[A1.mk 0 [Bm.mk (Ae 0) 1,Bm.mk (Ae 1) (AB (Z4m l v5) 2).1]]
def Z4p:Blk:=.row 2 ((SE l v5).length) (AU A1.c (SE l v5)) 157
abbrev Z4q:AE:=bif bif decide (((W64 (2+(AB (AE.mk l 0) 5).1)):Int)<4) then (bif decide (((W64 (2+(AB (AE.mk l 0) 5).1)):Int)<4) then decide ((0:Int)<(AB v5 3).1) else false) else (bif decide (((W64 (2+(AB (AE.mk l 0) 5).1)):Int)<4) then false else false) then (AB (Z4m l v5) 2).2 else (Z4m l v5)
def Z4r:(List A1):=bif bif decide (((W64 (2+(AB (AE.mk l 0) 5).1)):Int)<4) then (bif decide (((W64 (2+(AB (AE.mk l 0) 5).1)):Int)<4) then decide ((0:Int)<(AB v5 3).1) else false) else (bif decide (((W64 (2+(AB (AE.mk l 0) 5).1)):Int)<4) then false else false) then [A1.mk 0 [Bm.mk (Ae 0) 1,Bm.mk (Ae 1) (AB (Z4m l v5) 2).1]] else ([]:List A1)
def Z4s:CT:=(54,(EO:List Av).map (Bp 1000 14),wrI 14 (.cells (AE.c (Z4q l v5)) 146) (tI (AB (Z4q l v5) 3).1) (.cells (AE.c (AB (Z4q l v5) 3).2) 146))
def Z4t:Blk:=.row 2 (Z4r l v5).length (AU A1.c (Z4r l v5)) 157
abbrev Z4u:AE:=bif decide ((4:Int)<=(W64 (2+(AB (AE.mk l 0) 5).1))) then (AB (Z4q l v5) 3).2 else (Z4q l v5)
abbrev FL:=AB (Z4u l v5) 2
def Z4v:CT:=(54,(GT:List Av).map (Bp 1000 14),wrI 14 (.cells (AE.c (Z4u l v5)) 146) (tI (FL l v5).1) (.cells (AE.c (FL l v5).2) 146))
def Z4w:Blk:=.cells (AE.c (FL l v5).2) 146
abbrev Vi:=[A1.mk 1 [Bm.mk (Ae 0) (FL l v5).1,Bm.mk (Ae 1) (FL l v5).1],A1.mk 1 [Bm.mk (Ae 2) (FL l v5).1,Bm.mk (Ae 3) (FL l v5).1]]
def Z4x:Blk:=.row 2 ((Vi l v5).length) (AU A1.c (Vi l v5)) 157
abbrev Z4y:AE:=bif bif decide ((4:Int)<=(W64 (2+(AB (AE.mk l 0) 5).1))) then (bif decide ((4:Int)<=(W64 (2+(AB (AE.mk l 0) 5).1))) then decide ((0:Int)<(AB (Z4q l v5) 3).1) else false) else (bif decide ((4:Int)<=(W64 (2+(AB (AE.mk l 0) 5).1))) then false else false) then (AB (Z4u l v5) 2).2 else (Z4u l v5)
def Z4z:(List A1):=bif bif decide ((4:Int)<=(W64 (2+(AB (AE.mk l 0) 5).1))) then (bif decide ((4:Int)<=(W64 (2+(AB (AE.mk l 0) 5).1))) then decide ((0:Int)<(AB (Z4q l v5) 3).1) else false) else (bif decide ((4:Int)<=(W64 (2+(AB (AE.mk l 0) 5).1))) then false else false) then [A1.mk 1 [Bm.mk (Ae 0) (AB (Z4u l v5) 2).1,Bm.mk (Ae 1) (AB (Z4u l v5) 2).1],A1.mk 1 [Bm.mk (Ae 2) (AB (Z4u l v5) 2).1,Bm.mk (Ae 3) (AB (Z4u l v5) 2).1]] else (Z4r l v5)
def Z4A:CT:=(54,(GT:List Av).map (Bp 1000 14),wrI 14 (.cells (AE.c (Z4y l v5)) 146) (tI (AB (Z4y l v5) 2).1) (.cells (AE.c (AB (Z4y l v5) 2).2) 146))
def Z4B:Blk:=.row 2 (Z4z l v5).length (AU A1.c (Z4z l v5)) 157
abbrev Z4C:AE:=bif bif decide (((W64 (2+(AB (AE.mk l 0) 5).1)):Int)=6) then decide ((0:Int)<(((Z4z l v5).length:Nat):Int)) else false then (AB (Z4y l v5) 2).2 else (Z4y l v5)
def Z4D:CT:=(54,(EO:List Av).map (Bp 1000 14),wrI 14 (.cells (AE.c (Z4C l v5)) 146) (tI (AB (Z4C l v5) 3).1) (.cells (AE.c (AB (Z4C l v5) 3).2) 146))
abbrev Vl:=[A1.mk (AB (Z4C l v5) 3).1 [Bm.mk (Ae 5) (((Z4z l v5).getD 0 default).Legs.getD 0 default).Group,Bm.mk (Ae 4) (((Z4z l v5).getD 0 default).Legs.getD 1 default).Group]]
def Z4E:Blk:=.row 2 ((Z4z l v5)++(Vl l v5)).length (AU A1.c ((Z4z l v5)++(Vl l v5))) 157
def Z4F:(List A1):=bif bif bif decide (((W64 (2+(AB (AE.mk l 0) 5).1)):Int)=6) then decide ((0:Int)<(((Z4z l v5).length:Nat):Int)) else false then (bif bif decide (((W64 (2+(AB (AE.mk l 0) 5).1)):Int)=6) then decide ((0:Int)<(((Z4z l v5).length:Nat):Int)) else false then decide (((AB (Z4y l v5) 2).1:Int)=1) else false) else (bif bif decide (((W64 (2+(AB (AE.mk l 0) 5).1)):Int)=6) then decide ((0:Int)<(((Z4z l v5).length:Nat):Int)) else false then false else false) then ((Z4z l v5)++[A1.mk (AB (Z4C l v5) 3).1 [Bm.mk (Ae 5) (((Z4z l v5).getD 0 default).Legs.getD 0 default).Group,Bm.mk (Ae 4) (((Z4z l v5).getD 0 default).Legs.getD 1 default).Group]]) else (Z4z l v5)
def Z4G:Blk:=.row 2 (Z4F l v5).length (AU A1.c (Z4F l v5)) 157
def Z4H (name:ByteArray) (v6_1:List A3) (l:(List Int)) (v5:AE):Blk:=.cells [.s name,.own 100000 7 v6_1.length,.own 100001 2 ((SE l v5).length)] 114
def Z4I:Blk:=.cells [.s name,.own 100000 7 v6_1.length,.own 100001 2 ([]:List A1).length] 114
def Z4J (name:ByteArray) (v6_1:List A3) (l:(List Int)) (v5:AE):Blk:=.cells [.s name,.own 100000 7 v6_1.length,.own 100001 2 (Z4r l v5).length] 114
def Z4K (name:ByteArray) (v6_1:List A3) (l:(List Int)) (v5:AE):Blk:=.cells [.s name,.own 100000 7 v6_1.length,.own 100002 2 ((Vi l v5).length)] 114
def Z4L (name:ByteArray) (v6_1:List A3) (l:(List Int)) (v5:AE):Blk:=.cells [.s name,.own 100000 7 v6_1.length,.own 100002 2 (Z4z l v5).length] 114
def Z4M (name:ByteArray) (v6_1:List A3) (l:(List Int)) (v5:AE):Blk:=.cells [.s name,.own 100000 7 v6_1.length,.own 100003 2 ((Z4z l v5)++(Vl l v5)).length] 114
def Cq (l:(List Int)) (name:ByteArray):Nat->List A3->AE->Int->AP
 | 0,_,_,_=>default
 | n0+1,v6_1,v5,v8=>bif decide ((v8:Int)<(W64 (2+(AB (AE.mk l 0) 5).1))) then ((Cq l name n0) (v6_1++[A3.mk (Ae v8) (Ah.mk (bif decide (((AB (AB v5 2).2 3).1:Int)=0) then (Z4c v8 v5).Kind else (bif decide (((AB (AB v5 2).2 3).1:Int)=1) then (Z4f v8 v5).Kind else 1)) (Z4h v5 v8) (bif decide (((AB (AB v5 2).2 3).1:Int)=0) then (Z4c v8 v5).R else (bif decide (((AB (AB v5 2).2 3).1:Int)=1) then (Z4f v8 v5).R else 4))) (AF.mk (W64 (30*v8)) (W64 (10*(AB v5 2).1))) (W64 ((W64 (2*(AB (Z4g v5) 4).1))*(AB (AB (Z4g v5) 4).2 2).1))]) (Z4k v5) (v8+1)) else (AP.mk name v6_1 (Z4F l v5))
def A2 (l:(List Int)) (name:ByteArray):AP:=Cq l name (((W64 (2+(AB (AE.mk l 0) 5).1))-0).toNat+1) ([]:List A3) (AB (AE.mk l 0) 5).2 0
def IJ (l:(List Int)) (name:ByteArray):CT:=(52,[.one (lst 1 eIn l),.one (.s name)],.val [] (.av (.agg (AP.c (A2 l name)))))
abbrev He:=AB (AB v5 2).2 3
abbrev Um:=(v6_1++[A3.mk (Ae v8) (Ah.mk (bif decide (((He v5).1:Int)=0) then (Z4c v8 v5).Kind else (bif decide (((He v5).1:Int)=1) then (Z4f v8 v5).Kind else 1)) (Z4h v5 v8) (bif decide (((He v5).1:Int)=0) then (Z4c v8 v5).R else (bif decide (((He v5).1:Int)=1) then (Z4f v8 v5).R else 4))) (AF.mk (W64 (30*v8)) (W64 (10*(AB v5 2).1))) (W64 ((W64 (2*(AB (Z4g v5) 4).1))*(AB (AB (Z4g v5) 4).2 2).1))])
abbrev zzc26 (v5:AE) (v8:Int):=(bif decide (((He v5).1:Int)=0) then (Z4c v8 v5).Kind else (bif decide (((He v5).1:Int)=1) then (Z4f v8 v5).Kind else 1))
abbrev JV:=(bif decide (((W64 (2+(AB (AE.mk l 0) 5).1)):Int)=6) then decide ((0:Int)<(((Z4z l v5).length:Nat):Int)) else false)
abbrev zzc29 (v5:AE) (v8:Int):=(bif decide (((He v5).1:Int)=0) then (Z4c v8 v5).R else (bif decide (((He v5).1:Int)=1) then (Z4f v8 v5).R else 4))
abbrev FS:Bool:=(decide (((W64 (2+(AB (AE.mk l 0) 5).1)):Int)=6))
abbrev Bx (t_:List (Nat×Tv)):List (Nat×Tv):=(4,tP 4 0)::(5,tP 14 0)::(6,tP 6 0)::t_
abbrev HZ:List (Nat×Tv):=(Bx [(7,Z3W l)])
abbrev Nu:List (Nat×Tv):=(Bx [(7,Z3W l),(8,tI v8),(9,tP 9 0)])
abbrev Iz:Nat×Blk:=(100000,.row 7 v6_1.length (AU A3.c v6_1) 118)
abbrev WI:List Cl:=[.s (Ae v8),.i (zzc26 v5 v8),lst 7 AO.c (Z4h v5 v8),.i (zzc29 v5 v8),.i (W64 (30*v8)),.i (W64 (10*(AB v5 2).1)),.i (W64 ((W64 (2*(AB (Z4g v5) 4).1))*(AB (AB (Z4g v5) 4).2 2).1))]
abbrev PR:List (Nat×Tv):=(Bx [(7,Z3W l),(8,tI 0)])
abbrev MA:List (Nat×Tv):=[(4,tP 4 0),(6,tP 6 0)]
abbrev L4:Nat×Tv:=(7,tI (W64 (2+(HX l).1)))
abbrev O0:Nat×Blk:=(14,.cells (AE.c (Z4k v5)) 146)
abbrev L1:Nat×Blk:=(14,.cells (AE.c v5) 146)
abbrev Ox (name:ByteArray) (v6_1:List A3) (l:List Int) (v5:AE) (t_:List (Nat×Blk)):List (Nat×Blk):=(4,Z3U)::(6,Z4J name v6_1 l v5)::(14,.cells (AE.c (Z4q l v5)) 146)::(100000,Z46 v6_1)::t_
abbrev Ov (name:ByteArray) (v6_1:List A3) (l:List Int) (v5:AE) (t_:List (Nat×Blk)):List (Nat×Blk):=(4,Z3U)::(6,Z4L name v6_1 l v5)::(14,.cells (AE.c (Z4y l v5)) 146)::(100000,Z46 v6_1)::t_
set_option maxHeartbeats 2000000 in
theorem ZL (l:(List Int)) (name:ByteArray) (hl:(l.length:Int)<=9223372036854775807):PuP 52 (IJ l name).2.1 (.av (.agg (AP.c (A2 l name)))):=by
 refine pwf Try.func52 fun W0 M0 => ?_
 have hd0:=Ca hl
 refine AD<|rn ⟨[(0,tO (lst 1 eIn l)),(1,tO (.s name)),(4,tP 4 0)],[(4,Z3U)]⟩<|AD ?_
 refine rn ⟨[(1,tO (.s name)),(4,tP 4 0),(5,tP 14 0)],[(4,Z3U),(14,.cells [lst 1 eIn l,.i 0] 146)]⟩<|AD ?_
 refine rn ⟨(Bx []),[(4,Z3U),(6,.cells [.s name,vN,vN] 114),(14,.cells [lst 1 eIn l,.i 0] 146)]⟩<|AD ?_
 refine rb 18 (Z3V l) (.cells [lst 1 eIn l,.i 0] 146) ⟨(HZ l),[(4,Z3U),(6,.cells [.s name,vN,vN] 114),(14,Z3X l)]⟩ (cWr (BT (AE.mk l 0) 5 au5 au6))<|AJ ?_
 refine AD<|AD ?_
 refine rn ⟨(PR l),[(4,Z3U),(6,.cells [.s name,vN,vN] 114),(14,Z3X l)]⟩<|AX ?_
 refine BL (Cv.trans (wg (⟨(PR l),[(100000,.row 7 0 (fun _ _=>default) 118),(4,Z3U),(6,.cells [.s name,.own 100000 7 0,vN] 114),(14,Z3X l)]⟩) 100000 7 (fun _ _=>default) 118 [] [(6,[1])] hk0) (Cv.trans (BH (⟨(PR l),[(100000,Z43),(4,Z3U),(6,Z44 name),(14,Z3X l)]⟩) lr (.cons ⟨rfl,Ai 118 (B5 7 (fun _ _=>default) A3.c)⟩ (.cons ⟨rfl,.refl _⟩ (.cons ⟨rfl,.cells _ (rr (.cons (.own _ _ au0) (rr .nil)))⟩ lr)))) (Cv.trans (ck (⟨(PR l),[(4,Z3U),(6,Z44 name),(14,Z3X l),(100000,Z43)]⟩)) (Cv.refl _)))) ?_
 refine BN (ι:=Nat×List A3×AE×Int) (fun x=>⟨(Bx [(7,Z3W l),(8,tI x.2.2.2)]),[(4,Z3U),(6,.cells [.s name,.own 100000 7 x.2.1.length,vN] 114),(14,.cells (AE.c x.2.2.1) 146),(100000,.row 7 x.2.1.length (AU A3.c x.2.1) 118)]⟩) (fun x=>((W64 (2+(AB (AE.mk l 0) 5).1))-x.2.2.2).toNat<x.1/\(Bi x.2.2.1/\0<=x.2.2.2/\(x.2.2.2<=(W64 (2+(AB (AE.mk l 0) 5).1))\/x.2.2.2=0)/\(x.2.1.length:Int)<=0+1*(x.2.2.2-0))/\Cq l name x.1 x.2.1 x.2.2.1 x.2.2.2=A2 l name) (fun x=>x.1) ?_ (((W64 (2+(AB (AE.mk l 0) 5).1))-0).toNat+1,([]:List A3),(AB (AE.mk l 0) 5).2,0) ⟨Nat.lt_succ_self _,⟨(by show Bi ((AB (AE.mk l 0) 5).2);repeat (first | with_reducible assumption | exact Ca (C6 hll _) | with_reducible refine BR ?_ | with_reducible refine D3 ?_ | with_reducible refine DK ?_ | with_reducible refine C0 ?_  | with_reducible refine Cg ?_ ?_)),ax0,ax0,ax0⟩,(by simp only [A2,cond_true,cond_false])⟩
 rintro ⟨n0,v6_1,v5,v8⟩ ⟨hm0,hinv0,hF0⟩
 try dsimp only at hm0 hinv0 hF0
 cases n0 with | zero=>exact nz hm0 | succ n0 => ?_
 have hi0_0:=hinv0.1
 refine AD<|AD ?_
 refine rn ⟨(Bx [(7,Z3W l),(8,tI v8),(22,tB (decide ((v8:Int)<(W64 (2+(AB (AE.mk l 0) 5).1)))))]),[(4,Z3U),(6,Z45 name v6_1),(L1 v5),(100000,Z46 v6_1)]⟩ ?_
 refine Aa _ rfl (fun h1 => ?_) (fun h1 => ?_)
 ·have g1:=oT h1
  have k1:=P9 g1 (by decide) (by decide) (by decide) (by decide)
  have kk1:=M5 g1 (by decide) (by decide) (by decide) (by decide)
  refine Ad<|AJ ?_
  refine AD<|AX<|AD ?_
  refine rc [(26,CL v8),(30,(Z47 v5))] [Ay (CL v8).2.1,Ay (Z47 v5).2.1,Bu (KH v5)] ⟨(Nu l v8),[(4,Z3U),(6,Z45 name v6_1),(9,Z48 v8 v5),(14,.cells (AE.c (AB v5 2).2) 146),(100000,Z46 v6_1)]⟩ (.cons (Dv v8 au9) (.cons (cWr (BT v5 2 au5 au6)) .nil)) (.cons rfl (.cons rfl (.cons rfl .nil)))<|AJ<|AD ?_
  refine rn ⟨(Bx [(7,Z3W l),(8,tI v8),(9,tP 9 0),(10,tP 10 0)]),[(4,Z3U),(6,Z45 name v6_1),(9,Z48 v8 v5),(10,Z49 v8 v5),(14,.cells (AE.c (AB v5 2).2) 146),(100000,Z46 v6_1)]⟩ ?_
  refine AD<|AD ?_
  refine rb 37 (Z4a v5) (KQ v5) ⟨(Bx [(7,Z3W l),(8,tI v8),(9,tP 9 0),(10,tP 10 0),(37,tI (GV v5).1)]),[(4,Z3U),(6,Z45 name v6_1),(9,Z48 v8 v5),(10,Z49 v8 v5),(14,Z4b v5),(100000,Z46 v6_1)]⟩ (cWr (BT (AB v5 2).2 3 au5 au6))<|AJ ?_
  refine Bz (⟨(Bx [(L4 l),(8,tI v8),(9,tP 9 0)]),[Ci,(6,.cells [.s name,.own 100000 7 v6_1.length,vN] 114),(9,.cells [.s (Ae v8),.i (bif decide (((GV v5).1:Int)=0) then (Z4c v8 v5).Kind else (bif decide (((GV v5).1:Int)=1) then (Z4f v8 v5).Kind else 1)),lst 7 AO.c (Z4h v5 v8),.i (bif decide (((GV v5).1:Int)=0) then (Z4c v8 v5).R else (bif decide (((GV v5).1:Int)=1) then (Z4f v8 v5).R else 4)),.i (W64 (30*v8)),.i (W64 (10*(AB v5 2).1)),.i 0] 118),(14,.cells (AE.c (Z4g v5)) 146),(Iz v6_1)]⟩) ?_ ?_
  ·refine AX<|AD ?_
   refine rn ⟨(Bx [(7,Z3W l),(8,tI v8),(9,tP 9 0),(10,tP 10 0),(37,tI (GV v5).1),(54,tB (decide (((AB (AB v5 2).2 3).1:Int)=0)))]),[(4,Z3U),(6,Z45 name v6_1),(9,Z48 v8 v5),(10,Z49 v8 v5),(14,Z4b v5),(100000,Z46 v6_1)]⟩ ?_
   refine Aa _ rfl (fun h2 => ?_) (fun h2 => ?_)
   ·refine rs 69 (HJ (Al.mk (W64 ((W64 (30*v8))-6)) (W64 ((W64 (10*(AB v5 2).1))-6)) (W64 ((W64 (30*v8))+6)) (W64 ((W64 (10*(AB v5 2).1))+6)))) ⟨(Nu l v8),[(4,Z3U),(6,Z45 name v6_1),(9,.cells [.s (Ae v8),.i (Z4c v8 v5).Kind,lst 7 AO.c (Z4c v8 v5).Edges,.i (Z4c v8 v5).R,.i (W64 (30*v8)),.i (W64 (10*(AB v5 2).1)),.i 0] 118),(14,Z4b v5),(100000,Z46 v6_1)]⟩ (Lh (Al.mk (W64 ((W64 (30*v8))-6)) (W64 ((W64 (10*(AB v5 2).1))-6)) (W64 ((W64 (30*v8))+6)) (W64 ((W64 (10*(AB v5 2).1))+6))))<|Bg<|AJ ?_
    refine A9 ?_
    first | rfl | (simp only [h2,Z4g,Z4h,cond_true,cond_false] <;> rfl)
   have g2:=oF h2
   refine AD<|rn ⟨(Bx [(7,Z3W l),(8,tI v8),(9,tP 9 0),(10,tP 10 0),(71,tB (decide (((AB (AB v5 2).2 3).1:Int)=1)))]),[(4,Z3U),(6,Z45 name v6_1),(9,Z48 v8 v5),(10,Z49 v8 v5),(14,Z4b v5),(100000,Z46 v6_1)]⟩ ?_
   refine Aa _ rfl (fun h3 => ?_) (fun h3 => ?_)
   ·have g3:=oT h3
    refine dw [] [(75,(Z4d v5)),(77,Kq (AF.mk (W64 (30*v8)) (W64 (10*(AB v5 2).1))) (W64 (4+(AB (GV v5).2 3).1)))] [Ay (Z4d v5).2.1,Bu (.cells (AE.c (AB (AB v5 2).2 3).2) 146),Ay (Kq (AF.mk (W64 (30*v8)) (W64 (10*(AB v5 2).1))) (W64 (4+(AB (AB (AB v5 2).2 3).2 3).1))).2.1] ⟨(Nu l v8),[(4,Z3U),(6,Z45 name v6_1),(9,.cells [.s (Ae v8),.i (Z4f v8 v5).Kind,lst 7 AO.c (Z4f v8 v5).Edges,.i (Z4f v8 v5).R,.i (W64 (30*v8)),.i (W64 (10*(AB v5 2).1)),.i 0] 118),(14,.cells (AE.c (Z4e v5)) 146),(100000,Z46 v6_1)]⟩ (.cons (cWr (BT (AB (AB v5 2).2 3).2 3 au5 au6)) (.cons (T0 (AF.mk (W64 (30*v8)) (W64 (10*(AB v5 2).1))) (W64 (4+(AB (AB (AB v5 2).2 3).2 3).1))) .nil)) (.cons rfl (.cons rfl (.cons rfl .nil)))<|Bg<|AJ ?_
    refine A9 ?_
    first | rfl | (simp only [h2,h3,Z4g,Z4h,cond_true,cond_false] <;> rfl)
   refine rg ⟨(Nu l v8),[(4,Z3U),(6,Z45 name v6_1),(9,.cells [.s (Ae v8),.i 1,.list true 7 1 (Au 7 1 [.i 1,.i (W64 ((W64 (30*v8))-2)),.i (W64 (10*(AB v5 2).1)),.i (W64 ((W64 (30*v8))+2)),.i (W64 (10*(AB v5 2).1)),.i 0,.i 0]),.i 4,.i (W64 (30*v8)),.i (W64 (10*(AB v5 2).1)),.i 0] 118),(14,Z4b v5),(100000,Z46 v6_1)]⟩<|Bg<|AJ ?_
   refine Cv.trans (BH (⟨(Nu l v8),[(4,Z3U),(6,Z45 name v6_1),(9,.cells [.s (Ae v8),.i 1,lst 7 AO.c [AO.mk 1 (AF.mk (W64 ((W64 (30*v8))-2)) (W64 (10*(AB v5 2).1))) (AF.mk (W64 ((W64 (30*v8))+2)) (W64 (10*(AB v5 2).1))) (AF.mk 0 0)],.i 4,.i (W64 (30*v8)),.i (W64 (10*(AB v5 2).1)),.i 0] 118),(14,Z4b v5),(100000,Z46 v6_1)]⟩) lr (.cons ⟨rfl,.refl _⟩ (.cons ⟨rfl,.refl _⟩ (.cons ⟨rfl,.cells _ (rr2 (.cons (Be true (Ar (c:=AO.c) (xs:=([AO.mk 1 (AF.mk (W64 ((W64 (30*v8))-2)) (W64 (10*(AB v5 2).1))) (AF.mk (W64 ((W64 (30*v8))+2)) (W64 (10*(AB v5 2).1))) (AF.mk 0 0)]:List AO)) rfl kr)) (rr (rr (rr (rr .nil))))))⟩ lr)))) (A9 ?_)
   first | rfl | (simp only [h2,h3,Z4g,Z4h,cond_true,cond_false] <;> rfl)
  refine AD<|rc [(80,(Z4i v5)),(83,(Z4j v5))] [Ay (Z4i v5).2.1,Bu (.cells (AE.c (Z4g v5)) 146),Ay (Z4j v5).2.1,Bu (.cells (AE.c (AB (Z4g v5) 4).2) 146)] ⟨(Nu l v8),[(4,Z3U),(6,Z45 name v6_1),(9,.cells (WI v8 v5) 118),(O0 v5),(100000,Z46 v6_1)]⟩ (.cons (cWr (BT (Z4g v5) 4 au5 au6)) (.cons (cWr (BT (AB (Z4g v5) 4).2 2 au5 au6)) .nil)) (.cons rfl (.cons rfl (.cons rfl (.cons rfl .nil))))<|AJ ?_
  refine rc [] [v6_1.length=v6_1.length,v6_1.length+1<=maxLen,(v6_1.length+1)*80<=140737488355328] ⟨(Bx [(7,Z3W l),(8,tI v8)]),[(4,Z3U),(6,.cells [.s name,.own 90 7 (v6_1.length+1),vN] 114),(O0 v5),(90,.row 7 (v6_1.length+1) (fun i_ j_=>if i_<v6_1.length then (AU A3.c v6_1) i_ j_ else (Au 7 1 (WI v8 v5)) (i_-v6_1.length) j_) 118)]⟩ .nil (.cons rfl (.cons au3 (.cons au3 .nil)))<|Bg<|AJ ?_
  refine BL (Cv.trans (BH (⟨(Bx [(7,Z3W l),(8,tI v8)]),[(4,Z3U),(6,.cells [.s name,.own 90 7 (Um v6_1 v8 v5).length,vN] 114),(O0 v5),(90,.row 7 (Um v6_1 v8 v5).length (AU A3.c (Um v6_1 v8 v5)) 118)]⟩) lr (.cons ⟨rfl,.refl _⟩ (.cons ⟨rfl,.cells _ (rr (.cons (.own _ _ au0) (rr .nil)))⟩ (.cons ⟨rfl,.refl _⟩ (.cons ⟨rfl,Ai 118 (BM (A8 7 A3.c v6_1) (Ar (c:=A3.c) (xs:=([A3.mk (Ae v8) (Ah.mk (bif decide (((AB (AB v5 2).2 3).1:Int)=0) then (Z4c v8 v5).Kind else (bif decide (((AB (AB v5 2).2 3).1:Int)=1) then (Z4f v8 v5).Kind else 1)) (Z4h v5 v8) (bif decide (((AB (AB v5 2).2 3).1:Int)=0) then (Z4c v8 v5).R else (bif decide (((AB (AB v5 2).2 3).1:Int)=1) then (Z4f v8 v5).R else 4))) (AF.mk (W64 (30*v8)) (W64 (10*(AB v5 2).1))) (W64 ((W64 (2*(AB (Z4g v5) 4).1))*(AB (AB (Z4g v5) 4).2 2).1))]:List A3)) rfl kr))⟩ .nil))))) (Cv.refl _)) ?_
  refine rg ⟨(Bx [(7,Z3W l),(8,tI (W64 (v8+1)))]),[(4,Z3U),(6,.cells [.s name,.own 90 7 (Um v6_1 v8 v5).length,vN] 114),(O0 v5),(90,.row 7 (Um v6_1 v8 v5).length (AU A3.c (Um v6_1 v8 v5)) 118)]⟩ ?_
  (try rw [(show W64 (v8+1)=v8+1 from Ap oM au8)])
  refine AJ ?_
  refine ⟨(n0,v6_1++[A3.mk (Ae v8) (Ah.mk (bif decide (((AB (AB v5 2).2 3).1:Int)=0) then (Z4c v8 v5).Kind else (bif decide (((AB (AB v5 2).2 3).1:Int)=1) then (Z4f v8 v5).Kind else 1)) (Z4h v5 v8) (bif decide (((AB (AB v5 2).2 3).1:Int)=0) then (Z4c v8 v5).R else (bif decide (((AB (AB v5 2).2 3).1:Int)=1) then (Z4f v8 v5).R else 4))) (AF.mk (W64 (30*v8)) (W64 (10*(AB v5 2).1))) (W64 ((W64 (2*(AB (Z4g v5) 4).1))*(AB (AB (Z4g v5) 4).2 2).1))],Z4k v5,v8+1),⟨?_,?_,(by rw [<- hF0];simp only [Cq,h1,cond_true,cond_false])⟩,Nat.lt_succ_self _,Cv.trans (vr 90 100000 hk0) (A9 kr)⟩
  ·show ((W64 (2+(AB (AE.mk l 0) 5).1))-(v8+1)).toNat<n0;omega
  exact ⟨(by show Bi (Z4k v5);repeat (first | with_reducible assumption | exact Ca (C6 hll _) | with_reducible refine BR ?_ | with_reducible refine D3 ?_ | with_reducible refine DK ?_ | with_reducible refine C0 ?_  | with_reducible refine Cg ?_ ?_)),ax0,ax0,ax0⟩
 have g1:=oF h1
 have k1:=QK g1 (by decide) (by decide) (by decide) (by decide)
 refine BO<|BD ?_
 refine BD<|BP ?_
 refine AJ<|AD<|AD ?_
 refine Bz (⟨(Bx [(L4 l),(98,tB (bif decide (((W64 (2+(AB (AE.mk l 0) 5).1)):Int)<4) then (bif decide (((W64 (2+(AB (AE.mk l 0) 5).1)):Int)<4) then decide ((0:Int)<(AB v5 3).1) else false) else (bif decide (((W64 (2+(AB (AE.mk l 0) 5).1)):Int)<4) then false else false)))]),[Ci,(6,.cells [.s name,.own 100000 7 v6_1.length,vN] 114),(14,.cells (AE.c (Z4m l v5)) 146),(Iz v6_1)]⟩) ?_ ?_
 ·refine Rv (GX l) (fun h2 => ?_) (fun h2 => ?_)
  ·have g2:=oT h2
   refine Ey ?_
   refine IK D6 4 [] [] [] [4,5,6,7,94,95] [4,6,14,100000] [] ⟨(Bx [(7,Z3W l),(94,Z3Y l),(95,Z3Z l)]),[(4,Z3U),(6,Z45 name v6_1),(L1 v5),(100000,Z46 v6_1)]⟩ .nil kr .nil ?_
   refine NU D6 2 true ((GX l)=true) [] [(96,(Z4l v5))] [((GX l)=true)->((GX l)=true),Ay (Z4l v5).2.1,Bu (KH v5)] ⟨(Bx [(7,Z3W l),(94,Z3Y l),(95,Z3Z l),(96,tI (AB v5 3).1)]),[(4,Z3U),(6,Z45 name v6_1),(14,.cells (AE.c (AB v5 3).2) 146),(100000,Z46 v6_1)]⟩ rfl kr h2 (.cons (cWr (BT v5 3 au5 au6)) .nil) kr (.cons id (.cons rfl (.cons rfl .nil))) ?_
   refine Gp D6 [] [] [] [4,5,6,7,98] [4,6,14,100000] [(GX l)=true->((GX l)=true)] ⟨(Bx [(7,Z3W l),(98,tB (bif decide (((W64 (2+(HX l).1)):Int)<4) then decide ((0:Int)<(AB v5 3).1) else false))]),[(4,Z3U),(6,Z45 name v6_1),(14,.cells (AE.c (AB v5 3).2) 146),(100000,Z46 v6_1)]⟩ .nil kr (.cons id .nil)<|AJ ?_
   refine A9 ?_
   first | rfl | (simp only [h2,Z4m,cond_true,cond_false] <;> rfl)
  have g2:=oF h2
  refine Ey ?_
  refine IK D6 4 [] [] [] [4,5,6,7,94,95] [4,6,14,100000] [] ⟨(Bx [(7,Z3W l),(94,Z3Y l),(95,Z3Z l)]),[(4,Z3U),(6,Z45 name v6_1),(L1 v5),(100000,Z46 v6_1)]⟩ .nil kr .nil ?_
  refine NV 2 true ((GX l)=true) ⟨(Bx [(7,Z3W l),(94,Z3Y l),(95,Z3Z l),(96,.grd ((GX l)=true) (.one (.b false)))]),[(4,Z3U),(6,Z45 name v6_1),(L1 v5),(100000,Z46 v6_1)]⟩ rfl kr (fun e=>by rw [h2] at e;cases e) kr kr ?_
  refine Gp D6 [] [] [] [4,5,6,7,98] [4,6,14,100000] [¬ ((GX l)=true),(GX l)=true->((GX l)=true)] ⟨(Bx [(7,Z3W l),(98,tB (bif decide (((W64 (2+(HX l).1)):Int)<4) then false else false))]),[(4,Z3U),(6,Z45 name v6_1),(L1 v5),(100000,Z46 v6_1)]⟩ .nil kr (.cons (fun e=>by rw [h2] at e;cases e) (.cons id .nil))<|AJ ?_
  refine A9 ?_
  first | rfl | (simp only [h2,Z4m,cond_true,cond_false] <;> rfl)
 refine Bz (⟨(Bx [(L4 l)]),[Ci,(6,.cells [.s name,.own 100000 7 v6_1.length,.own 100001 2 (Z4r l v5).length] 114),(14,.cells (AE.c (Z4q l v5)) 146),(Iz v6_1),(100001,.row 2 (Z4r l v5).length (AU A1.c (Z4r l v5)) 157)]⟩) ?_ ?_
 ·refine Aa (bif decide (((W64 (2+(AB (AE.mk l 0) 5).1)):Int)<4) then (bif decide (((W64 (2+(AB (AE.mk l 0) 5).1)):Int)<4) then decide ((0:Int)<(AB v5 3).1) else false) else (bif decide (((W64 (2+(AB (AE.mk l 0) 5).1)):Int)<4) then false else false)) kr (fun h2 => ?_) (fun h2 => ?_)
  ·refine DQ D6 [107] [] [(99,CL 0),(101,CL 1),(103,(Z4n l v5))] [4,5,6,7] [4,6,14,107,100000] [Ay (CL 0).2.1,Ay (CL 1).2.1,Ay (Z4n l v5).2.1,Bu (.cells (AE.c (Z4m l v5)) 146)] ⟨(HZ l),[(4,Z3U),(6,.cells [.s name,.own 100000 7 v6_1.length,.own 107 2 1] 114),(14,Z4o l v5),(107,.row 2 1 (Au 2 1 [.i 0,.list true 2 2 (Au 2 2 [.s (Ae 0),.i 1,.s (Ae 1),.i (AB (Z4m l v5) 2).1])]) 157),(100000,Z46 v6_1)]⟩ (.cons (Dv 0 au9) (.cons (Dv 1 au9) (.cons (cWr (BT (Z4m l v5) 2 au5 au6)) .nil))) kr (.cons rfl (.cons rfl (.cons rfl (.cons rfl .nil))))<|AJ ?_
   refine Cv.trans (BH (⟨(HZ l),[(4,Z3U),(6,.cells [.s name,.own 100000 7 v6_1.length,.own 107 2 ([A1.mk 0 [Bm.mk (Ae 0) 1,Bm.mk (Ae 1) (AB (Z4m l v5) 2).1]].length)] 114),(14,Z4o l v5),(107,Z4p l v5),(100000,Z46 v6_1)]⟩) lr (.cons ⟨rfl,.refl _⟩ (.cons ⟨rfl,.cells _ (rr2 (.cons (.own _ _ au0) .nil))⟩ (.cons ⟨rfl,.refl _⟩ (.cons ⟨rfl,Ai 157 (EQ (c:=A1.c) (xs:=([A1.mk 0 [Bm.mk (Ae 0) 1,Bm.mk (Ae 1) (AB (Z4m l v5) 2).1]]:List A1)) (y:=[[.i 0,.list true 2 2 (Au 2 2 [.s (Ae 0),.i 1,.s (Ae 1),.i (AB (Z4m l v5) 2).1])]]) (z:=[[.i 0,lst 2 Bm.c [Bm.mk (Ae 0) 1,Bm.mk (Ae 1) (AB (Z4m l v5) 2).1]]]) rfl kr kr (.cons (rr (.cons (Be true (Ar (c:=Bm.c) (xs:=([Bm.mk (Ae 0) 1,Bm.mk (Ae 1) (AB (Z4m l v5) 2).1]:List Bm)) rfl kr)) .nil)) .nil))⟩ lr))))) (Cv.trans (vr 107 100001 hk0) (Cv.trans (ck (⟨(HZ l),[(4,Z3U),(6,Z4H name v6_1 l v5),(14,Z4o l v5),(100000,Z46 v6_1),(100001,Z4p l v5)]⟩)) (A9 ?_)))
   first | rfl | (simp only [h2,Z4q,Z4r,cond_true,cond_false] <;> rfl)
  refine Ad<|AJ ?_
  refine Cv.trans (vk [4,5,6,7] [4,6,14,100000]) (Cv.trans (wg (⟨(HZ l),[(100001,.row 2 0 (fun _ _=>default) 157),(4,Z3U),(6,.cells [.s name,.own 100000 7 v6_1.length,.own 100001 2 0] 114),(14,.cells (AE.c (Z4m l v5)) 146),(100000,Z46 v6_1)]⟩) 100001 2 (fun _ _=>default) 157 [] [(6,[2])] hk0) (Cv.trans (BH (⟨(HZ l),[(100001,Z40),(4,Z3U),(6,Z4I name v6_1),(14,.cells (AE.c (Z4m l v5)) 146),(100000,Z46 v6_1)]⟩) lr (.cons ⟨rfl,Ai 157 (B5 2 (fun _ _=>default) A1.c)⟩ (.cons ⟨rfl,.refl _⟩ (.cons ⟨rfl,.cells _ (rr2 (.cons (.own _ _ au0) .nil))⟩ lr)))) (Cv.trans (ck (⟨(HZ l),[(4,Z3U),(6,Z4I name v6_1),(14,.cells (AE.c (Z4m l v5)) 146),(100000,Z46 v6_1),(100001,Z40)]⟩)) (A9 ?_))))
  first | rfl | (simp only [h2,Z4q,Z4r,cond_true,cond_false] <;> rfl)
 refine AD<|AD ?_
 refine Bz (⟨(Bx [(L4 l),(115,tB (bif decide ((4:Int)<=(W64 (2+(AB (AE.mk l 0) 5).1))) then (bif decide ((4:Int)<=(W64 (2+(AB (AE.mk l 0) 5).1))) then decide ((0:Int)<(AB (Z4q l v5) 3).1) else false) else (bif decide ((4:Int)<=(W64 (2+(AB (AE.mk l 0) 5).1))) then false else false)))]),[Ci,(6,.cells [.s name,.own 100000 7 v6_1.length,.own 100001 2 (Z4r l v5).length] 114),(14,.cells (AE.c (Z4u l v5)) 146),(Iz v6_1),(100001,.row 2 (Z4r l v5).length (AU A1.c (Z4r l v5)) 157)]⟩) ?_ ?_
 ·refine Rv (GY l) (fun h2 => ?_) (fun h2 => ?_)
  ·have g2:=oT h2
   refine Ey ?_
   refine IK D6 4 [] [] [] [4,5,6,7,111,112] [4,6,14,100000,100001] [] ⟨(Bx [(7,Z3W l),(111,Z41 l),(112,Z42 l)]),(Ox name v6_1 l v5 [(100001,Z4t l v5)])⟩ .nil kr .nil ?_
   refine NU D6 2 true ((GY l)=true) [] [(113,(Z4s l v5))] [((GY l)=true)->((GY l)=true),Ay (Z4s l v5).2.1,Bu (.cells (AE.c (Z4q l v5)) 146)] ⟨(Bx [(7,Z3W l),(111,Z41 l),(112,Z42 l),(113,tI (AB (Z4q l v5) 3).1)]),[(4,Z3U),(6,Z4J name v6_1 l v5),(14,.cells (AE.c (AB (Z4q l v5) 3).2) 146),(100000,Z46 v6_1),(100001,Z4t l v5)]⟩ rfl kr h2 (.cons (cWr (BT (Z4q l v5) 3 au5 au6)) .nil) kr (.cons id (.cons rfl (.cons rfl .nil))) ?_
   refine Gp D6 [] [] [] [4,5,6,7,115] [4,6,14,100000,100001] [(GY l)=true->((GY l)=true)] ⟨(Bx [(7,Z3W l),(115,tB (bif decide ((4:Int)<=(W64 (2+(HX l).1))) then decide ((0:Int)<(AB (Z4q l v5) 3).1) else false))]),[(4,Z3U),(6,Z4J name v6_1 l v5),(14,.cells (AE.c (AB (Z4q l v5) 3).2) 146),(100000,Z46 v6_1),(100001,Z4t l v5)]⟩ .nil kr (.cons id .nil)<|AJ ?_
   refine A9 ?_
   first | rfl | (simp only [h2,Z4u,cond_true,cond_false] <;> rfl)
  have g2:=oF h2
  refine Ey ?_
  refine IK D6 4 [] [] [] [4,5,6,7,111,112] [4,6,14,100000,100001] [] ⟨(Bx [(7,Z3W l),(111,Z41 l),(112,Z42 l)]),(Ox name v6_1 l v5 [(100001,Z4t l v5)])⟩ .nil kr .nil ?_
  refine NV 2 true ((GY l)=true) ⟨(Bx [(7,Z3W l),(111,Z41 l),(112,Z42 l),(113,.grd ((GY l)=true) (.one (.b false)))]),(Ox name v6_1 l v5 [(100001,Z4t l v5)])⟩ rfl kr (fun e=>by rw [h2] at e;cases e) kr kr ?_
  refine Gp D6 [] [] [] [4,5,6,7,115] [4,6,14,100000,100001] [¬ ((GY l)=true),(GY l)=true->((GY l)=true)] ⟨(Bx [(7,Z3W l),(115,tB (bif decide ((4:Int)<=(W64 (2+(HX l).1))) then false else false))]),(Ox name v6_1 l v5 [(100001,Z4t l v5)])⟩ .nil kr (.cons (fun e=>by rw [h2] at e;cases e) (.cons id .nil))<|AJ ?_
  refine A9 ?_
  first | rfl | (simp only [h2,Z4u,cond_true,cond_false] <;> rfl)
 refine Bz (⟨(Bx [(L4 l)]),[Ci,(6,.cells [.s name,.own 100000 7 v6_1.length,.own 100002 2 (Z4z l v5).length] 114),(14,.cells (AE.c (Z4y l v5)) 146),(Iz v6_1),(100002,.row 2 (Z4z l v5).length (AU A1.c (Z4z l v5)) 157)]⟩) ?_ ?_
 ·refine Aa (bif decide ((4:Int)<=(W64 (2+(AB (AE.mk l 0) 5).1))) then (bif decide ((4:Int)<=(W64 (2+(AB (AE.mk l 0) 5).1))) then decide ((0:Int)<(AB (Z4q l v5) 3).1) else false) else (bif decide ((4:Int)<=(W64 (2+(AB (AE.mk l 0) 5).1))) then false else false)) kr (fun h2 => ?_) (fun h2 => ?_)
  ·refine AD<|rb 117 (Z4v l v5) (.cells (AE.c (Z4u l v5)) 146) ⟨(Bx [(7,Z3W l),(11,tI (FL l v5).1)]),[(4,Z3U),(6,Z4J name v6_1 l v5),(14,Z4w l v5),(100000,Z46 v6_1),(100001,Z4t l v5)]⟩ (cWr (BT (Z4u l v5) 2 au5 au6))<|AJ ?_
   refine DQ D6 [134] [] [(118,CL 0),(121,CL 1),(126,CL 2),(129,CL 3)] [4,5,6,7] [4,6,14,134,100000] [Ay (CL 0).2.1,Ay (CL 1).2.1,Ay (CL 2).2.1,Ay (CL 3).2.1] ⟨(HZ l),[(4,Z3U),(6,.cells [.s name,.own 100000 7 v6_1.length,.own 134 2 2] 114),(14,Z4w l v5),(134,.row 2 2 (Au 2 2 [.i 1,.list true 2 2 (Au 2 2 [.s (Ae 0),.i (FL l v5).1,.s (Ae 1),.i (FL l v5).1]),.i 1,.list true 2 2 (Au 2 2 [.s (Ae 2),.i (FL l v5).1,.s (Ae 3),.i (FL l v5).1])]) 157),(100000,Z46 v6_1)]⟩ (.cons (Dv 0 au9) (.cons (Dv 1 au9) (.cons (Dv 2 au9) (.cons (Dv 3 au9) .nil)))) kr (.cons rfl (.cons rfl (.cons rfl (.cons rfl .nil))))<|AJ ?_
   refine Cv.trans (BH (⟨(HZ l),[(4,Z3U),(6,.cells [.s name,.own 100000 7 v6_1.length,.own 134 2 ([A1.mk 1 [Bm.mk (Ae 0) (AB (Z4u l v5) 2).1,Bm.mk (Ae 1) (AB (Z4u l v5) 2).1],A1.mk 1 [Bm.mk (Ae 2) (AB (Z4u l v5) 2).1,Bm.mk (Ae 3) (AB (Z4u l v5) 2).1]].length)] 114),(14,Z4w l v5),(134,Z4x l v5),(100000,Z46 v6_1)]⟩) lr (.cons ⟨rfl,.refl _⟩ (.cons ⟨rfl,.cells _ (rr2 (.cons (.own _ _ au0) .nil))⟩ (.cons ⟨rfl,.refl _⟩ (.cons ⟨rfl,Ai 157 (EQ (c:=A1.c) (xs:=([A1.mk 1 [Bm.mk (Ae 0) (AB (Z4u l v5) 2).1,Bm.mk (Ae 1) (AB (Z4u l v5) 2).1],A1.mk 1 [Bm.mk (Ae 2) (AB (Z4u l v5) 2).1,Bm.mk (Ae 3) (AB (Z4u l v5) 2).1]]:List A1)) (y:=[[.i 1,.list true 2 2 (Au 2 2 [.s (Ae 0),.i (AB (Z4u l v5) 2).1,.s (Ae 1),.i (AB (Z4u l v5) 2).1])],[.i 1,.list true 2 2 (Au 2 2 [.s (Ae 2),.i (AB (Z4u l v5) 2).1,.s (Ae 3),.i (AB (Z4u l v5) 2).1])]]) (z:=[[.i 1,lst 2 Bm.c [Bm.mk (Ae 0) (AB (Z4u l v5) 2).1,Bm.mk (Ae 1) (AB (Z4u l v5) 2).1]],[.i 1,lst 2 Bm.c [Bm.mk (Ae 2) (AB (Z4u l v5) 2).1,Bm.mk (Ae 3) (AB (Z4u l v5) 2).1]]]) rfl kr kr (.cons (rr (.cons (Be true (Ar (c:=Bm.c) (xs:=([Bm.mk (Ae 0) (AB (Z4u l v5) 2).1,Bm.mk (Ae 1) (AB (Z4u l v5) 2).1]:List Bm)) rfl kr)) .nil)) (.cons (rr (.cons (Be true (Ar (c:=Bm.c) (xs:=([Bm.mk (Ae 2) (AB (Z4u l v5) 2).1,Bm.mk (Ae 3) (AB (Z4u l v5) 2).1]:List Bm)) rfl kr)) .nil)) .nil)))⟩ lr))))) (Cv.trans (vr 134 100002 hk0) (Cv.trans (ck (⟨(HZ l),[(4,Z3U),(6,Z4K name v6_1 l v5),(14,Z4w l v5),(100000,Z46 v6_1),(100002,Z4x l v5)]⟩)) (A9 ?_)))
   first | rfl | (simp only [h2,Z4y,Z4z,cond_true,cond_false] <;> rfl)
  refine Ad<|AJ ?_
  refine Cv.trans (vk [4,5,6,7] [4,6,14,100000,100001]) (Cv.trans (wr (⟨(HZ l),[(4,Z3U),(6,.cells [.s name,.own 100000 7 v6_1.length,.own 100002 2 (Z4r l v5).length] 114),(14,.cells (AE.c (Z4u l v5)) 146),(100000,Z46 v6_1),(100002,Z4t l v5)]⟩) 100001 100002 hk0) (A9 ?_))
  first | rfl | (simp only [h2,Z4y,Z4z,cond_true,cond_false] <;> rfl)
 refine AD<|AD ?_
 refine Bz (⟨(Bx [(148,tB (bif bif decide (((W64 (2+(AB (AE.mk l 0) 5).1)):Int)=6) then decide ((0:Int)<(((Z4z l v5).length:Nat):Int)) else false then (bif bif decide (((W64 (2+(AB (AE.mk l 0) 5).1)):Int)=6) then decide ((0:Int)<(((Z4z l v5).length:Nat):Int)) else false then decide (((AB (Z4y l v5) 2).1:Int)=1) else false) else (bif bif decide (((W64 (2+(AB (AE.mk l 0) 5).1)):Int)=6) then decide ((0:Int)<(((Z4z l v5).length:Nat):Int)) else false then false else false)))]),[Ci,(6,.cells [.s name,.own 100000 7 v6_1.length,.own 100002 2 (Z4z l v5).length] 114),(14,.cells (AE.c (Z4C l v5)) 146),(Iz v6_1),(100002,.row 2 (Z4z l v5).length (AU A1.c (Z4z l v5)) 157)]⟩) ?_ ?_
 ·refine Rv (bif decide (((W64 (2+(AB (AE.mk l 0) 5).1)):Int)=6) then decide ((0:Int)<(((Z4z l v5).length:Nat):Int)) else false) (fun h2 => ?_) (fun h2 => ?_)
  ·have g2:=QW h2
   refine Ey ?_
   refine IK D6 10 [] [] [] [4,5,6,144,145] [4,6,14,100000,100002] [((FS l)=true)->((FS l)=true),((FS l)=true)->((FS l)=true),((FS l)=true)->((FS l)=true),(FS l)=true->((FS l)=true)] ⟨(Bx [(144,tB (JV l v5)),(145,.grd ((JV l v5)=true) KN)]),(Ov name v6_1 l v5 [(100002,Z4B l v5)])⟩ .nil kr (.cons id (.cons id (.cons id (.cons id .nil)))) ?_
   refine NU D6 8 true ((bif decide (((W64 (2+(AB (AE.mk l 0) 5).1)):Int)=6) then decide ((0:Int)<(((Z4z l v5).length:Nat):Int)) else false)=true) [] [(146,(Z4A l v5))] [((bif decide (((W64 (2+(AB (AE.mk l 0) 5).1)):Int)=6) then decide ((0:Int)<(((Z4z l v5).length:Nat):Int)) else false)=true)->((bif decide (((W64 (2+(AB (AE.mk l 0) 5).1)):Int)=6) then decide ((0:Int)<(((Z4z l v5).length:Nat):Int)) else false)=true),Ay (Z4A l v5).2.1,Bu (.cells (AE.c (Z4y l v5)) 146)] ⟨(Bx [(144,tB (JV l v5)),(145,.grd ((JV l v5)=true) KN),(146,tI (AB (Z4y l v5) 2).1)]),[(4,Z3U),(6,Z4L name v6_1 l v5),(14,.cells (AE.c (AB (Z4y l v5) 2).2) 146),(100000,Z46 v6_1),(100002,Z4B l v5)]⟩ rfl kr h2 (.cons (cWr (BT (Z4y l v5) 2 au5 au6)) .nil) kr (.cons id (.cons rfl (.cons rfl .nil))) ?_
   refine Gp D6 [] [] [] [4,5,6,148] [4,6,14,100000,100002] [(bif decide (((W64 (2+(AB (AE.mk l 0) 5).1)):Int)=6) then decide ((0:Int)<(((Z4z l v5).length:Nat):Int)) else false)=true->((bif decide (((W64 (2+(AB (AE.mk l 0) 5).1)):Int)=6) then decide ((0:Int)<(((Z4z l v5).length:Nat):Int)) else false)=true)] ⟨(Bx [(148,tB (bif bif decide (((W64 (2+(HX l).1)):Int)=6) then decide ((0:Int)<(((Z4z l v5).length:Nat):Int)) else false then decide (((AB (Z4y l v5) 2).1:Int)=1) else false))]),[(4,Z3U),(6,Z4L name v6_1 l v5),(14,.cells (AE.c (AB (Z4y l v5) 2).2) 146),(100000,Z46 v6_1),(100002,Z4B l v5)]⟩ .nil kr (.cons id .nil)<|AJ ?_
   refine A9 ?_
   first | rfl | (simp only [h2,Z4C,cond_true,cond_false] <;> rfl)
  refine Ey ?_
  refine IK D6 10 [] [] [] [4,5,6,144,145] [4,6,14,100000,100002] [((FS l)=true)->((FS l)=true),((FS l)=true)->((FS l)=true),((FS l)=true)->((FS l)=true),(FS l)=true->((FS l)=true)] ⟨(Bx [(144,tB (JV l v5)),(145,.grd ((JV l v5)=true) KN)]),(Ov name v6_1 l v5 [(100002,Z4B l v5)])⟩ .nil kr (.cons id (.cons id (.cons id (.cons id .nil)))) ?_
  refine NV 8 true ((bif decide (((W64 (2+(AB (AE.mk l 0) 5).1)):Int)=6) then decide ((0:Int)<(((Z4z l v5).length:Nat):Int)) else false)=true) ⟨(Bx [(144,tB (JV l v5)),(145,.grd ((JV l v5)=true) KN),(146,.grd ((JV l v5)=true) (.one (.b false)))]),(Ov name v6_1 l v5 [(100002,Z4B l v5)])⟩ rfl kr (fun e=>by rw [h2] at e;cases e) kr kr ?_
  refine Gp D6 [] [] [] [4,5,6,148] [4,6,14,100000,100002] [¬ ((bif decide (((W64 (2+(AB (AE.mk l 0) 5).1)):Int)=6) then decide ((0:Int)<(((Z4z l v5).length:Nat):Int)) else false)=true),(bif decide (((W64 (2+(AB (AE.mk l 0) 5).1)):Int)=6) then decide ((0:Int)<(((Z4z l v5).length:Nat):Int)) else false)=true->((bif decide (((W64 (2+(AB (AE.mk l 0) 5).1)):Int)=6) then decide ((0:Int)<(((Z4z l v5).length:Nat):Int)) else false)=true)] ⟨(Bx [(148,tB (bif bif decide (((W64 (2+(HX l).1)):Int)=6) then decide ((0:Int)<(((Z4z l v5).length:Nat):Int)) else false then false else false))]),(Ov name v6_1 l v5 [(100002,Z4B l v5)])⟩ .nil kr (.cons (fun e=>by rw [h2] at e;cases e) (.cons id .nil))<|AJ ?_
  refine A9 ?_
  first | rfl | (simp only [h2,Z4C,cond_true,cond_false] <;> rfl)
 refine Bz (⟨MA,[Ci,(6,.cells [.s name,.own 100000 7 v6_1.length,.own 100003 2 (Z4F l v5).length] 114),(Iz v6_1),(100003,.row 2 (Z4F l v5).length (AU A1.c (Z4F l v5)) 157)]⟩) ?_ ?_
 ·refine Aa (bif bif decide (((W64 (2+(AB (AE.mk l 0) 5).1)):Int)=6) then decide ((0:Int)<(((Z4z l v5).length:Nat):Int)) else false then (bif bif decide (((W64 (2+(AB (AE.mk l 0) 5).1)):Int)=6) then decide ((0:Int)<(((Z4z l v5).length:Nat):Int)) else false then decide (((AB (Z4y l v5) 2).1:Int)=1) else false) else (bif bif decide (((W64 (2+(AB (AE.mk l 0) 5).1)):Int)=6) then decide ((0:Int)<(((Z4z l v5).length:Nat):Int)) else false then false else false)) kr (fun h2 => ?_) (fun h2 => ?_)
  ·refine dw [] [(152,(Z4D l v5)),(153,CL 5),(163,CL 4)] [Ay (Z4D l v5).2.1,Bu (.cells (AE.c (Z4C l v5)) 146),Ay (CL 5).2.1,0<=(0:Int)/\(0:Int)<(((Z4z l v5).length:Nat):Int),0<(Z4z l v5).length,0<=(0:Int)/\(0:Int)<((((Z4z l v5).getD 0 default).Legs.length:Nat):Int),Ay (CL 4).2.1,0<=(0:Int)/\(0:Int)<(((Z4z l v5).length:Nat):Int),0<(Z4z l v5).length,0<=(1:Int)/\(1:Int)<((((Z4z l v5).getD 0 default).Legs.length:Nat):Int),(Z4z l v5).length=(Z4z l v5).length,(Z4z l v5).length+1<=maxLen,((Z4z l v5).length+1)*32<=140737488355328] ⟨MA,[(4,Z3U),(6,.cells [.s name,.own 100000 7 v6_1.length,.own 176 2 ((Z4z l v5).length+1)] 114),(176,.row 2 ((Z4z l v5).length+1) (fun i_ j_=>if i_<(Z4z l v5).length then (AU A1.c (Z4z l v5)) i_ j_ else (Au 2 1 [.i (AB (Z4C l v5) 3).1,.list true 2 2 (Au 2 2 [.s (Ae 5),.i (((Z4z l v5).getD 0 default).Legs.getD 0 default).Group,.s (Ae 4),.i (((Z4z l v5).getD 0 default).Legs.getD 1 default).Group])]) (i_-(Z4z l v5).length) j_) 157),(100000,Z46 v6_1)]⟩ (.cons (cWr (BT (Z4C l v5) 3 au5 au6)) (.cons (Dv 5 au9) (.cons (Dv 4 au9) .nil))) (.cons rfl (.cons rfl (.cons rfl (.cons ⟨by decide,(Gq (by with_reducible assumption))⟩ (.cons (T8 (Gq (by with_reducible assumption))) (.cons (UO (by decide) rfl rfl rfl (Gq (by with_reducible assumption))) (.cons rfl (.cons ⟨by decide,(Gq (by with_reducible assumption))⟩ (.cons (T8 (Gq (by with_reducible assumption))) (.cons (UO (by decide) rfl rfl rfl (Gq (by with_reducible assumption))) (.cons rfl (.cons (Xu (OU rfl)) (.cons (Xv (OU rfl)) .nil)))))))))))))<|AJ ?_
   refine Cv.trans (BH (⟨MA,[(4,Z3U),(6,.cells [.s name,.own 100000 7 v6_1.length,.own 176 2 ((Z4z l v5)++[A1.mk (AB (Z4C l v5) 3).1 [Bm.mk (Ae 5) (((Z4z l v5).getD 0 default).Legs.getD 0 default).Group,Bm.mk (Ae 4) (((Z4z l v5).getD 0 default).Legs.getD 1 default).Group]]).length] 114),(176,Z4E l v5),(100000,Z46 v6_1)]⟩) lr (.cons ⟨rfl,.refl _⟩ (.cons ⟨rfl,.cells _ (rr2 (.cons (.own _ _ au0) .nil))⟩ (.cons ⟨rfl,Ai 157 (BM (A8 2 A1.c (Z4z l v5)) (EQ (c:=A1.c) (xs:=([A1.mk (AB (Z4C l v5) 3).1 [Bm.mk (Ae 5) (((Z4z l v5).getD 0 default).Legs.getD 0 default).Group,Bm.mk (Ae 4) (((Z4z l v5).getD 0 default).Legs.getD 1 default).Group]]:List A1)) (y:=[[.i (AB (Z4C l v5) 3).1,.list true 2 2 (Au 2 2 [.s (Ae 5),.i (((Z4z l v5).getD 0 default).Legs.getD 0 default).Group,.s (Ae 4),.i (((Z4z l v5).getD 0 default).Legs.getD 1 default).Group])]]) (z:=[[.i (AB (Z4C l v5) 3).1,lst 2 Bm.c [Bm.mk (Ae 5) (((Z4z l v5).getD 0 default).Legs.getD 0 default).Group,Bm.mk (Ae 4) (((Z4z l v5).getD 0 default).Legs.getD 1 default).Group]]]) rfl kr kr (.cons (rr (.cons (Be true (Ar (c:=Bm.c) (xs:=([Bm.mk (Ae 5) (((Z4z l v5).getD 0 default).Legs.getD 0 default).Group,Bm.mk (Ae 4) (((Z4z l v5).getD 0 default).Legs.getD 1 default).Group]:List Bm)) rfl kr)) .nil)) .nil)))⟩ lr)))) (Cv.trans (vr 176 100003 hk0) (Cv.trans (ck (⟨MA,[(4,Z3U),(6,Z4M name v6_1 l v5),(100000,Z46 v6_1),(100003,Z4E l v5)]⟩)) (A9 ?_)))
   first | rfl | (simp only [h2,Z4F,cond_true,cond_false] <;> rfl)
  refine Ad<|AJ ?_
  refine Cv.trans (vk [4,6] [4,6,100000,100002]) (Cv.trans (wr (⟨MA,[(4,Z3U),(6,.cells [.s name,.own 100000 7 v6_1.length,.own 100003 2 (Z4z l v5).length] 114),(100000,Z46 v6_1),(100003,Z4B l v5)]⟩) 100002 100003 hk0) (A9 ?_))
  first | rfl | (simp only [h2,Z4F,cond_true,cond_false] <;> rfl)
 refine AD<|rn ⟨[(4,tP 4 0)],[(4,.cells [.s name,.own 100000 7 v6_1.length,.own 100003 2 (Z4F l v5).length] 114),(100000,Z46 v6_1),(100003,Z4G l v5)]⟩<|Af ?_
 exact yl (Cv.trans (vf 100000 7 v6_1.length (AU A3.c v6_1) 118 hk0 (.cons ⟨rfl,rfl⟩ .nil)) (Cv.trans (vf 100003 2 (Z4F l v5).length (AU A1.c (Z4F l v5)) 157 hk0 (.cons ⟨rfl,rfl⟩ .nil)) (Cv.refl _))) (.av (.agg [.s name,lst 7 A3.c v6_1,lst 2 A1.c (Z4F l v5)])) (An (by rw [<- hF0];first | (simp only [Cq,h1,cond_true,cond_false] <;> rfl)))
theorem RH (l:(List Int)) (name:ByteArray) (hl:(l.length:Int)<=9223372036854775807):OKc (IJ l name):=cPu<|ZL l name hl
def IP (x0:AF) (x1:AF):AO:=AO.mk 1 x0 x1 (AF.mk 0 0)
def E6:CT:=(80,[.agg (AF.c x0),.agg (AF.c x1)],.val [] (.av (.agg (AO.c (IP x0 x1)))))
theorem ZC (x0:AF) (x1:AF):PuP 80 (E6 x0 x1).2.1 (.av (.agg (AO.c (IP x0 x1)))):=by
 refine pwf Try.func80 fun W0 M0 => ?_
 refine AD<|rn ⟨KU,(V4 x0 x1)⟩<|AD ?_
 refine rn ⟨[(4,tP 4 0)],[(4,.cells (O8 x0 x1) 133)]⟩<|Af ?_
 exact xl (.av (.agg (O8 x0 x1))) (An (by rfl))
theorem Ji (x0:AF) (x1:AF):OKc (E6 x0 x1):=cPu<|ZC x0 x1
def Z4N:Blk:=.cells [.i 0,vN,.i 0] 29
def Z4O:Blk:=.cells [.i 2,vN,.i 0] 29
def Z4P:Blk:=.cells [.i (W64 (r.X1-radius)),.i (W64 (r.Y0+radius)),.i (W64 (r.X1-radius)),.i (W64 (r.Y1-radius)),.i (W64 (r.X0+radius)),.i (W64 (r.Y1-radius)),.i (W64 (r.X0+radius)),.i (W64 (r.Y0+radius))] 179
def Z4Q:AO:=ET (AF.mk (W64 (r.X1-radius)) (W64 (r.Y0+radius))) radius 3 2
def Z4R:AO:=ET (AF.mk (W64 (r.X1-radius)) (W64 (r.Y1-radius))) radius 4 2
def Z4S:Blk:=.cells (AO.c (Z4R r radius)) 133
def Z4T:AO:=IP (Z4Q r radius).B (Z4R r radius).A
def Z4U:Blk:=.cells [.i 2,.own 77 7 ([Z4Q r radius,Z4T r radius].length),.i 0] 29
def Z4V:Blk:=.row 7 ([Z4Q r radius,Z4T r radius].length) (AU AO.c [Z4Q r radius,Z4T r radius]) 133
def Z4W:Blk:=.cells [.i 2,.own 100000 7 ([Z4Q r radius,Z4T r radius].length),.i 0] 29
def Z4X:AO:=ET (AF.mk (W64 (r.X0+radius)) (W64 (r.Y1-radius))) radius 5 2
def Z4Y:Blk:=.cells (AO.c (Z4X r radius)) 133
def Z4Z:AO:=IP (Z4R r radius).B (Z4X r radius).A
def Z50:Blk:=.cells [.i 2,.own 77 7 ([Z4Q r radius,Z4T r radius]++[Z4R r radius,Z4Z r radius]).length,.i 0] 29
def Z51:Blk:=.row 7 ([Z4Q r radius,Z4T r radius]++[Z4R r radius,Z4Z r radius]).length (AU AO.c ([Z4Q r radius,Z4T r radius]++[Z4R r radius,Z4Z r radius])) 133
def Z52:Blk:=.cells [.i 2,.own 100001 7 ([Z4Q r radius,Z4T r radius]++[Z4R r radius,Z4Z r radius]).length,.i 0] 29
def Z53:AO:=ET (AF.mk (W64 (r.X0+radius)) (W64 (r.Y0+radius))) radius 6 2
def Z54:Blk:=.cells (AO.c (Z53 r radius)) 133
def Z55:AO:=IP (Z4X r radius).B (Z53 r radius).A
def Z56:Blk:=.cells [.i 2,.own 77 7 (([Z4Q r radius,Z4T r radius]++[Z4R r radius,Z4Z r radius])++[Z4X r radius,Z55 r radius]).length,.i 0] 29
abbrev V6:=AU AO.c (([Z4Q r radius,Z4T r radius]++[Z4R r radius,Z4Z r radius])++[Z4X r radius,Z55 r radius])
def Z57:Blk:=.row 7 (([Z4Q r radius,Z4T r radius]++[Z4R r radius,Z4Z r radius])++[Z4X r radius,Z55 r radius]).length (V6 r radius) 133
def Z58:Blk:=.cells [.i 2,.own 100002 7 (([Z4Q r radius,Z4T r radius]++[Z4R r radius,Z4Z r radius])++[Z4X r radius,Z55 r radius]).length,.i 0] 29
def Z59:AO:=ET (AF.mk (W64 (r.X1-radius)) (W64 (r.Y0+radius))) radius 7 2
def Z5a:AO:=IP (Z53 r radius).B (Z59 r radius).A
def Z5b:Blk:=.cells [.i 2,.own 77 7 ((([Z4Q r radius,Z4T r radius]++[Z4R r radius,Z4Z r radius])++[Z4X r radius,Z55 r radius])++[Z53 r radius,Z5a r radius]).length,.i 0] 29
def Z5c:Blk:=.row 7 ((([Z4Q r radius,Z4T r radius]++[Z4R r radius,Z4Z r radius])++[Z4X r radius,Z55 r radius])++[Z53 r radius,Z5a r radius]).length (AU AO.c ((([Z4Q r radius,Z4T r radius]++[Z4R r radius,Z4Z r radius])++[Z4X r radius,Z55 r radius])++[Z53 r radius,Z5a r radius])) 133
def Z5d:Blk:=.cells [.i 2,.own 100003 7 ((([Z4Q r radius,Z4T r radius]++[Z4R r radius,Z4Z r radius])++[Z4X r radius,Z55 r radius])++[Z53 r radius,Z5a r radius]).length,.i 0] 29
def Fe (r:Al) (radius:Int):Ah:=Ah.mk 2 ((([Z4Q r radius,Z4T r radius]++[Z4R r radius,Z4Z r radius])++[Z4X r radius,Z55 r radius])++[Z53 r radius,Z5a r radius]) 0
def Kn:CT:=(55,[.agg (Al.c r),.one (.i radius)],.val [] (.av (.agg (Ah.c (Fe r radius)))))
abbrev DM (t_:List (Nat×Tv)):List (Nat×Tv):=(1,tI radius)::(4,tP 4 0)::(5,tP 5 0)::(6,tP 6 0)::t_
abbrev PF:List (Nat×Tv):=(DM radius [(7,tI 1)])
abbrev PE:List (Nat×Tv):=(DM radius [(7,tI 2)])
abbrev PD:List (Nat×Tv):=(DM radius [(7,tI 3)])
abbrev SD:List (Nat×Tv):=(DM radius [(7,tI 0)])
theorem VB (r:Al) (radius:Int):PuP 55 (Kn r radius).2.1 (.av (.agg (Ah.c (Fe r radius)))):=by
 refine pwf Try.func55 fun W0 M0 => ?_
 refine AD<|rn ⟨[(1,tI radius),(2,tP 2 0),(4,tP 4 0)],[(2,.cells (Al.c r) 76),(4,Z4N)]⟩<|AD ?_
 refine rn ⟨[(1,tI radius),(2,tP 2 0),(4,tP 4 0),(5,tP 5 0)],[(2,.cells (Al.c r) 76),(4,Z4N),(5,Z4O)]⟩<|AD ?_
 refine rn ⟨(DM radius []),[(4,Z4N),(5,Z4O),(6,Z4P r radius)]⟩ ?_
 refine AD<|AD ?_
 refine rn ⟨(SD radius),[(4,Z4N),(5,Z4O),(6,Z4P r radius)]⟩<|AX ?_
 refine Ex 5 ?_
 refine C8<|AD<|AD ?_
 refine rn ⟨(DM radius [(7,tI 0),(49,tB true)]),[(4,Z4N),(5,Z4O),(6,Z4P r radius)]⟩ ?_
 refine DR kr<|Ad ?_
 refine AJ<|AD ?_
 refine AX<|AD ?_
 refine rc [(58,B7 (AF.mk (W64 (r.X1-radius)) (W64 (r.Y0+radius))) radius 3 2)] [0<=(0:Int)/\(0:Int)<(4:Int),Ay (B7 (AF.mk (W64 (r.X1-radius)) (W64 (r.Y0+radius))) radius 3 2).2.1] ⟨(DM radius [(7,tI 0),(8,tP 8 0)]),[(4,Z4N),(5,Z4O),(6,Z4P r radius),(8,.cells (AO.c (Z4Q r radius)) 133)]⟩ (.cons (DX (AF.mk (W64 (r.X1-radius)) (W64 (r.Y0+radius))) radius 3 2) .nil) (.cons (by decide) (.cons rfl .nil))<|AJ<|AD ?_
 refine rc [(67,B7 (AF.mk (W64 (r.X1-radius)) (W64 (r.Y1-radius))) radius 4 2)] [(4:Int)≠0,0<=(1:Int)/\(1:Int)<(4:Int),Ay (B7 (AF.mk (W64 (r.X1-radius)) (W64 (r.Y1-radius))) radius 4 2).2.1] ⟨(DM radius [(7,tI 0),(8,tP 8 0),(9,tP 9 0)]),[(4,Z4N),(5,Z4O),(6,Z4P r radius),(8,.cells (AO.c (Z4Q r radius)) 133),(9,Z4S r radius)]⟩ (.cons (DX (AF.mk (W64 (r.X1-radius)) (W64 (r.Y1-radius))) radius 4 2) .nil) (.cons au15 (.cons (by decide) (.cons rfl .nil)))<|AJ ?_
 refine dw [] [(75,E6 (Z4Q r radius).B (Z4R r radius).A)] [Ay (E6 (Z4Q r radius).B (Z4R r radius).A).2.1,2<=maxLen,2*56<=140737488355328] ⟨(SD radius),[(4,Z4N),(5,.cells [.i 2,.own 77 7 2,.i 0] 29),(6,Z4P r radius),(77,.row 7 2 (Au 7 2 [.i (Z4Q r radius).Kind,.i (Z4Q r radius).A.X,.i (Z4Q r radius).A.Y,.i (Z4Q r radius).B.X,.i (Z4Q r radius).B.Y,.i (Z4Q r radius).C.X,.i (Z4Q r radius).C.Y,.i (Z4T r radius).Kind,.i (Z4T r radius).A.X,.i (Z4T r radius).A.Y,.i (Z4T r radius).B.X,.i (Z4T r radius).B.Y,.i (Z4T r radius).C.X,.i (Z4T r radius).C.Y]) 133)]⟩ (.cons (Ji (Z4Q r radius).B (Z4R r radius).A) .nil) (.cons rfl (.cons au3 (.cons au3 .nil)))<|Bg<|AJ ?_
 refine BL (Cv.trans (BH (⟨(SD radius),[(4,Z4N),(5,Z4U r radius),(6,Z4P r radius),(77,Z4V r radius)]⟩) lr (.cons ⟨rfl,.refl _⟩ (.cons ⟨rfl,.cells _ (rr (.cons (.own _ _ au0) (rr .nil)))⟩ (.cons ⟨rfl,.refl _⟩ (.cons ⟨rfl,Ai 133 (Ar (c:=AO.c) (xs:=([Z4Q r radius,Z4T r radius]:List AO)) rfl kr)⟩ .nil))))) (Cv.refl _)) ?_
 refine rn ⟨(PF radius),[(4,Z4N),(5,Z4U r radius),(6,Z4P r radius),(77,Z4V r radius)]⟩ ?_
 refine C8 ?_
 refine BL (Cv.trans (wr (⟨(PF radius),[(4,Z4N),(5,Z4W r radius),(6,Z4P r radius),(100000,Z4V r radius)]⟩) 77 100000 hk0) (Cv.refl _))<|AD<|AD ?_
 refine rn ⟨(DM radius [(7,tI 1),(49,tB true)]),[(4,Z4N),(5,Z4W r radius),(6,Z4P r radius),(100000,Z4V r radius)]⟩ ?_
 refine DR kr<|Ad ?_
 refine AJ<|AD ?_
 refine AX<|AD ?_
 refine rc [(58,B7 (AF.mk (W64 (r.X1-radius)) (W64 (r.Y1-radius))) radius 4 2)] [0<=(1:Int)/\(1:Int)<(4:Int),Ay (B7 (AF.mk (W64 (r.X1-radius)) (W64 (r.Y1-radius))) radius 4 2).2.1] ⟨(DM radius [(7,tI 1),(8,tP 8 0)]),[(4,Z4N),(5,Z4W r radius),(6,Z4P r radius),(8,Z4S r radius),(100000,Z4V r radius)]⟩ (.cons (DX (AF.mk (W64 (r.X1-radius)) (W64 (r.Y1-radius))) radius 4 2) .nil) (.cons (by decide) (.cons rfl .nil))<|AJ<|AD ?_
 refine rc [(67,B7 (AF.mk (W64 (r.X0+radius)) (W64 (r.Y1-radius))) radius 5 2)] [(4:Int)≠0,0<=(2:Int)/\(2:Int)<(4:Int),Ay (B7 (AF.mk (W64 (r.X0+radius)) (W64 (r.Y1-radius))) radius 5 2).2.1] ⟨(DM radius [(7,tI 1),(8,tP 8 0),(9,tP 9 0)]),[(4,Z4N),(5,Z4W r radius),(6,Z4P r radius),(8,Z4S r radius),(9,Z4Y r radius),(100000,Z4V r radius)]⟩ (.cons (DX (AF.mk (W64 (r.X0+radius)) (W64 (r.Y1-radius))) radius 5 2) .nil) (.cons au15 (.cons (by decide) (.cons rfl .nil)))<|AJ ?_
 refine dw [] [(75,E6 (Z4R r radius).B (Z4X r radius).A)] [Ay (E6 (Z4R r radius).B (Z4X r radius).A).2.1,[Z4Q r radius,Z4T r radius].length=[Z4Q r radius,Z4T r radius].length,([Z4Q r radius,Z4T r radius].length)+2<=maxLen,(([Z4Q r radius,Z4T r radius].length)+2)*56<=140737488355328] ⟨(PF radius),[(4,Z4N),(5,.cells [.i 2,.own 77 7 (([Z4Q r radius,Z4T r radius].length)+2),.i 0] 29),(6,Z4P r radius),(77,.row 7 (([Z4Q r radius,Z4T r radius].length)+2) (fun i_ j_=>if i_<([Z4Q r radius,Z4T r radius].length) then (AU AO.c [Z4Q r radius,Z4T r radius]) i_ j_ else (Au 7 2 [.i (Z4R r radius).Kind,.i (Z4R r radius).A.X,.i (Z4R r radius).A.Y,.i (Z4R r radius).B.X,.i (Z4R r radius).B.Y,.i (Z4R r radius).C.X,.i (Z4R r radius).C.Y,.i (Z4Z r radius).Kind,.i (Z4Z r radius).A.X,.i (Z4Z r radius).A.Y,.i (Z4Z r radius).B.X,.i (Z4Z r radius).B.Y,.i (Z4Z r radius).C.X,.i (Z4Z r radius).C.Y]) (i_-([Z4Q r radius,Z4T r radius].length)) j_) 133)]⟩ (.cons (Ji (Z4R r radius).B (Z4X r radius).A) .nil) (.cons rfl (.cons rfl (.cons au3 (.cons au3 .nil))))<|Bg<|AJ ?_
 refine BL (Cv.trans (BH (⟨(PF radius),[(4,Z4N),(5,Z50 r radius),(6,Z4P r radius),(77,Z51 r radius)]⟩) lr (.cons ⟨rfl,.refl _⟩ (.cons ⟨rfl,.cells _ (rr (.cons (.own _ _ au0) (rr .nil)))⟩ (.cons ⟨rfl,.refl _⟩ (.cons ⟨rfl,Ai 133 (BM (A8 7 AO.c [Z4Q r radius,Z4T r radius]) (Ar (c:=AO.c) (xs:=([Z4R r radius,Z4Z r radius]:List AO)) rfl kr))⟩ .nil))))) (Cv.refl _)) ?_
 refine rn ⟨(PE radius),[(4,Z4N),(5,Z50 r radius),(6,Z4P r radius),(77,Z51 r radius)]⟩ ?_
 refine C8 ?_
 refine BL (Cv.trans (wr (⟨(PE radius),[(4,Z4N),(5,Z52 r radius),(6,Z4P r radius),(100001,Z51 r radius)]⟩) 77 100001 hk0) (Cv.refl _))<|AD<|AD ?_
 refine rn ⟨(DM radius [(7,tI 2),(49,tB true)]),[(4,Z4N),(5,Z52 r radius),(6,Z4P r radius),(100001,Z51 r radius)]⟩ ?_
 refine DR kr<|Ad ?_
 refine AJ<|AD ?_
 refine AX<|AD ?_
 refine rc [(58,B7 (AF.mk (W64 (r.X0+radius)) (W64 (r.Y1-radius))) radius 5 2)] [0<=(2:Int)/\(2:Int)<(4:Int),Ay (B7 (AF.mk (W64 (r.X0+radius)) (W64 (r.Y1-radius))) radius 5 2).2.1] ⟨(DM radius [(7,tI 2),(8,tP 8 0)]),[(4,Z4N),(5,Z52 r radius),(6,Z4P r radius),(8,Z4Y r radius),(100001,Z51 r radius)]⟩ (.cons (DX (AF.mk (W64 (r.X0+radius)) (W64 (r.Y1-radius))) radius 5 2) .nil) (.cons (by decide) (.cons rfl .nil))<|AJ<|AD ?_
 refine rc [(67,B7 (AF.mk (W64 (r.X0+radius)) (W64 (r.Y0+radius))) radius 6 2)] [(4:Int)≠0,0<=(3:Int)/\(3:Int)<(4:Int),Ay (B7 (AF.mk (W64 (r.X0+radius)) (W64 (r.Y0+radius))) radius 6 2).2.1] ⟨(DM radius [(7,tI 2),(8,tP 8 0),(9,tP 9 0)]),[(4,Z4N),(5,Z52 r radius),(6,Z4P r radius),(8,Z4Y r radius),(9,Z54 r radius),(100001,Z51 r radius)]⟩ (.cons (DX (AF.mk (W64 (r.X0+radius)) (W64 (r.Y0+radius))) radius 6 2) .nil) (.cons au15 (.cons (by decide) (.cons rfl .nil)))<|AJ ?_
 refine dw [] [(75,E6 (Z4X r radius).B (Z53 r radius).A)] [Ay (E6 (Z4X r radius).B (Z53 r radius).A).2.1,([Z4Q r radius,Z4T r radius]++[Z4R r radius,Z4Z r radius]).length=([Z4Q r radius,Z4T r radius]++[Z4R r radius,Z4Z r radius]).length,([Z4Q r radius,Z4T r radius]++[Z4R r radius,Z4Z r radius]).length+2<=maxLen,(([Z4Q r radius,Z4T r radius]++[Z4R r radius,Z4Z r radius]).length+2)*56<=140737488355328] ⟨(PE radius),[(4,Z4N),(5,.cells [.i 2,.own 77 7 (([Z4Q r radius,Z4T r radius]++[Z4R r radius,Z4Z r radius]).length+2),.i 0] 29),(6,Z4P r radius),(77,.row 7 (([Z4Q r radius,Z4T r radius]++[Z4R r radius,Z4Z r radius]).length+2) (fun i_ j_=>if i_<([Z4Q r radius,Z4T r radius]++[Z4R r radius,Z4Z r radius]).length then (AU AO.c ([Z4Q r radius,Z4T r radius]++[Z4R r radius,Z4Z r radius])) i_ j_ else (Au 7 2 [.i (Z4X r radius).Kind,.i (Z4X r radius).A.X,.i (Z4X r radius).A.Y,.i (Z4X r radius).B.X,.i (Z4X r radius).B.Y,.i (Z4X r radius).C.X,.i (Z4X r radius).C.Y,.i (Z55 r radius).Kind,.i (Z55 r radius).A.X,.i (Z55 r radius).A.Y,.i (Z55 r radius).B.X,.i (Z55 r radius).B.Y,.i (Z55 r radius).C.X,.i (Z55 r radius).C.Y]) (i_-([Z4Q r radius,Z4T r radius]++[Z4R r radius,Z4Z r radius]).length) j_) 133)]⟩ (.cons (Ji (Z4X r radius).B (Z53 r radius).A) .nil) (.cons rfl (.cons rfl (.cons au3 (.cons au3 .nil))))<|Bg<|AJ ?_
 refine BL (Cv.trans (BH (⟨(PE radius),[(4,Z4N),(5,Z56 r radius),(6,Z4P r radius),(77,Z57 r radius)]⟩) lr (.cons ⟨rfl,.refl _⟩ (.cons ⟨rfl,.cells _ (rr (.cons (.own _ _ au0) (rr .nil)))⟩ (.cons ⟨rfl,.refl _⟩ (.cons ⟨rfl,Ai 133 (BM (A8 7 AO.c ([Z4Q r radius,Z4T r radius]++[Z4R r radius,Z4Z r radius])) (Ar (c:=AO.c) (xs:=([Z4X r radius,Z55 r radius]:List AO)) rfl kr))⟩ .nil))))) (Cv.refl _)) ?_
 refine rn ⟨(PD radius),[(4,Z4N),(5,Z56 r radius),(6,Z4P r radius),(77,Z57 r radius)]⟩ ?_
 refine C8 ?_
 refine BL (Cv.trans (wr (⟨(PD radius),[(4,Z4N),(5,Z58 r radius),(6,Z4P r radius),(100002,Z57 r radius)]⟩) 77 100002 hk0) (Cv.refl _))<|AD<|AD ?_
 refine rn ⟨(DM radius [(7,tI 3),(49,tB true)]),[(4,Z4N),(5,Z58 r radius),(6,Z4P r radius),(100002,Z57 r radius)]⟩ ?_
 refine DR kr<|Ad ?_
 refine AJ<|AD ?_
 refine AX<|AD ?_
 refine rc [(58,B7 (AF.mk (W64 (r.X0+radius)) (W64 (r.Y0+radius))) radius 6 2)] [0<=(3:Int)/\(3:Int)<(4:Int),Ay (B7 (AF.mk (W64 (r.X0+radius)) (W64 (r.Y0+radius))) radius 6 2).2.1] ⟨(DM radius [(7,tI 3),(8,tP 8 0)]),[(4,Z4N),(5,Z58 r radius),(6,Z4P r radius),(8,Z54 r radius),(100002,Z57 r radius)]⟩ (.cons (DX (AF.mk (W64 (r.X0+radius)) (W64 (r.Y0+radius))) radius 6 2) .nil) (.cons (by decide) (.cons rfl .nil))<|AJ<|AD ?_
 refine rc [(67,B7 (AF.mk (W64 (r.X1-radius)) (W64 (r.Y0+radius))) radius 7 2)] [(4:Int)≠0,0<=(0:Int)/\(0:Int)<(4:Int),Ay (B7 (AF.mk (W64 (r.X1-radius)) (W64 (r.Y0+radius))) radius 7 2).2.1] ⟨(DM radius [(7,tI 3),(8,tP 8 0),(9,tP 9 0)]),[(4,Z4N),(5,Z58 r radius),(6,Z4P r radius),(8,Z54 r radius),(9,.cells (AO.c (Z59 r radius)) 133),(100002,Z57 r radius)]⟩ (.cons (DX (AF.mk (W64 (r.X1-radius)) (W64 (r.Y0+radius))) radius 7 2) .nil) (.cons au15 (.cons (by decide) (.cons rfl .nil)))<|AJ ?_
 refine dw [] [(75,E6 (Z53 r radius).B (Z59 r radius).A)] [Ay (E6 (Z53 r radius).B (Z59 r radius).A).2.1,(([Z4Q r radius,Z4T r radius]++[Z4R r radius,Z4Z r radius])++[Z4X r radius,Z55 r radius]).length=(([Z4Q r radius,Z4T r radius]++[Z4R r radius,Z4Z r radius])++[Z4X r radius,Z55 r radius]).length,(([Z4Q r radius,Z4T r radius]++[Z4R r radius,Z4Z r radius])++[Z4X r radius,Z55 r radius]).length+2<=maxLen,((([Z4Q r radius,Z4T r radius]++[Z4R r radius,Z4Z r radius])++[Z4X r radius,Z55 r radius]).length+2)*56<=140737488355328] ⟨(PD radius),[(4,Z4N),(5,.cells [.i 2,.own 77 7 ((([Z4Q r radius,Z4T r radius]++[Z4R r radius,Z4Z r radius])++[Z4X r radius,Z55 r radius]).length+2),.i 0] 29),(6,Z4P r radius),(77,.row 7 ((([Z4Q r radius,Z4T r radius]++[Z4R r radius,Z4Z r radius])++[Z4X r radius,Z55 r radius]).length+2) (fun i_ j_=>if i_<(([Z4Q r radius,Z4T r radius]++[Z4R r radius,Z4Z r radius])++[Z4X r radius,Z55 r radius]).length then (V6 r radius) i_ j_ else (Au 7 2 [.i (Z53 r radius).Kind,.i (Z53 r radius).A.X,.i (Z53 r radius).A.Y,.i (Z53 r radius).B.X,.i (Z53 r radius).B.Y,.i (Z53 r radius).C.X,.i (Z53 r radius).C.Y,.i (Z5a r radius).Kind,.i (Z5a r radius).A.X,.i (Z5a r radius).A.Y,.i (Z5a r radius).B.X,.i (Z5a r radius).B.Y,.i (Z5a r radius).C.X,.i (Z5a r radius).C.Y]) (i_-(([Z4Q r radius,Z4T r radius]++[Z4R r radius,Z4Z r radius])++[Z4X r radius,Z55 r radius]).length) j_) 133)]⟩ (.cons (Ji (Z53 r radius).B (Z59 r radius).A) .nil) (.cons rfl (.cons rfl (.cons au3 (.cons au3 .nil))))<|Bg<|AJ ?_
 refine BL (Cv.trans (BH (⟨(PD radius),[(4,Z4N),(5,Z5b r radius),(6,Z4P r radius),(77,Z5c r radius)]⟩) lr (.cons ⟨rfl,.refl _⟩ (.cons ⟨rfl,.cells _ (rr (.cons (.own _ _ au0) (rr .nil)))⟩ (.cons ⟨rfl,.refl _⟩ (.cons ⟨rfl,Ai 133 (BM (A8 7 AO.c (([Z4Q r radius,Z4T r radius]++[Z4R r radius,Z4Z r radius])++[Z4X r radius,Z55 r radius])) (Ar (c:=AO.c) (xs:=([Z53 r radius,Z5a r radius]:List AO)) rfl kr))⟩ .nil))))) (Cv.refl _)) ?_
 refine rn ⟨(DM radius [(7,tI 4)]),[(4,Z4N),(5,Z5b r radius),(6,Z4P r radius),(77,Z5c r radius)]⟩ ?_
 refine C8 ?_
 refine BL (Cv.trans (wr (⟨(DM radius [(7,tI 4)]),[(4,Z4N),(5,Z5d r radius),(6,Z4P r radius),(100003,Z5c r radius)]⟩) 77 100003 hk0) (Cv.refl _))<|AD<|AD ?_
 refine rn ⟨(DM radius [(7,tI 4),(49,tB false)]),[(4,Z4N),(5,Z5d r radius),(6,Z4P r radius),(100003,Z5c r radius)]⟩ ?_
 refine Dd kr<|BO ?_
 refine BD<|BD ?_
 refine BP<|AJ<|AD ?_
 refine rn ⟨[(4,tP 4 0)],[(4,Z5d r radius),(100003,Z5c r radius)]⟩<|Af ?_
 exact yl (Cv.trans (vf 100003 7 ((([Z4Q r radius,Z4T r radius]++[Z4R r radius,Z4Z r radius])++[Z4X r radius,Z55 r radius])++[Z53 r radius,Z5a r radius]).length (AU AO.c ((([Z4Q r radius,Z4T r radius]++[Z4R r radius,Z4Z r radius])++[Z4X r radius,Z55 r radius])++[Z53 r radius,Z5a r radius])) 133 hk0 (.cons ⟨rfl,rfl⟩ .nil)) (Cv.refl _)) (.av (.agg [.i 2,lst 7 AO.c ((([Z4Q r radius,Z4T r radius]++[Z4R r radius,Z4Z r radius])++[Z4X r radius,Z55 r radius])++[Z53 r radius,Z5a r radius]),.i 0])) (An (by rfl))
theorem Sv (r:Al) (radius:Int):OKc (Kn r radius):=cPu<|VB r radius
end
section
open Go.RowKit
theorem OI (l:List Int) (name:ByteArray):∀ (n:Nat) (v:List A3) (d:AE) (k:Int),0<=k->k<=W64 (2+(AB (AE.mk l 0) 5).1)->((W64 (2+(AB (AE.mk l 0) 5).1))-k).toNat<n ->
  (Cq l name n v d k).Name=name/\((Cq l name n v d k).Pads.length:Int)=v.length+(W64 (2+(AB (AE.mk l 0) 5).1)-k)
 | 0,v,d,k,_,_,h=>absurd h (Nat.not_lt_zero _)
 | n+1,v,d,k,h0,h1,h2=>by
  unfold Cq
  by_cases h:k<W64 (2+(AB (AE.mk l 0) 5).1)
  ·simp only [h,decide_true,cond_true]
   obtain ⟨e1,e2⟩:=OI l name n (v++[_]) _ (k+1) (by omega) (by omega) (by omega)
   refine ⟨e1,e2.trans ?_⟩
   simp only [List.length_append,List.length_cons,List.length_nil]
   omega
  simp only [h,decide_false,cond_false]
  refine ⟨by first | trivial | rfl,?_⟩
  show (v.length:Int)=_
  omega
theorem Ew (l:List Int) (name:ByteArray):(A2 l name).Name=name/\2<=((A2 l name).Pads.length:Int)/\((A2 l name).Pads.length:Int)<=6:=by
 have hn:=Ct (AE.mk l 0) 5 (by decide) (by decide)
 have hw:W64 (2+(AB (AE.mk l 0) 5).1)=2+(AB (AE.mk l 0) 5).1:=Ap (by omega) (by omega)
 obtain ⟨e1,e2⟩:=OI l name (((W64 (2+(AB (AE.mk l 0) 5).1))-0).toNat+1) [] (AB (AE.mk l 0) 5).2 0 (by omega) (by omega) (by omega)
 refine ⟨e1,?_⟩
 unfold A2
 rw [e2,hw]
 simp only [List.length_nil]
 omega
theorem OT {a c:AP}:Bf [a,c] a.Name=(a,true):=by
 unfold Bf DT
 simp [Z0t]
theorem OR {a c:AP} (h:¬ a.Name.toList=c.Name.toList):Bf [a,c] c.Name=(c,true):=by
 have hb:(a.Name.toList==c.Name.toList)=false:=by simp [h]
 unfold Bf DT
 simp [DT,Z0t,hb]
def Na (types:List AP) (xs:List AG):Prop:=∀ k:Int,0<=k->k<(xs.length:Int)->1<=((Bf types (xs.getD k.toNat default).Type').1.Pads.length:Int)/\((Bf types (xs.getD k.toNat default).Type').1.Pads.length:Int)<=6
theorem Tr {types:List AP}:Na types ([]:List AG):=fun k h0 h1=>absurd h1 (by simp only [List.length_nil];omega)
theorem Ts {types:List AP} {xs:List AG} {p:AG} (h:Na types xs) (hp:1<=((Bf types p.Type').1.Pads.length:Int)/\((Bf types p.Type').1.Pads.length:Int)<=6):Na types (xs++[p]):=by
 intro k h0 h1
 simp only [List.length_append,List.length_cons,List.length_nil] at h1
 by_cases hk:k.toNat<xs.length
 ·rw [List.getD_eq_getElem?_getD,List.getElem?_append_left hk,<- List.getD_eq_getElem?_getD]
  exact h k h0 oM
 rw [List.getD_eq_getElem?_getD,List.getElem?_append_right oM,show k.toNat-xs.length=0 by omega]
 exact hp
theorem Ny (a c:List Int) (i:Int) (hi:0<=i/\i<2):1<=((Bf [A2 a { data := #[82] },A2 c { data := #[81] }] (([A2 a { data := #[82] },A2 c { data := #[81] }]:List AP).getD i.toNat default).Name).1.Pads.length:Int)/\((Bf [A2 a { data := #[82] },A2 c { data := #[81] }] (([A2 a { data := #[82] },A2 c { data := #[81] }]:List AP).getD i.toNat default).Name).1.Pads.length:Int)<=6:=by
 have ha:=Ew a { data := #[82] }
 have hc:=Ew c { data := #[81] }
 have h01:i=0\/i=1:=by omega
 rcases h01 with rfl | rfl
 ·show 1<=((Bf [A2 a { data := #[82] },A2 c { data := #[81] }] (A2 a { data := #[82] }).Name).1.Pads.length:Int)/\((Bf [A2 a { data := #[82] },A2 c { data := #[81] }] (A2 a { data := #[82] }).Name).1.Pads.length:Int)<=6
  rw [OT]
  exact ⟨by show 1<=((A2 a { data := #[82] }).Pads.length:Int);omega,ha.2.2⟩
 show 1<=((Bf [A2 a { data := #[82] },A2 c { data := #[81] }] (A2 c { data := #[81] }).Name).1.Pads.length:Int)/\((Bf [A2 a { data := #[82] },A2 c { data := #[81] }] (A2 c { data := #[81] }).Name).1.Pads.length:Int)<=6
 rw [OR (by rw [ha.1,hc.1];decide +kernel)]
 exact ⟨by show 1<=((A2 c { data := #[81] }).Pads.length:Int);omega,hc.2.2⟩
theorem VK {d:AE} (h:(AB d 5).1<3) (h0:¬ (AB d 5).1=0) (h1:¬ (AB d 5).1=1):(AB d 5).1=2:=by
 have:=Ct d 5 (by decide) (by decide)
 omega
theorem Wv {b:AH} {types:List AP} (h:Na types b.Parts):Ln b types:=fun k h0 h1=>(h k h0 h1).1
def Cw (v:List Ab) (m:Int):Prop:=(v.length:Int)<=m
theorem EF {α:Type} {c:Bool} {a b:List α} {m:Int} (ha:(a.length:Int)<=m) (hb:(b.length:Int)<=m):((bif c then a else b).length:Int)<=m:=by cases c <;> assumption
theorem EG {α:Type} {a:List α} {x:α} {m:Int} (h:(a.length:Int)+1<=m):((a++[x]).length:Int)<=m:=by simp only [List.length_append,List.length_cons,List.length_nil];omega
theorem bB {d:AE} {a c:AP}:0<=(AB d 2).1/\(AB d 2).1<((([a,c]:List AP).length:Nat):Int):=Ct d 2 (by decide) (by decide)
theorem WW {v:Int} {a b c:ByteArray} (h0:0<=v) (h:v<3):0<=v/\v<((([a,b,c]:List ByteArray).length:Nat):Int):=⟨h0,h⟩
theorem bW {b B:AH} (h:J5 b B) (hb:(b.Parts.length:Int)<=1000000):(B.Parts.length:Int)<=1000000:=by rw [h.par];exact hb
theorem ZQ {b B:AH} (h:J5 b B) (hb:1<=(b.Parts.length:Int)):1<=(B.Parts.length:Int):=by rw [h.par];exact hb
theorem bT {b B:AH} (h:J5 b B):(B.Tracks.length:Int)<=1000000:=by have:=h.trk;omega
theorem bS {b B:AH} (h:J5 b B):(B.Vias.length:Int)<=1000000:=by have:=h.via;omega
theorem bV {b B:AH} (h:J5 b B):(B.Pours.length:Int)<=1000000:=by have:=h.pou;omega
theorem bX {b B:AH} (h:J5 b B):(B.Keeps.length:Int)<=1000000:=by have:=h.kee;omega
theorem bU {b B:AH} (h:J5 b B):(B.Slots.length:Int)<=1000000:=by have:=h.slo;omega
variable (v6_4:List AG) (v31_1':List Ab) (v5'':AE) (v10:Int) (l:List (List Int)) (v31_1 v31_3' v31_3:List Ab) (v8:Int) (v31_5':List Ab) (v13:Int) (v31_5:List Ab) (v5 v5':AE)
def Z5e:Tv:=.av (oL l)
def Z5f:Blk:=.cells Nv 42
def Z5g:AP:=A2 (AR l 0) ({ data := #[82] }:ByteArray)
def Z5h:AP:=A2 (AR l 1) ({ data := #[81] }:ByteArray)
def Z5i:Tv:=.av (.one (lst 3 AP.c [Z5g l,Z5h l]))
def Z5j:Blk:=.cells [lst 1 eIn (AR l 2),.i 0] 146
abbrev Iu:=Al.mk 0 0 400 400
def Z5k:Blk:=.cells [.i 2,.i (C4 Iu).Kind,lst 7 AO.c (C4 Iu).Edges,.i (C4 Iu).R,vN,.own 31 2 3,vN,vN,vN,vN,vN,vN,vN,vN,vN] 42
def Z5l:Blk:=.rowx 2 3 (fun _ _=>default) 48 [(0,[.s ({ data := #[78,49] }:ByteArray),vN]),(1,[.s ({ data := #[78,50] }:ByteArray),vN]),(2,[.s ({ data := #[71,78,68] }:ByteArray),vN])]
abbrev Fl:=AB (AE.mk (AR l 2) 0) 3
def Z5m:CT:=(54,(EO:List Av).map (Bp 1000 25),wrI 25 (.cells [lst 1 eIn (AR l 2),.i 0] 146) (tI (Fl l).1) (.cells (AE.c (Fl l).2) 146))
def Z5n:Blk:=.cells (AE.c (Fl l).2) 146
def Z5o:Ah:=bif decide (((AB (AE.mk (AR l 2) 0) 3).1:Int)=0) then (Fe (Al.mk 0 0 400 400) 50) else (C4 (Al.mk 0 0 400 400))
def Z5p:CT:=(54,(EO:List Av).map (Bp 1000 25),wrI 25 (.cells (AE.c (Fl l).2) 146) (tI (AB (Fl l).2 3).1) (.cells (AE.c (AB (Fl l).2 3).2) 146))
abbrev Z5q:AE:=(AB (AB (AE.mk (AR l 2) 0) 3).2 3).2
def Z5r:Tv:=tI (W64 (1+(AB (Fl l).2 3).1))
abbrev FK (t_:List Cl):List Cl:=(.i 2)::(.i (Z5o l).Kind)::(lst 7 AO.c (Z5o l).Edges)::(.i (Z5o l).R)::t_
def Z5s:Blk:=.cells (FK l [vN,.own 31 2 3,vN,vN,vN,vN,vN,vN,vN,vN,vN]) 42
def Z5t:Blk:=.cells [lst 1 eIn (AR l 3),.i 0] 146
def Z5u:Blk:=.row 7 ([]:List AG).length (AU AG.c ([]:List AG)) 59
def Z5v:Blk:=.cells (FK l [.own 100000 7 ([]:List AG).length,.own 31 2 3,vN,vN,vN,vN,vN,vN,vN,vN,vN]) 42
def Z5w (l:(List (List Int))) (v6_4:List AG):Blk:=.cells (FK l [.own 100000 7 v6_4.length,.own 31 2 3,vN,vN,vN,vN,vN,vN,vN,vN,vN]) 42
def Z5x:Blk:=.row 7 v6_4.length (AU AG.c v6_4) 59
def Z5y:CT:=(54,(GT:List Av).map (Bp 1000 25),wrI 25 (KH v5) (tI (AB v5 2).1) (KQ v5))
abbrev FM:=AB (AB v5 2).2 4
def Z5z:CT:=(54,(IZ:List Av).map (Bp 1000 25),wrI 25 (KQ v5) (tI (FM v5).1) (.cells (AE.c (FM v5).2) 146))
def Z5A:CT:=(54,(EO:List Av).map (Bp 1000 25),wrI 25 (.cells (AE.c (FM v5).2) 146) (tI (AB (FM v5).2 3).1) (.cells (AE.c (AB (FM v5).2 3).2) 146))
abbrev Z5B:AE:=(AB (AB (AB v5 2).2 4).2 3).2
abbrev Fh:=AB (Z5B v5) 5
def Z5C:CT:=(54,(Iy:List Av).map (Bp 1000 25),wrI 25 (.cells (AE.c (Z5B v5)) 146) (tI (Fh v5).1) (.cells (AE.c (Fh v5).2) 146))
def Z5D:CT:=(54,(EO:List Av).map (Bp 1000 25),wrI 25 (.cells (AE.c (Fh v5).2) 146) (tI (AB (Fh v5).2 3).1) (.cells (AE.c (AB (Fh v5).2 3).2) 146))
abbrev Z5E:AE:=(AB (AB (Z5B v5) 5).2 3).2
def Z5F:CT:=(54,(EO:List Av).map (Bp 1000 25),wrI 25 (.cells (AE.c (Z5E v5)) 146) (tI (AB (Z5E v5) 3).1) (.cells (AE.c (AB (Z5E v5) 3).2) 146))
def Z5G:Blk:=.cells (AE.c (AB (Z5E v5) 3).2) 146
abbrev JT:Bool:=(decide (((AB (FM v5).2 3).1:Int)=0))
abbrev Vm:=AF.mk (W64 ((W64 (80+(W64 (100*v8))))+(W64 (5*(Fh v5).1)))) (W64 ((W64 (100+(W64 (80*(AB (Fh v5).2 3).1))))+(W64 (5*(AB (Z5E v5) 3).1))))
def Z5H (l:(List (List Int))) (v6_4:List AG) (v8:Int) (v5:AE):Blk:=.cells (FK l [.own 86 7 (v6_4++[AG.mk (W64 (1+v8)) (([({ data := #[82,49] }:ByteArray),({ data := #[82,50] }:ByteArray),({ data := #[120,47,82,49] }:ByteArray)]:List ByteArray).getD v8.toNat ⟨#[]⟩) ([Z5g l,Z5h l].getD (AB v5 2).1.toNat default).Name (Vm v8 v5) (FM v5).1 (JT v5)]).length,.own 31 2 3,vN,vN,vN,vN,vN,vN,vN,vN,vN]) 42
def Z5I (v6_4:List AG) (v8:Int) (l:(List (List Int))) (v5:AE):Blk:=.row 7 (v6_4++[AG.mk (W64 (1+v8)) (([({ data := #[82,49] }:ByteArray),({ data := #[82,50] }:ByteArray),({ data := #[120,47,82,49] }:ByteArray)]:List ByteArray).getD v8.toNat ⟨#[]⟩) ([Z5g l,Z5h l].getD (AB v5 2).1.toNat default).Name (Vm v8 v5) (FM v5).1 (JT v5)]).length (AU AG.c (v6_4++[AG.mk (W64 (1+v8)) (([({ data := #[82,49] }:ByteArray),({ data := #[82,50] }:ByteArray),({ data := #[120,47,82,49] }:ByteArray)]:List ByteArray).getD v8.toNat ⟨#[]⟩) ([Z5g l,Z5h l].getD (AB v5 2).1.toNat default).Name (Vm v8 v5) (FM v5).1 (JT v5)])) 59
def Z5J:Blk:=.row 2 ([]:List Ab).length (AU Ab.c ([]:List Ab)) 25
def Z5K:Blk:=.row 2 v31_1.length (AU Ab.c v31_1) 25
def Z5L:Blk:=.row 2 v31_3.length (AU Ab.c v31_3) 25
def Z5M:Blk:=.row 2 v31_5.length (AU Ab.c v31_5) 25
def Z5N (l:(List (List Int))) (v6_4:List AG):Blk:=.cells (FK l [lst 7 AG.c v6_4,.own 31 2 3,vN,vN,vN,vN,vN,vN,vN,vN,vN]) 42
def Z5O:Tv:=tB (decide ((v10:Int)<(W64 (1+(AB (Fl l).2 3).1))))
def Z5P (l:(List (List Int))) (v6_4:List AG) (v10:Int):AP:=(Bf [Z5g l,Z5h l] (v6_4.getD v10.toNat default).Type').1
def Z5Q (l:(List (List Int))) (v6_4:List AG) (v10:Int):Blk:=.cells (AP.c (Z5P l v6_4 v10)) 114
def Z5R:Blk:=.row 2 v31_1'.length (AU Ab.c v31_1') 25
def Z5S:Blk:=.row 2 v31_3'.length (AU Ab.c v31_3') 25
def Z5T:Blk:=.row 2 v31_5'.length (AU Ab.c v31_5') 25
def Z5U:CT:=(54,(Iy:List Av).map (Bp 1000 91),wrI 91 (.cells (AE.c v5'') 146) (tI (AB v5'' 5).1) (.cells (AE.c (AB v5'' 5).2) 146))
abbrev HR:=[Ab.mk (v6_4.getD v10.toNat default).Ref ((Z5P l v6_4 v10).Pads.getD v13.toNat default).Name]
def Z5V (v31_1':List Ab) (v6_4:List AG) (v10:Int) (l:(List (List Int))) (v13:Int):Blk:=.row 2 (v31_1'++(HR v6_4 v10 l v13)).length (AU Ab.c (v31_1'++(HR v6_4 v10 l v13))) 25
def Z5W (v31_3':List Ab) (v6_4:List AG) (v10:Int) (l:(List (List Int))) (v13:Int):Blk:=.row 2 (v31_3'++(HR v6_4 v10 l v13)).length (AU Ab.c (v31_3'++(HR v6_4 v10 l v13))) 25
def Z5X (v31_5':List Ab) (v6_4:List AG) (v10:Int) (l:(List (List Int))) (v13:Int):Blk:=.row 2 (v31_5'++(HR v6_4 v10 l v13)).length (AU Ab.c (v31_5'++(HR v6_4 v10 l v13))) 25
def Z5Y (v5'':AE) (v31_1':List Ab) (v6_4:List AG) (v10:Int) (l:(List (List Int))) (v13:Int):(List Ab):=bif decide (((AB v5'' 5).1:Int)<3) then (bif decide (((AB v5'' 5).1:Int)=0) then (v31_1'++[Ab.mk (v6_4.getD v10.toNat default).Ref ((Z5P l v6_4 v10).Pads.getD v13.toNat default).Name]) else v31_1') else v31_1'
def Z5Z (v5'':AE) (v31_3':List Ab) (v6_4:List AG) (v10:Int) (l:(List (List Int))) (v13:Int):(List Ab):=bif decide (((AB v5'' 5).1:Int)<3) then (bif decide (((AB v5'' 5).1:Int)=0) then v31_3' else (bif decide (((AB v5'' 5).1:Int)=1) then (v31_3'++[Ab.mk (v6_4.getD v10.toNat default).Ref ((Z5P l v6_4 v10).Pads.getD v13.toNat default).Name]) else v31_3')) else v31_3'
def Z60 (v5'':AE) (v31_5':List Ab) (v6_4:List AG) (v10:Int) (l:(List (List Int))) (v13:Int):(List Ab):=bif decide (((AB v5'' 5).1:Int)<3) then (bif decide (((AB v5'' 5).1:Int)=0) then v31_5' else (bif decide (((AB v5'' 5).1:Int)=1) then v31_5' else (v31_5'++[Ab.mk (v6_4.getD v10.toNat default).Ref ((Z5P l v6_4 v10).Pads.getD v13.toNat default).Name]))) else v31_5'
def Z61 (v5'':AE) (v31_1':List Ab) (v6_4:List AG) (v10:Int) (l:(List (List Int))) (v13:Int):Blk:=.row 2 (Z5Y v5'' v31_1' v6_4 v10 l v13).length (AU Ab.c (Z5Y v5'' v31_1' v6_4 v10 l v13)) 25
def Z62 (v5'':AE) (v31_3':List Ab) (v6_4:List AG) (v10:Int) (l:(List (List Int))) (v13:Int):Blk:=.row 2 (Z5Z v5'' v31_3' v6_4 v10 l v13).length (AU Ab.c (Z5Z v5'' v31_3' v6_4 v10 l v13)) 25
def Z63 (v5'':AE) (v31_5':List Ab) (v6_4:List AG) (v10:Int) (l:(List (List Int))) (v13:Int):Blk:=.row 2 (Z60 v5'' v31_5' v6_4 v10 l v13).length (AU Ab.c (Z60 v5'' v31_5' v6_4 v10 l v13)) 25
def Z64 (l:(List (List Int))) (v6_4:List AG) (v31_1:List Ab) (v31_3:List Ab) (v31_5:List Ab):AH:=BG (AH.mk 2 (Z5o l) v6_4 [BA.mk ({ data := #[78,49] }:ByteArray) v31_1,BA.mk ({ data := #[78,50] }:ByteArray) v31_3,BA.mk ({ data := #[71,78,68] }:ByteArray) v31_5] [] [] [] [] [] [] [] [] []) [Z5g l,Z5h l] l
abbrev Ti (l:List (List Int)) (v6_4:List AG) (v31_1:List Ab) (v31_3:List Ab) (v31_5:List Ab):List Cl:=[.i (Z64 l v6_4 v31_1 v31_3 v31_5).Layers,.i (Z64 l v6_4 v31_1 v31_3 v31_5).Outline.Kind,lst 7 AO.c (Z64 l v6_4 v31_1 v31_3 v31_5).Outline.Edges,.i (Z64 l v6_4 v31_1 v31_3 v31_5).Outline.R,lst 7 AG.c (Z64 l v6_4 v31_1 v31_3 v31_5).Parts,lst 2 BA.c (Z64 l v6_4 v31_1 v31_3 v31_5).Nets,lst 6 Aj.c (Z64 l v6_4 v31_1 v31_3 v31_5).Tracks,lst 8 Br.c (Z64 l v6_4 v31_1 v31_3 v31_5).Vias,lst 8 BB.c (Z64 l v6_4 v31_1 v31_3 v31_5).Pours,lst 5 BS.c (Z64 l v6_4 v31_1 v31_3 v31_5).Keeps,lst 4 Bb.c (Z64 l v6_4 v31_1 v31_3 v31_5).Slots,vN,vN,vN,vN]
def Z65 (l:(List (List Int))) (v6_4:List AG) (v31_1:List Ab) (v31_3:List Ab) (v31_5:List Ab):CT:=(56,([.one (.ptr 1000 0),.one (lst 3 AP.c [Z5g l,Z5h l]),.one (lst 1 (fun x=>[lst 1 eIn x]) l)]:List Av).map (Bp 1000 6),wrI 6 (.cells (FK l [lst 7 AG.c v6_4,lst 2 BA.c [BA.mk ({ data := #[78,49] }:ByteArray) v31_1,BA.mk ({ data := #[78,50] }:ByteArray) v31_3,BA.mk ({ data := #[71,78,68] }:ByteArray) v31_5],vN,vN,vN,vN,vN,vN,vN,vN,vN]) 42) (.tup []) (.cells (Ti l v6_4 v31_1 v31_3 v31_5) 42))
def Z66 (l:(List (List Int))) (v6_4:List AG) (v31_1:List Ab) (v31_3:List Ab) (v31_5:List Ab):AH×AE:=Cb (AH.mk (Z64 l v6_4 v31_1 v31_3 v31_5).Layers (Z64 l v6_4 v31_1 v31_3 v31_5).Outline (Z64 l v6_4 v31_1 v31_3 v31_5).Parts (Z64 l v6_4 v31_1 v31_3 v31_5).Nets (Z64 l v6_4 v31_1 v31_3 v31_5).Tracks (Z64 l v6_4 v31_1 v31_3 v31_5).Vias (Z64 l v6_4 v31_1 v31_3 v31_5).Pours (Z64 l v6_4 v31_1 v31_3 v31_5).Keeps (Z64 l v6_4 v31_1 v31_3 v31_5).Slots [] [] [] []) (AE.mk (AR l 7) 0)
def Z67 (l:(List (List Int))) (v6_4:List AG) (v31_1:List Ab) (v31_3:List Ab) (v31_5:List Ab):CT:=(57,(MI:List Av).map (Em 1000 6 1001 151),aZ 6 151 (.cells (Ti l v6_4 v31_1 v31_3 v31_5) 42) (.cells [lst 1 eIn (AR l 7),.i 0] 146) (.tup []) (.cells (AH.c (Z66 l v6_4 v31_1 v31_3 v31_5).1) 42) (.cells (AE.c (Z66 l v6_4 v31_1 v31_3 v31_5).2) 146))
def Z68:Blk:=.rowx 2 3 (fun _ _=>default) 48 [(0,[.s ({ data := #[78,49] }:ByteArray),.own 100001 2 ([]:List Ab).length]),(1,[.s ({ data := #[78,50] }:ByteArray),.own 100002 2 ([]:List Ab).length]),(2,[.s ({ data := #[71,78,68] }:ByteArray),.own 100003 2 ([]:List Ab).length])]
def Z69:Blk:=.rowx 2 3 (fun _ _=>default) 48 [(0,[.s ({ data := #[78,49] }:ByteArray),.own 100001 2 v31_1.length]),(1,[.s ({ data := #[78,50] }:ByteArray),.own 100002 2 v31_3.length]),(2,[.s ({ data := #[71,78,68] }:ByteArray),.own 100003 2 v31_5.length])]
def Z6a:Blk:=.rowx 2 3 (fun _ _=>default) 48 [(0,[.s ({ data := #[78,49] }:ByteArray),.own 100001 2 v31_1'.length]),(1,[.s ({ data := #[78,50] }:ByteArray),.own 100002 2 v31_3'.length]),(2,[.s ({ data := #[71,78,68] }:ByteArray),.own 100003 2 v31_5'.length])]
def Z6b (v31_1':List Ab) (v6_4:List AG) (v10:Int) (l:(List (List Int))) (v13:Int) (v31_3':List Ab) (v31_5':List Ab):Blk:=.rowx 2 3 (fun _ _=>default) 48 [(0,[.s ({ data := #[78,49] }:ByteArray),.own 100004 2 (v31_1'++(HR v6_4 v10 l v13)).length]),(1,[.s ({ data := #[78,50] }:ByteArray),.own 100005 2 v31_3'.length]),(2,[.s ({ data := #[71,78,68] }:ByteArray),.own 100006 2 v31_5'.length])]
def Z6c (v31_1':List Ab) (v31_3':List Ab) (v6_4:List AG) (v10:Int) (l:(List (List Int))) (v13:Int) (v31_5':List Ab):Blk:=.rowx 2 3 (fun _ _=>default) 48 [(0,[.s ({ data := #[78,49] }:ByteArray),.own 100004 2 v31_1'.length]),(1,[.s ({ data := #[78,50] }:ByteArray),.own 100005 2 (v31_3'++(HR v6_4 v10 l v13)).length]),(2,[.s ({ data := #[71,78,68] }:ByteArray),.own 100006 2 v31_5'.length])]
def Z6d (v31_1':List Ab) (v31_3':List Ab) (v31_5':List Ab) (v6_4:List AG) (v10:Int) (l:(List (List Int))) (v13:Int):Blk:=.rowx 2 3 (fun _ _=>default) 48 [(0,[.s ({ data := #[78,49] }:ByteArray),.own 100004 2 v31_1'.length]),(1,[.s ({ data := #[78,50] }:ByteArray),.own 100005 2 v31_3'.length]),(2,[.s ({ data := #[71,78,68] }:ByteArray),.own 100006 2 (v31_5'++(HR v6_4 v10 l v13)).length])]
def C1 (l:(List (List Int))) (v6_4:List AG) (v5:AE) (v8:Int) (v31_1:List Ab) (v31_3:List Ab) (v31_5:List Ab) (v5':AE) (v10:Int) (K0:List AG->AE->Int->(AH×(List AP))) (K1:List Ab->List Ab->List Ab->AE->Int->(AH×(List AP))):Nat->List Ab->List Ab->List Ab->AE->Int->(AH×(List AP))
 | 0,_,_,_,_,_=>default
 | n2+1,v31_1',v31_3',v31_5',v5'',v13=>bif decide ((v13:Int)<((Z5P l v6_4 v10).Pads.length:Int)) then ((C1 l v6_4 v5 v8 v31_1 v31_3 v31_5 v5' v10 K0 K1 n2) (Z5Y v5'' v31_1' v6_4 v10 l v13) (Z5Z v5'' v31_3' v6_4 v10 l v13) (Z60 v5'' v31_5' v6_4 v10 l v13) (AB v5'' 5).2 (v13+1)) else (K1 v31_1' v31_3' v31_5' v5'' (v10+1))
def Cp (l:(List (List Int))) (v6_4:List AG) (v5:AE) (v8:Int) (K0:List AG->AE->Int->(AH×(List AP))):Nat->List Ab->List Ab->List Ab->AE->Int->(AH×(List AP))
 | 0,_,_,_,_,_=>default
 | n1+1,v31_1,v31_3,v31_5,v5',v10=>bif decide ((v10:Int)<(W64 (1+(AB (AB (AE.mk (AR l 2) 0) 3).2 3).1))) then (C1 l v6_4 v5 v8 v31_1 v31_3 v31_5 v5' v10 K0 (Cp l v6_4 v5 v8 K0 n1) ((((Z5P l v6_4 v10).Pads.length:Int)-0).toNat+1) v31_1 v31_3 v31_5 v5' 0) else ((Z66 l v6_4 v31_1 v31_3 v31_5).1,[Z5g l,Z5h l])
def CI (l:(List (List Int))):Nat->List AG->AE->Int->(AH×(List AP))
 | 0,_,_,_=>default
 | n0+1,v6_4,v5,v8=>bif decide ((v8:Int)<(W64 (1+(AB (AB (AE.mk (AR l 2) 0) 3).2 3).1))) then ((CI l n0) (v6_4++[AG.mk (W64 (1+v8)) (([({ data := #[82,49] }:ByteArray),({ data := #[82,50] }:ByteArray),({ data := #[120,47,82,49] }:ByteArray)]:List ByteArray).getD v8.toNat ⟨#[]⟩) ([Z5g l,Z5h l].getD (AB v5 2).1.toNat default).Name (AF.mk (W64 ((W64 (80+(W64 (100*v8))))+(W64 (5*(AB (Z5B v5) 5).1)))) (W64 ((W64 (100+(W64 (80*(AB (AB (Z5B v5) 5).2 3).1))))+(W64 (5*(AB (Z5E v5) 3).1))))) (AB (AB v5 2).2 4).1 (decide (((AB (AB (AB v5 2).2 4).2 3).1:Int)=0))]) (AB (Z5E v5) 3).2 (v8+1)) else (Cp l v6_4 v5 v8 (CI l n0) (((W64 (1+(AB (AB (AE.mk (AR l 2) 0) 3).2 3).1))-0).toNat+1) ([]:List Ab) ([]:List Ab) ([]:List Ab) (AE.mk (AR l 3) 0) 0)
def CW (l:(List (List Int))):(AH×(List AP)):=CI l (((W64 (1+(AB (AB (AE.mk (AR l 2) 0) 3).2 3).1))-0).toNat+1) ([]:List AG) (Z5q l) 0
def Ll:CT:=(24,[.one (lst 1 (fun x=>[lst 1 eIn x]) l)],.val [] (.tup [.agg (AH.c (CW l).1),.one (lst 3 AP.c (CW l).2)]))
abbrev F9:Nat×Blk:=(91,.cells (AE.c (AB v5'' 5).2) 146)
abbrev Hg:Nat×Blk:=(91,.cells (AE.c v5') 146)
abbrev SH:=Au 2 1 [.s (v6_4.getD v10.toNat default).Ref,.s ((Z5P l v6_4 v10).Pads.getD v13.toNat default).Name]
abbrev L9:Nat×Blk:=(25,.cells (AE.c (Z5q l)) 146)
abbrev CP (t_:List (Nat×Tv)):List (Nat×Tv):=(0,Z5e l)::(2,tP 2 0)::(4,Z5i l)::(5,tP 91 0)::(6,tP 6 0)::(7,Z5r l)::t_
abbrev De (t_:List (Nat×Tv)):List (Nat×Tv):=(0,Z5e l)::(2,tP 2 0)::(4,Z5i l)::(5,tP 25 0)::t_
abbrev Dj (l:List (List Int)) (v6_4:List AG) (v10:Int) (t_:List (Nat×Blk)):List (Nat×Blk):=(2,Z5f)::(6,Z5w l v6_4)::(11,Z5Q l v6_4 v10)::t_
theorem au12 {p:Prop} (h:p:=by first | (with_reducible exact C6 hll _) | with_reducible assumption | omega | decide | (simp only [List.length_cons,List.length_nil,List.length_append];omega) | (exact Wv (by assumption)) | ((refine And.intro ?_ ?_ <;> simp;done)) | ((simp only;exact bW (FX _ _ _) (by show (v6_4.length:Int)≤_;omega))) | ((simp only;exact ZQ (FX _ _ _) (by show 1≤(v6_4.length:Int);omega))) | ((simp only;exact bT (FX _ _ _))) | ((simp only;exact bS (FX _ _ _))) | ((simp only;exact bV (FX _ _ _))) | ((simp only;exact bX (FX _ _ _))) | ((simp only;exact bU (FX _ _ _))) | assumption):p:=h
theorem au13 {p:Prop} (h:p:=by first | exact IA _ _ _ (by decide) (by decide) (by decide) | exact bB | exact WW (by omega) (by omega) | decide | omega):p:=h
theorem au18 {p:Prop} (h:p:=by first | (unfold Cw at *;unfold maxLen;omega) | (unfold Cw at *;omega) | (unfold maxLen;omega) | omega | (simp only [XK,XJ,XI];omega)):p:=h
set_option maxHeartbeats 4000000 in
theorem ZK (l:(List (List Int))) (hl:(l.length:Int)<=9223372036854775807) (hll:∀ x∈l,(x.length:Int)<=9223372036854775807):PuP 24 (Ll l).2.1 (.tup [.agg (AH.c (CW l).1),.one (lst 3 AP.c (CW l).2)]):=by
 refine pwf Try.func24 fun W0 M0 => ?_
 have hmany:1<=W64 (1+(AB (AB (AE.mk (AR l 2) 0) 3).2 3).1):=by have:=Ct (AB (AE.mk (AR l 2) 0) 3).2 3 (by decide) (by decide);rw [Ap oM oM];omega
 refine AD<|rn ⟨[(0,Z5e l),(2,tP 2 0)],[(2,Z5f)]⟩<|AD ?_
 refine rc [(16,Dx l 0),(17,IJ (AR l 0) ({ data := #[82] }:ByteArray)),(19,Dx l 1),(20,IJ (AR l 1) ({ data := #[81] }:ByteArray))] [Ay (Dx l 0).2.1,Ay (IJ (AR l 0) ({ data := #[82] }:ByteArray)).2.1,Ay (Dx l 1).2.1,Ay (IJ (AR l 1) ({ data := #[81] }:ByteArray)).2.1] ⟨[(0,Z5e l),(2,tP 2 0),(4,.av (.one (.list true 3 2 (Au 3 2 [.s (Z5g l).Name,lst 7 A3.c (Z5g l).Pads,lst 2 A1.c (Z5g l).Gates,.s (Z5h l).Name,lst 7 A3.c (Z5h l).Pads,lst 2 A1.c (Z5h l).Gates]))))],[(2,Z5f)]⟩ (.cons (FB l 0 au12) (.cons (RH (AR l 0) ({ data := #[82] }:ByteArray) au12) (.cons (FB l 1 au12) (.cons (RH (AR l 1) ({ data := #[81] }:ByteArray) au12) .nil)))) (.cons rfl (.cons rfl (.cons rfl (.cons rfl .nil))))<|AJ ?_
 refine BL (Cv.trans (BH (⟨[(0,Z5e l),(2,tP 2 0),(4,Z5i l)],[(2,Z5f)]⟩) (.cons ⟨rfl,.refl _⟩ (.cons ⟨rfl,.refl _⟩ (.cons ⟨rfl,.av (.one (Be true (Ar (c:=AP.c) (xs:=([Z5g l,Z5h l]:List AP)) rfl kr)))⟩ .nil))) lr) (Cv.refl _))<|AD ?_
 refine rs 23 (Dx l 2) ⟨(De l []),[(2,Z5f),(25,Z5j l)]⟩ (FB l 2 au12)<|AJ<|AD ?_
 refine DQ D6 [31] [] [(27,HJ Iu)] [0,2,4,5,6] [2,6,25,31] [Ay (HJ (Al.mk 0 0 400 400)).2.1] ⟨(De l [(6,tP 6 0)]),[(2,Z5f),(6,Z5k),(25,Z5j l),(31,.row 2 3 (Au 2 3 [.s ({ data := #[78,49] }:ByteArray),vN,.s ({ data := #[78,50] }:ByteArray),vN,.s ({ data := #[71,78,68] }:ByteArray),vN]) 48)]⟩ (.cons (Lh (Al.mk 0 0 400 400)) .nil) kr (.cons rfl .nil)<|AJ ?_
 refine BL (Cv.trans (YE (⟨(De l [(6,tP 6 0)]),[(2,Z5f),(6,Z5k),(25,Z5j l),(31,Z5l)]⟩) 31 2 3 (Au 2 3 [.s ({ data := #[78,49] }:ByteArray),vN,.s ({ data := #[78,50] }:ByteArray),vN,.s ({ data := #[71,78,68] }:ByteArray),vN]) 48 kr kr kr) (Cv.refl _))<|AD<|AD ?_
 refine rb 34 (Z5m l) (.cells [lst 1 eIn (AR l 2),.i 0] 146) ⟨(De l [(6,tP 6 0),(35,tB (decide (((Fl l).1:Int)=0)))]),[(2,Z5f),(6,Z5k),(25,Z5n l),(31,Z5l)]⟩ (cWr (BT (AE.mk (AR l 2) 0) 3 au5 au6))<|AJ ?_
 refine Bz (⟨[(0,.av (oL l)),(2,tP 2 0),(4,tO (lst 3 AP.c [Z5g l,Z5h l])),(5,tP 25 0),(6,tP 6 0)],[(2,.cells Nv 42),(6,.cells [.i 2,.i (Z5o l).Kind,lst 7 AO.c (Z5o l).Edges,.i (Z5o l).R,vN,.own 31 2 3,vN,vN,vN,vN,vN,vN,vN,vN,vN] 42),(25,.cells (AE.c (Fl l).2) 146),(31,.rowx 2 3 (fun _ _=>default) 48 [(0,[.s ({ data := #[78,49] }:ByteArray),vN]),(1,[.s ({ data := #[78,50] }:ByteArray),vN]),(2,[.s ({ data := #[71,78,68] }:ByteArray),vN])])]⟩) ?_ ?_
 ·refine Aa _ rfl (fun h1 => ?_) (fun h1 => ?_)
  ·refine rs 37 (Kn (Al.mk 0 0 400 400) 50) ⟨(De l [(6,tP 6 0)]),[(2,Z5f),(6,.cells [.i 2,.i (Fe Iu 50).Kind,lst 7 AO.c (Fe Iu 50).Edges,.i (Fe Iu 50).R,vN,.own 31 2 3,vN,vN,vN,vN,vN,vN,vN,vN,vN] 42),(25,Z5n l),(31,Z5l)]⟩ (Sv (Al.mk 0 0 400 400) 50)<|AJ ?_
   refine A9 ?_
   first | rfl | (simp only [h1,Z5o,cond_true,cond_false] <;> rfl)
  refine Ad<|AJ ?_
  refine Cv.trans (ck (⟨(De l [(6,tP 6 0)]),[(2,Z5f),(6,Z5k),(25,Z5n l),(31,Z5l)]⟩)) (A9 ?_)
  first | rfl | (simp only [h1,Z5o,cond_true,cond_false] <;> rfl)
 refine AD<|rb 40 (Z5p l) (.cells (AE.c (AB (AE.mk (AR l 2) 0) 3).2) 146) ⟨(De l [(6,tP 6 0),(7,Z5r l)]),[(2,Z5f),(6,Z5s l),(L9 l),(31,Z5l)]⟩ (cWr (BT (AB (AE.mk (AR l 2) 0) 3).2 3 au5 au6))<|AJ ?_
 refine AD<|AD ?_
 refine rn ⟨(De l [(6,tP 6 0),(7,Z5r l),(8,tI 0)]),[(2,Z5f),(6,Z5s l),(L9 l),(31,Z5l)]⟩<|AX ?_
 refine BL (Cv.trans (wg (⟨(De l [(6,tP 6 0),(7,Z5r l),(8,tI 0)]),[(100000,.row 7 0 (fun _ _=>default) 59),(2,Z5f),(6,.cells (FK l [.own 100000 7 0,.own 31 2 3,vN,vN,vN,vN,vN,vN,vN,vN,vN]) 42),(L9 l),(31,Z5l)]⟩) 100000 7 (fun _ _=>default) 59 [] [(6,[4])] hk0) (Cv.trans (BH (⟨(De l [(6,tP 6 0),(7,Z5r l),(8,tI 0)]),[(100000,Z5u),(2,Z5f),(6,Z5v l),(L9 l),(31,Z5l)]⟩) lr (.cons ⟨rfl,Ai 59 (B5 7 (fun _ _=>default) AG.c)⟩ (.cons ⟨rfl,.refl _⟩ (.cons ⟨rfl,.cells _ (rr4 (.cons (.own _ _ au0) (rr (rr (rr (rr (rr (rr (rr (rr (rr (rr .nil))))))))))))⟩ lr)))) (Cv.trans (ck (⟨(De l [(6,tP 6 0),(7,Z5r l),(8,tI 0)]),[(2,Z5f),(6,Z5v l),(L9 l),(31,Z5l),(100000,Z5u)]⟩)) (Cv.refl _)))) ?_
 refine BN (ι:=Nat×List AG×AE×Int) (fun x=>⟨(De l [(6,tP 6 0),(7,Z5r l),(8,tI x.2.2.2)]),[(2,Z5f),(6,.cells (FK l [.own 100000 7 x.2.1.length,.own 31 2 3,vN,vN,vN,vN,vN,vN,vN,vN,vN]) 42),(25,.cells (AE.c x.2.2.1) 146),(31,Z5l),(100000,.row 7 x.2.1.length (AU AG.c x.2.1) 59)]⟩) (fun x=>((W64 (1+(AB (AB (AE.mk (AR l 2) 0) 3).2 3).1))-x.2.2.2).toNat<x.1/\((x.2.1.length:Int)=x.2.2.2/\Na [A2 (AR l 0) ({ data := #[82] }:ByteArray),A2 (AR l 1) ({ data := #[81] }:ByteArray)] x.2.1/\Bi x.2.2.1/\0<=x.2.2.2/\(x.2.2.2<=(W64 (1+(AB (AB (AE.mk (AR l 2) 0) 3).2 3).1))\/x.2.2.2=0)/\(x.2.1.length:Int)<=0+1*(x.2.2.2-0))/\CI l x.1 x.2.1 x.2.2.1 x.2.2.2=CW l) (fun x=>x.1) ?_ (((W64 (1+(AB (AB (AE.mk (AR l 2) 0) 3).2 3).1))-0).toNat+1,([]:List AG),Z5q l,0) ⟨Nat.lt_succ_self _,⟨ax0,(by show Na [A2 (AR l 0) ({ data := #[82] }:ByteArray),A2 (AR l 1) ({ data := #[81] }:ByteArray)] ([]:List AG);first | exact Tr | exact Ts (by assumption) (Ny _ _ _ (Ct _ 2 (by decide) (by decide))) | assumption),(by show Bi (Z5q l);repeat (first | with_reducible assumption | exact Ca (C6 hll _) | with_reducible refine BR ?_ | with_reducible refine D3 ?_ | with_reducible refine DK ?_ | with_reducible refine C0 ?_  | with_reducible refine Cg ?_ ?_)),ax0,ax0,ax0⟩,(by simp only [CW,cond_true,cond_false])⟩
 rintro ⟨n0,v6_4,v5,v8⟩ ⟨hm0,hinv0,hF0⟩
 try dsimp only at hm0 hinv0 hF0
 cases n0 with | zero=>exact nz hm0 | succ n0 => ?_
 have hi0_1:=hinv0.2.1
 have hi0_2:=hinv0.2.2.1
 refine AD<|AD ?_
 refine rn ⟨(De l [(6,tP 6 0),(7,Z5r l),(8,tI v8),(44,tB (decide ((v8:Int)<(W64 (1+(AB (AB (AE.mk (AR l 2) 0) 3).2 3).1)))))]),[(2,Z5f),(6,Z5w l v6_4),(25,.cells (AE.c v5) 146),(31,Z5l),(100000,Z5x v6_4)]⟩ ?_
 refine Aa (decide ((v8:Int)<(W64 (1+(AB (AB (AE.mk (AR l 2) 0) 3).2 3).1)))) kr (fun h1 => ?_) (fun h1 => ?_)
 ·have g1:=oT h1
  have k1:=P9 g1 (by decide) (by decide) (by decide) (by decide)
  have kk1:=M5 g1 (by decide) (by decide) (by decide) (by decide)
  refine Ad<|AJ ?_
  refine AD<|AX<|AD ?_
  refine dw [] [(55,(Z5y v5)),(60,(Z5z v5)),(62,(Z5A v5))] [0<=(v8:Int)/\(v8:Int)<((3:Nat):Int),Ay (Z5y v5).2.1,Bu (KH v5),0<=((AB v5 2).1:Int)/\((AB v5 2).1:Int)<(([Z5g l,Z5h l].length:Nat):Int),Ay (Z5z v5).2.1,Bu (KQ v5),Ay (Z5A v5).2.1,Bu (.cells (AE.c (AB (AB v5 2).2 4).2) 146)] ⟨(De l [(6,tP 6 0),(7,Z5r l),(8,tI v8),(9,tP 9 0)]),[(2,Z5f),(6,Z5w l v6_4),(9,.cells [.i (W64 (1+v8)),.s (([({ data := #[82,49] }:ByteArray),({ data := #[82,50] }:ByteArray),({ data := #[120,47,82,49] }:ByteArray)]:List ByteArray).getD v8.toNat ⟨#[]⟩),.s ([Z5g l,Z5h l].getD (AB v5 2).1.toNat default).Name,.i 0,.i 0,.i (FM v5).1,.b (JT v5)] 59),(25,.cells (AE.c (Z5B v5)) 146),(31,Z5l),(100000,Z5x v6_4)]⟩ (.cons (cWr (BT v5 2 au5 au6)) (.cons (cWr (BT (AB v5 2).2 4 au5 au6)) (.cons (cWr (BT (AB (AB v5 2).2 4).2 3 au5 au6)) .nil))) (.cons au13 (.cons rfl (.cons rfl (.cons au13 (.cons rfl (.cons rfl (.cons rfl (.cons rfl .nil))))))))<|AJ<|AD ?_
  refine rc [(69,(Z5C v5)),(73,(Z5D v5)),(77,(Z5F v5))] [Ay (Z5C v5).2.1,Bu (.cells (AE.c (Z5B v5)) 146),Ay (Z5D v5).2.1,Bu (.cells (AE.c (AB (Z5B v5) 5).2) 146),Ay (Z5F v5).2.1,Bu (.cells (AE.c (Z5E v5)) 146)] ⟨(De l [(6,tP 6 0),(7,Z5r l),(8,tI v8),(9,tP 9 0)]),[(2,Z5f),(6,Z5w l v6_4),(9,.cells [.i (W64 (1+v8)),.s (([({ data := #[82,49] }:ByteArray),({ data := #[82,50] }:ByteArray),({ data := #[120,47,82,49] }:ByteArray)]:List ByteArray).getD v8.toNat ⟨#[]⟩),.s ([Z5g l,Z5h l].getD (AB v5 2).1.toNat default).Name,.i (W64 ((W64 (80+(W64 (100*v8))))+(W64 (5*(Fh v5).1)))),.i (W64 ((W64 (100+(W64 (80*(AB (Fh v5).2 3).1))))+(W64 (5*(AB (Z5E v5) 3).1)))),.i (FM v5).1,.b (JT v5)] 59),(25,Z5G v5),(31,Z5l),(100000,Z5x v6_4)]⟩ (.cons (cWr (BT (Z5B v5) 5 au5 au6)) (.cons (cWr (BT (AB (Z5B v5) 5).2 3 au5 au6)) (.cons (cWr (BT (Z5E v5) 3 au5 au6)) .nil))) (.cons rfl (.cons rfl (.cons rfl (.cons rfl (.cons rfl (.cons rfl .nil))))))<|AJ ?_
  refine rc [] [v6_4.length=v6_4.length,v6_4.length+1<=maxLen,(v6_4.length+1)*72<=140737488355328] ⟨(De l [(6,tP 6 0),(7,Z5r l),(8,tI v8)]),[(2,Z5f),(6,.cells (FK l [.own 86 7 (v6_4.length+1),.own 31 2 3,vN,vN,vN,vN,vN,vN,vN,vN,vN]) 42),(25,Z5G v5),(31,Z5l),(86,.row 7 (v6_4.length+1) (fun i_ j_=>if i_<v6_4.length then (AU AG.c v6_4) i_ j_ else (Au 7 1 [.i (W64 (1+v8)),.s (([({ data := #[82,49] }:ByteArray),({ data := #[82,50] }:ByteArray),({ data := #[120,47,82,49] }:ByteArray)]:List ByteArray).getD v8.toNat ⟨#[]⟩),.s ([Z5g l,Z5h l].getD (AB v5 2).1.toNat default).Name,.i (W64 ((W64 (80+(W64 (100*v8))))+(W64 (5*(Fh v5).1)))),.i (W64 ((W64 (100+(W64 (80*(AB (Fh v5).2 3).1))))+(W64 (5*(AB (Z5E v5) 3).1)))),.i (FM v5).1,.b (JT v5)]) (i_-v6_4.length) j_) 59)]⟩ .nil (.cons rfl (.cons au18 (.cons au18 .nil)))<|Bg<|AJ ?_
  refine BL (Cv.trans (BH (⟨(De l [(6,tP 6 0),(7,Z5r l),(8,tI v8)]),[(2,Z5f),(6,Z5H l v6_4 v8 v5),(25,Z5G v5),(31,Z5l),(86,Z5I v6_4 v8 l v5)]⟩) lr (.cons ⟨rfl,.refl _⟩ (.cons ⟨rfl,.cells _ (rr4 (.cons (.own _ _ au0) (rr (rr (rr (rr (rr (rr (rr (rr (rr (rr .nil))))))))))))⟩ (.cons ⟨rfl,.refl _⟩ (.cons ⟨rfl,.refl _⟩ (.cons ⟨rfl,Ai 59 (BM (A8 7 AG.c v6_4) (Ar (c:=AG.c) (xs:=([AG.mk (W64 (1+v8)) (([({ data := #[82,49] }:ByteArray),({ data := #[82,50] }:ByteArray),({ data := #[120,47,82,49] }:ByteArray)]:List ByteArray).getD v8.toNat ⟨#[]⟩) ([Z5g l,Z5h l].getD (AB v5 2).1.toNat default).Name (AF.mk (W64 ((W64 (80+(W64 (100*v8))))+(W64 (5*(AB (Z5B v5) 5).1)))) (W64 ((W64 (100+(W64 (80*(AB (AB (Z5B v5) 5).2 3).1))))+(W64 (5*(AB (Z5E v5) 3).1))))) (AB (AB v5 2).2 4).1 (JT v5)]:List AG)) rfl kr))⟩ .nil)))))) (Cv.refl _)) ?_
  refine rg ⟨(De l [(6,tP 6 0),(7,Z5r l),(8,tI (W64 (v8+1)))]),[(2,Z5f),(6,Z5H l v6_4 v8 v5),(25,Z5G v5),(31,Z5l),(86,Z5I v6_4 v8 l v5)]⟩ ?_
  (try rw [(show W64 (v8+1)=v8+1 from Ap oM au8)])
  refine AJ ?_
  refine ⟨(n0,v6_4++[AG.mk (W64 (1+v8)) (([({ data := #[82,49] }:ByteArray),({ data := #[82,50] }:ByteArray),({ data := #[120,47,82,49] }:ByteArray)]:List ByteArray).getD v8.toNat ⟨#[]⟩) ([Z5g l,Z5h l].getD (AB v5 2).1.toNat default).Name (AF.mk (W64 ((W64 (80+(W64 (100*v8))))+(W64 (5*(AB (Z5B v5) 5).1)))) (W64 ((W64 (100+(W64 (80*(AB (AB (Z5B v5) 5).2 3).1))))+(W64 (5*(AB (Z5E v5) 3).1))))) (AB (AB v5 2).2 4).1 (JT v5)],(AB (Z5E v5) 3).2,v8+1),⟨?_,?_,(by rw [<- hF0];simp only [CI,h1,cond_true,cond_false])⟩,Nat.lt_succ_self _,Cv.trans (vr 86 100000 hk0) (A9 kr)⟩
  ·show ((W64 (1+(AB (AB (AE.mk (AR l 2) 0) 3).2 3).1))-(v8+1)).toNat<n0;omega
  exact ⟨ax0,(by show Na [A2 (AR l 0) ({ data := #[82] }:ByteArray),A2 (AR l 1) ({ data := #[81] }:ByteArray)] (v6_4++[AG.mk (W64 (1+v8)) (([({ data := #[82,49] }:ByteArray),({ data := #[82,50] }:ByteArray),({ data := #[120,47,82,49] }:ByteArray)]:List ByteArray).getD v8.toNat ⟨#[]⟩) ([Z5g l,Z5h l].getD (AB v5 2).1.toNat default).Name (AF.mk (W64 ((W64 (80+(W64 (100*v8))))+(W64 (5*(AB (Z5B v5) 5).1)))) (W64 ((W64 (100+(W64 (80*(AB (AB (Z5B v5) 5).2 3).1))))+(W64 (5*(AB (Z5E v5) 3).1))))) (AB (AB v5 2).2 4).1 (JT v5)]);first | exact Tr | exact Ts (by assumption) (Ny _ _ _ (Ct _ 2 (by decide) (by decide))) | assumption),(by show Bi ((AB (Z5E v5) 3).2);repeat (first | with_reducible assumption | exact Ca (C6 hll _) | with_reducible refine BR ?_ | with_reducible refine D3 ?_ | with_reducible refine DK ?_ | with_reducible refine C0 ?_  | with_reducible refine Cg ?_ ?_)),ax0,ax0,ax0⟩
 have g1:=oF h1
 have k1:=QK g1 (by decide) (by decide) (by decide) (by decide)
 refine BO<|BD ?_
 refine BD<|BP ?_
 refine AJ<|AD ?_
 refine rs 89 (Dx l 3) ⟨(CP l []),[(2,Z5f),(6,Z5w l v6_4),(31,Z5l),(91,Z5t l),(100000,Z5x v6_4)]⟩ (FB l 3 au12)<|AJ ?_
 refine AD<|AD ?_
 refine rn ⟨(CP l [(10,tI 0)]),[(2,Z5f),(6,Z5w l v6_4),(31,Z5l),(91,Z5t l),(100000,Z5x v6_4)]⟩<|AX ?_
 refine BL (Cv.trans (vg 100001 2 (fun _ _=>default) 25 [] [(31,[1])] hk0) (Cv.trans (vg 100002 2 (fun _ _=>default) 25 [] [(31,[3])] hk0) (Cv.trans (wg (⟨(CP l [(10,tI 0)]),[(100003,.row 2 0 (fun _ _=>default) 25),(100002,.row 2 0 (fun _ _=>default) 25),(100001,.row 2 0 (fun _ _=>default) 25),(2,Z5f),(6,Z5w l v6_4),(31,.rowx 2 3 (fun _ _=>default) 48 [(0,[.s ({ data := #[78,49] }:ByteArray),.own 100001 2 0]),(1,[.s ({ data := #[78,50] }:ByteArray),.own 100002 2 0]),(2,[.s ({ data := #[71,78,68] }:ByteArray),.own 100003 2 0])]),(91,Z5t l),(100000,Z5x v6_4)]⟩) 100003 2 (fun _ _=>default) 25 [] [(31,[5])] hk0) (Cv.trans (BH (⟨(CP l [(10,tI 0)]),[(100003,Z5J),(100002,Z5J),(100001,Z5J),(2,Z5f),(6,Z5w l v6_4),(31,Z68),(91,Z5t l),(100000,Z5x v6_4)]⟩) lr (.cons ⟨rfl,Ai 25 (B5 2 (fun _ _=>default) Ab.c)⟩ (.cons ⟨rfl,Ai 25 (B5 2 (fun _ _=>default) Ab.c)⟩ (.cons ⟨rfl,Ai 25 (B5 2 (fun _ _=>default) Ab.c)⟩ (.cons ⟨rfl,.refl _⟩ (.cons ⟨rfl,.refl _⟩ (.cons ⟨rfl,.rowx _ _ _ _ (.cons ⟨rfl,(rr (.cons (.own _ _ au0) .nil))⟩ (.cons ⟨rfl,(rr (.cons (.own _ _ au0) .nil))⟩ (.cons ⟨rfl,(rr (.cons (.own _ _ au0) .nil))⟩ .nil)))⟩ lr))))))) (Cv.trans (ck (⟨(CP l [(10,tI 0)]),[(2,Z5f),(6,Z5w l v6_4),(31,Z68),(91,Z5t l),(100000,Z5x v6_4),(100001,Z5J),(100002,Z5J),(100003,Z5J)]⟩)) (Cv.refl _)))))) ?_
 refine BN (ι:=Nat×List Ab×List Ab×List Ab×AE×Int) (fun x=>⟨(CP l [(10,tI x.2.2.2.2.2)]),[(2,Z5f),(6,Z5w l v6_4),(31,.rowx 2 3 (fun _ _=>default) 48 [(0,[.s ({ data := #[78,49] }:ByteArray),.own 100001 2 x.2.1.length]),(1,[.s ({ data := #[78,50] }:ByteArray),.own 100002 2 x.2.2.1.length]),(2,[.s ({ data := #[71,78,68] }:ByteArray),.own 100003 2 x.2.2.2.1.length])]),(91,.cells (AE.c x.2.2.2.2.1) 146),(100000,Z5x v6_4),(100001,.row 2 x.2.1.length (AU Ab.c x.2.1) 25),(100002,.row 2 x.2.2.1.length (AU Ab.c x.2.2.1) 25),(100003,.row 2 x.2.2.2.1.length (AU Ab.c x.2.2.2.1) 25)]⟩) (fun x=>((W64 (1+(AB (AB (AE.mk (AR l 2) 0) 3).2 3).1))-x.2.2.2.2.2).toNat<x.1/\(Cw x.2.1 (6*x.2.2.2.2.2)/\Cw x.2.2.1 (6*x.2.2.2.2.2)/\Cw x.2.2.2.1 (6*x.2.2.2.2.2)/\Bi x.2.2.2.2.1/\0<=x.2.2.2.2.2/\(x.2.2.2.2.2<=(W64 (1+(AB (AB (AE.mk (AR l 2) 0) 3).2 3).1))\/x.2.2.2.2.2=0))/\Cp l v6_4 v5 v8 (CI l n0) x.1 x.2.1 x.2.2.1 x.2.2.2.1 x.2.2.2.2.1 x.2.2.2.2.2=CW l) (fun x=>x.1) ?_ (((W64 (1+(AB (AB (AE.mk (AR l 2) 0) 3).2 3).1))-0).toNat+1,([]:List Ab),([]:List Ab),([]:List Ab),AE.mk (AR l 3) 0,0) ⟨Nat.lt_succ_self _,⟨(by show Cw ([]:List Ab) (6*0);unfold Cw at *;repeat (first | omega | exact EG oM | refine EF ?_ ?_ | (simp;done))),(by show Cw ([]:List Ab) (6*0);unfold Cw at *;repeat (first | omega | exact EG oM | refine EF ?_ ?_ | (simp;done))),(by show Cw ([]:List Ab) (6*0);unfold Cw at *;repeat (first | omega | exact EG oM | refine EF ?_ ?_ | (simp;done))),(by show Bi (AE.mk (AR l 3) 0);repeat (first | with_reducible assumption | exact Ca (C6 hll _) | with_reducible refine BR ?_ | with_reducible refine D3 ?_ | with_reducible refine DK ?_ | with_reducible refine C0 ?_  | with_reducible refine Cg ?_ ?_)),ax0,ax0⟩,(by rw [<- hF0];simp only [CI,h1,cond_true,cond_false])⟩
 rintro ⟨n1,v31_1,v31_3,v31_5,v5',v10⟩ ⟨hm1,hinv1,hF1⟩
 try dsimp only at hm1 hinv1 hF1
 cases n1 with | zero=>exact nz hm1 | succ n1 => ?_
 have hi1_0:=hinv1.1
 have hi1_1:=hinv1.2.1
 have hi1_2:=hinv1.2.2.1
 have hi1_3:=hinv1.2.2.2.1
 refine AD<|AD ?_
 refine rn ⟨(CP l [(10,tI v10),(94,Z5O v10 l)]),[(2,Z5f),(6,Z5w l v6_4),(31,Z69 v31_1 v31_3 v31_5),(Hg v5'),(100000,Z5x v6_4),(100001,Z5K v31_1),(100002,Z5L v31_3),(100003,Z5M v31_5)]⟩ ?_
 refine Aa (decide ((v10:Int)<(W64 (1+(AB (AB (AE.mk (AR l 2) 0) 3).2 3).1)))) kr (fun h2 => ?_) (fun h2 => ?_)
 ·have g2:=oT h2
  have k2:=P9 g2 (by decide) (by decide) (by decide) (by decide)
  have kk2:=M5 g2 (by decide) (by decide) (by decide) (by decide)
  refine Ad<|AJ ?_
  refine AD<|AX<|AD ?_
  refine rc [(105,NS [Z5g l,Z5h l] (v6_4.getD v10.toNat default).Type')] [0<=(v10:Int)/\(v10:Int)<((v6_4.length:Nat):Int),v10.toNat<v6_4.length,Ay (NS [Z5g l,Z5h l] (v6_4.getD v10.toNat default).Type').2.1] ⟨(CP l [(10,tI v10),(11,tP 11 0)]),(Dj l v6_4 v10 [(31,Z69 v31_1 v31_3 v31_5),(Hg v5'),(100000,Z5x v6_4),(100001,Z5K v31_1),(100002,Z5L v31_3),(100003,Z5M v31_5)])⟩ (.cons (Tz [Z5g l,Z5h l] (v6_4.getD v10.toNat default).Type' au12) .nil) (.cons au13 (.cons au13 (.cons rfl .nil)))<|AJ<|AD ?_
  refine rn ⟨(CP l [(10,tI v10),(11,tP 11 0),(13,tI 0)]),(Dj l v6_4 v10 [(31,Z69 v31_1 v31_3 v31_5),(Hg v5'),(100000,Z5x v6_4),(100001,Z5K v31_1),(100002,Z5L v31_3),(100003,Z5M v31_5)])⟩<|AX ?_
  refine BN (ι:=Nat×List Ab×List Ab×List Ab×AE×Int) (fun x=>⟨(CP l [(10,tI v10),(11,tP 11 0),(13,tI x.2.2.2.2.2)]),(Dj l v6_4 v10 [(31,.rowx 2 3 (fun _ _=>default) 48 [(0,[.s ({ data := #[78,49] }:ByteArray),.own 100001 2 x.2.1.length]),(1,[.s ({ data := #[78,50] }:ByteArray),.own 100002 2 x.2.2.1.length]),(2,[.s ({ data := #[71,78,68] }:ByteArray),.own 100003 2 x.2.2.2.1.length])]),(91,.cells (AE.c x.2.2.2.2.1) 146),(100000,Z5x v6_4),(100001,.row 2 x.2.1.length (AU Ab.c x.2.1) 25),(100002,.row 2 x.2.2.1.length (AU Ab.c x.2.2.1) 25),(100003,.row 2 x.2.2.2.1.length (AU Ab.c x.2.2.2.1) 25)])⟩) (fun x=>(((Z5P l v6_4 v10).Pads.length:Int)-x.2.2.2.2.2).toNat<x.1/\(Cw x.2.1 (6*v10+x.2.2.2.2.2)/\Cw x.2.2.1 (6*v10+x.2.2.2.2.2)/\Cw x.2.2.2.1 (6*v10+x.2.2.2.2.2)/\Bi x.2.2.2.2.1/\0<=x.2.2.2.2.2/\(x.2.2.2.2.2<=((Z5P l v6_4 v10).Pads.length:Int)\/x.2.2.2.2.2=0))/\C1 l v6_4 v5 v8 v31_1 v31_3 v31_5 v5' v10 (CI l n0) (Cp l v6_4 v5 v8 (CI l n0) n1) x.1 x.2.1 x.2.2.1 x.2.2.2.1 x.2.2.2.2.1 x.2.2.2.2.2=CW l) (fun x=>x.1) ?_ ((((Z5P l v6_4 v10).Pads.length:Int)-0).toNat+1,v31_1,v31_3,v31_5,v5',0) ⟨Nat.lt_succ_self _,⟨(by show Cw v31_1 (6*v10+0);unfold Cw at *;repeat (first | omega | exact EG oM | refine EF ?_ ?_ | (simp;done))),(by show Cw v31_3 (6*v10+0);unfold Cw at *;repeat (first | omega | exact EG oM | refine EF ?_ ?_ | (simp;done))),(by show Cw v31_5 (6*v10+0);unfold Cw at *;repeat (first | omega | exact EG oM | refine EF ?_ ?_ | (simp;done))),(by show Bi v5';repeat (first | with_reducible assumption | exact Ca (C6 hll _) | with_reducible refine BR ?_ | with_reducible refine D3 ?_ | with_reducible refine DK ?_ | with_reducible refine C0 ?_  | with_reducible refine Cg ?_ ?_)),ax0,ax0⟩,(by rw [<- hF1];simp only [Cp,h2,cond_true,cond_false])⟩
  rintro ⟨n2,v31_1',v31_3',v31_5',v5'',v13⟩ ⟨hm2,hinv2,hF2⟩
  try dsimp only at hm2 hinv2 hF2
  cases n2 with | zero=>exact nz hm2 | succ n2 => ?_
  have hi2_0:=hinv2.1
  have hi2_1:=hinv2.2.1
  have hi2_2:=hinv2.2.2.1
  have hi2_3:=hinv2.2.2.2.1
  have hp6:((Z5P l v6_4 v10).Pads.length:Int)<=6:=(hi0_1 v10 oM oM).2
  refine AD<|AD ?_
  refine rn ⟨(CP l [(10,tI v10),(11,tP 11 0),(13,tI v13),(112,tB (decide ((v13:Int)<((Z5P l v6_4 v10).Pads.length:Int))))]),(Dj l v6_4 v10 [(31,Z6a v31_1' v31_3' v31_5'),(91,.cells (AE.c v5'') 146),(100000,Z5x v6_4),(100001,Z5R v31_1'),(100002,Z5S v31_3'),(100003,Z5T v31_5')])⟩ ?_
  refine Aa _ rfl (fun h3 => ?_) (fun h3 => ?_)
  ·have g3:=oT h3
   refine Ad<|AJ<|AD ?_
   refine Bz (⟨[(0,.av (oL l)),(2,tP 2 0),(4,tO (lst 3 AP.c [Z5g l,Z5h l])),(5,tP 91 0),(6,tP 6 0),(7,tI (W64 (1+(AB (Fl l).2 3).1))),(10,tI v10),(11,tP 11 0),(13,tI v13)],[(2,.cells Nv 42),(6,.cells [.i 2,.i (Z5o l).Kind,lst 7 AO.c (Z5o l).Edges,.i (Z5o l).R,.own 100000 7 v6_4.length,.own 31 2 3,vN,vN,vN,vN,vN,vN,vN,vN,vN] 42),(11,.cells (AP.c (Z5P l v6_4 v10)) 114),(31,.rowx 2 3 (fun _ _=>default) 48 [(0,[.s ({ data := #[78,49] }:ByteArray),.own 100004 2 (Z5Y v5'' v31_1' v6_4 v10 l v13).length]),(1,[.s ({ data := #[78,50] }:ByteArray),.own 100005 2 (Z5Z v5'' v31_3' v6_4 v10 l v13).length]),(2,[.s ({ data := #[71,78,68] }:ByteArray),.own 100006 2 (Z60 v5'' v31_5' v6_4 v10 l v13).length])]),(F9 v5''),(100000,.row 7 v6_4.length (AU AG.c v6_4) 59),(100004,.row 2 (Z5Y v5'' v31_1' v6_4 v10 l v13).length (AU Ab.c (Z5Y v5'' v31_1' v6_4 v10 l v13)) 25),(100005,.row 2 (Z5Z v5'' v31_3' v6_4 v10 l v13).length (AU Ab.c (Z5Z v5'' v31_3' v6_4 v10 l v13)) 25),(100006,.row 2 (Z60 v5'' v31_5' v6_4 v10 l v13).length (AU Ab.c (Z60 v5'' v31_5' v6_4 v10 l v13)) 25)]⟩) ?_ ?_
   ·refine AX<|AD ?_
    refine rb 116 (Z5U v5'') (.cells (AE.c v5'') 146) ⟨(CP l [(10,tI v10),(11,tP 11 0),(13,tI v13),(14,tI (AB v5'' 5).1)]),(Dj l v6_4 v10 [(31,Z6a v31_1' v31_3' v31_5'),(F9 v5''),(100000,Z5x v6_4),(100001,Z5R v31_1'),(100002,Z5S v31_3'),(100003,Z5T v31_5')])⟩ (cWr (BT v5'' 5 au5 au6))<|AJ<|AD ?_
    refine rn ⟨(CP l [(10,tI v10),(11,tP 11 0),(13,tI v13),(14,tI (AB v5'' 5).1),(118,tB (decide (((AB v5'' 5).1:Int)<3)))]),(Dj l v6_4 v10 [(31,Z6a v31_1' v31_3' v31_5'),(F9 v5''),(100000,Z5x v6_4),(100001,Z5R v31_1'),(100002,Z5S v31_3'),(100003,Z5T v31_5')])⟩ ?_
    refine Aa _ rfl (fun h4 => ?_) (fun h4 => ?_)
    ·have g4:=oT h4
     refine Rv (decide (((AB v5'' 5).1:Int)=0)) (fun h5 => ?_) (fun h5 => ?_)
     ·have g5:=oT h5
      (try rw [g5])
      refine dw [] [] [0<=(0:Int)/\(0:Int)<((3:Nat):Int),0<=(v10:Int)/\(v10:Int)<((v6_4.length:Nat):Int),v10.toNat<v6_4.length,0<=(v13:Int)/\(v13:Int)<(((Z5P l v6_4 v10).Pads.length:Nat):Int),v31_1'.length=v31_1'.length,v31_1'.length+1<=maxLen,(v31_1'.length+1)*32<=140737488355328,0<=(0:Int)/\(0:Int)<((3:Nat):Int)] ⟨(CP l [(10,tI v10),(11,tP 11 0),(13,tI v13)]),(Dj l v6_4 v10 [(31,.rowx 2 3 (fun _ _=>default) 48 [(0,[.s ({ data := #[78,49] }:ByteArray),.own 142 2 (v31_1'.length+1)]),(1,[.s ({ data := #[78,50] }:ByteArray),.own 100002 2 v31_3'.length]),(2,[.s ({ data := #[71,78,68] }:ByteArray),.own 100003 2 v31_5'.length])]),(F9 v5''),(142,.row 2 (v31_1'.length+1) (fun i_ j_=>if i_<v31_1'.length then (AU Ab.c v31_1') i_ j_ else (SH v6_4 v10 l v13) (i_-v31_1'.length) j_) 25),(100000,Z5x v6_4),(100002,Z5S v31_3'),(100003,Z5T v31_5')])⟩ .nil (.cons au13 (.cons au13 (.cons au13 (.cons au13 (.cons rfl (.cons au18 (.cons au18 (.cons au13 .nil))))))))<|Bg<|AJ ?_
      refine Cv.trans (BH (⟨(CP l [(10,tI v10),(11,tP 11 0),(13,tI v13)]),(Dj l v6_4 v10 [(31,.rowx 2 3 (fun _ _=>default) 48 [(0,[.s ({ data := #[78,49] }:ByteArray),.own 142 2 (v31_1'++(HR v6_4 v10 l v13)).length]),(1,[.s ({ data := #[78,50] }:ByteArray),.own 100002 2 v31_3'.length]),(2,[.s ({ data := #[71,78,68] }:ByteArray),.own 100003 2 v31_5'.length])]),(F9 v5''),(142,Z5V v31_1' v6_4 v10 l v13),(100000,Z5x v6_4),(100002,Z5S v31_3'),(100003,Z5T v31_5')])⟩) lr (.cons ⟨rfl,.refl _⟩ (.cons ⟨rfl,.refl _⟩ (.cons ⟨rfl,.refl _⟩ (.cons ⟨rfl,.rowx _ _ _ _ (.cons ⟨rfl,(rr (.cons (.own _ _ au0) .nil))⟩ (.cons ⟨rfl,(rr2 .nil)⟩ (.cons ⟨rfl,(rr2 .nil)⟩ .nil)))⟩ (.cons ⟨rfl,.refl _⟩ (.cons ⟨rfl,Ai 25 (BM (A8 2 Ab.c v31_1') (Ar (c:=Ab.c) (xs:=([Ab.mk (v6_4.getD v10.toNat default).Ref ((Z5P l v6_4 v10).Pads.getD v13.toNat default).Name]:List Ab)) rfl kr))⟩ lr))))))) (Cv.trans (vr 142 100004 hk0) (Cv.trans (vr 100002 100005 hk0) (Cv.trans (vr 100003 100006 hk0) (Cv.trans (ck (⟨(CP l [(10,tI v10),(11,tP 11 0),(13,tI v13)]),(Dj l v6_4 v10 [(31,Z6b v31_1' v6_4 v10 l v13 v31_3' v31_5'),(F9 v5''),(100000,Z5x v6_4),(100004,Z5V v31_1' v6_4 v10 l v13),(100005,Z5S v31_3'),(100006,Z5T v31_5')])⟩)) (A9 ?_)))))
      first | rfl | (simp only [h4,h5,Z5Y,Z5Z,Z60,cond_true,cond_false] <;> rfl)
     have g5:=oF h5
     refine Rv (decide (((AB v5'' 5).1:Int)=1)) (fun h6 => ?_) (fun h6 => ?_)
     ·have g6:=oT h6
      (try rw [g6])
      refine dw [] [] [0<=(1:Int)/\(1:Int)<((3:Nat):Int),0<=(v10:Int)/\(v10:Int)<((v6_4.length:Nat):Int),v10.toNat<v6_4.length,0<=(v13:Int)/\(v13:Int)<(((Z5P l v6_4 v10).Pads.length:Nat):Int),v31_3'.length=v31_3'.length,v31_3'.length+1<=maxLen,(v31_3'.length+1)*32<=140737488355328,0<=(1:Int)/\(1:Int)<((3:Nat):Int)] ⟨(CP l [(10,tI v10),(11,tP 11 0),(13,tI v13)]),(Dj l v6_4 v10 [(31,.rowx 2 3 (fun _ _=>default) 48 [(0,[.s ({ data := #[78,49] }:ByteArray),.own 100001 2 v31_1'.length]),(1,[.s ({ data := #[78,50] }:ByteArray),.own 142 2 (v31_3'.length+1)]),(2,[.s ({ data := #[71,78,68] }:ByteArray),.own 100003 2 v31_5'.length])]),(F9 v5''),(142,.row 2 (v31_3'.length+1) (fun i_ j_=>if i_<v31_3'.length then (AU Ab.c v31_3') i_ j_ else (SH v6_4 v10 l v13) (i_-v31_3'.length) j_) 25),(100000,Z5x v6_4),(100001,Z5R v31_1'),(100003,Z5T v31_5')])⟩ .nil (.cons au13 (.cons au13 (.cons au13 (.cons au13 (.cons rfl (.cons au18 (.cons au18 (.cons au13 .nil))))))))<|Bg<|AJ ?_
      refine Cv.trans (BH (⟨(CP l [(10,tI v10),(11,tP 11 0),(13,tI v13)]),(Dj l v6_4 v10 [(31,.rowx 2 3 (fun _ _=>default) 48 [(0,[.s ({ data := #[78,49] }:ByteArray),.own 100001 2 v31_1'.length]),(1,[.s ({ data := #[78,50] }:ByteArray),.own 142 2 (v31_3'++(HR v6_4 v10 l v13)).length]),(2,[.s ({ data := #[71,78,68] }:ByteArray),.own 100003 2 v31_5'.length])]),(F9 v5''),(142,Z5W v31_3' v6_4 v10 l v13),(100000,Z5x v6_4),(100001,Z5R v31_1'),(100003,Z5T v31_5')])⟩) lr (.cons ⟨rfl,.refl _⟩ (.cons ⟨rfl,.refl _⟩ (.cons ⟨rfl,.refl _⟩ (.cons ⟨rfl,.rowx _ _ _ _ (.cons ⟨rfl,(rr2 .nil)⟩ (.cons ⟨rfl,(rr (.cons (.own _ _ au0) .nil))⟩ (.cons ⟨rfl,(rr2 .nil)⟩ .nil)))⟩ (.cons ⟨rfl,.refl _⟩ (.cons ⟨rfl,Ai 25 (BM (A8 2 Ab.c v31_3') (Ar (c:=Ab.c) (xs:=([Ab.mk (v6_4.getD v10.toNat default).Ref ((Z5P l v6_4 v10).Pads.getD v13.toNat default).Name]:List Ab)) rfl kr))⟩ lr))))))) (Cv.trans (vr 100001 100004 hk0) (Cv.trans (vr 142 100005 hk0) (Cv.trans (vr 100003 100006 hk0) (Cv.trans (ck (⟨(CP l [(10,tI v10),(11,tP 11 0),(13,tI v13)]),(Dj l v6_4 v10 [(31,Z6c v31_1' v31_3' v6_4 v10 l v13 v31_5'),(F9 v5''),(100000,Z5x v6_4),(100004,Z5R v31_1'),(100005,Z5W v31_3' v6_4 v10 l v13),(100006,Z5T v31_5')])⟩)) (A9 ?_)))))
      first | rfl | (simp only [h4,h5,h6,Z5Y,Z5Z,Z60,cond_true,cond_false] <;> rfl)
     have g6:=oF h6
     have g7:((AB v5'' 5).1:Int)=2:=VK (by with_reducible assumption) (by with_reducible assumption) (by with_reducible assumption)
     (try rw [g7])
     refine dw [] [] [0<=(2:Int)/\(2:Int)<((3:Nat):Int),0<=(v10:Int)/\(v10:Int)<((v6_4.length:Nat):Int),v10.toNat<v6_4.length,0<=(v13:Int)/\(v13:Int)<(((Z5P l v6_4 v10).Pads.length:Nat):Int),v31_5'.length=v31_5'.length,v31_5'.length+1<=maxLen,(v31_5'.length+1)*32<=140737488355328,0<=(2:Int)/\(2:Int)<((3:Nat):Int)] ⟨(CP l [(10,tI v10),(11,tP 11 0),(13,tI v13)]),(Dj l v6_4 v10 [(31,.rowx 2 3 (fun _ _=>default) 48 [(0,[.s ({ data := #[78,49] }:ByteArray),.own 100001 2 v31_1'.length]),(1,[.s ({ data := #[78,50] }:ByteArray),.own 100002 2 v31_3'.length]),(2,[.s ({ data := #[71,78,68] }:ByteArray),.own 142 2 (v31_5'.length+1)])]),(F9 v5''),(142,.row 2 (v31_5'.length+1) (fun i_ j_=>if i_<v31_5'.length then (AU Ab.c v31_5') i_ j_ else (SH v6_4 v10 l v13) (i_-v31_5'.length) j_) 25),(100000,Z5x v6_4),(100001,Z5R v31_1'),(100002,Z5S v31_3')])⟩ .nil (.cons au13 (.cons au13 (.cons au13 (.cons au13 (.cons rfl (.cons au18 (.cons au18 (.cons au13 .nil))))))))<|Bg<|AJ ?_
     refine Cv.trans (BH (⟨(CP l [(10,tI v10),(11,tP 11 0),(13,tI v13)]),(Dj l v6_4 v10 [(31,.rowx 2 3 (fun _ _=>default) 48 [(0,[.s ({ data := #[78,49] }:ByteArray),.own 100001 2 v31_1'.length]),(1,[.s ({ data := #[78,50] }:ByteArray),.own 100002 2 v31_3'.length]),(2,[.s ({ data := #[71,78,68] }:ByteArray),.own 142 2 (v31_5'++(HR v6_4 v10 l v13)).length])]),(F9 v5''),(142,Z5X v31_5' v6_4 v10 l v13),(100000,Z5x v6_4),(100001,Z5R v31_1'),(100002,Z5S v31_3')])⟩) lr (.cons ⟨rfl,.refl _⟩ (.cons ⟨rfl,.refl _⟩ (.cons ⟨rfl,.refl _⟩ (.cons ⟨rfl,.rowx _ _ _ _ (.cons ⟨rfl,(rr2 .nil)⟩ (.cons ⟨rfl,(rr2 .nil)⟩ (.cons ⟨rfl,(rr (.cons (.own _ _ au0) .nil))⟩ .nil)))⟩ (.cons ⟨rfl,.refl _⟩ (.cons ⟨rfl,Ai 25 (BM (A8 2 Ab.c v31_5') (Ar (c:=Ab.c) (xs:=([Ab.mk (v6_4.getD v10.toNat default).Ref ((Z5P l v6_4 v10).Pads.getD v13.toNat default).Name]:List Ab)) rfl kr))⟩ lr))))))) (Cv.trans (vr 100001 100004 hk0) (Cv.trans (vr 100002 100005 hk0) (Cv.trans (vr 142 100006 hk0) (Cv.trans (ck (⟨(CP l [(10,tI v10),(11,tP 11 0),(13,tI v13)]),(Dj l v6_4 v10 [(31,Z6d v31_1' v31_3' v31_5' v6_4 v10 l v13),(F9 v5''),(100000,Z5x v6_4),(100004,Z5R v31_1'),(100005,Z5S v31_3'),(100006,Z5X v31_5' v6_4 v10 l v13)])⟩)) (A9 ?_)))))
     first | rfl | (simp only [h4,h5,h6,Z5Y,Z5Z,Z60,cond_true,cond_false] <;> rfl)
    refine Ad<|Bg<|AJ ?_
    refine Cv.trans (vk [0,2,4,5,6,7,10,11,13] [2,6,11,31,91,100000,100001,100002,100003]) (Cv.trans (vr 100001 100004 hk0) (Cv.trans (vr 100002 100005 hk0) (Cv.trans (wr (⟨(CP l [(10,tI v10),(11,tP 11 0),(13,tI v13)]),(Dj l v6_4 v10 [(31,.rowx 2 3 (fun _ _=>default) 48 [(0,[.s ({ data := #[78,49] }:ByteArray),.own 100004 2 v31_1'.length]),(1,[.s ({ data := #[78,50] }:ByteArray),.own 100005 2 v31_3'.length]),(2,[.s ({ data := #[71,78,68] }:ByteArray),.own 100006 2 v31_5'.length])]),(F9 v5''),(100000,Z5x v6_4),(100004,Z5R v31_1'),(100005,Z5S v31_3'),(100006,Z5T v31_5')])⟩) 100003 100006 hk0) (A9 ?_))))
    first | rfl | (simp only [h4,Z5Y,Z5Z,Z60,cond_true,cond_false] <;> rfl)
   refine rg ⟨(CP l [(10,tI v10),(11,tP 11 0),(13,tI (W64 (v13+1)))]),(Dj l v6_4 v10 [(31,.rowx 2 3 (fun _ _=>default) 48 [(0,[.s ({ data := #[78,49] }:ByteArray),.own 100004 2 (Z5Y v5'' v31_1' v6_4 v10 l v13).length]),(1,[.s ({ data := #[78,50] }:ByteArray),.own 100005 2 (Z5Z v5'' v31_3' v6_4 v10 l v13).length]),(2,[.s ({ data := #[71,78,68] }:ByteArray),.own 100006 2 (Z60 v5'' v31_5' v6_4 v10 l v13).length])]),(F9 v5''),(100000,Z5x v6_4),(100004,Z61 v5'' v31_1' v6_4 v10 l v13),(100005,Z62 v5'' v31_3' v6_4 v10 l v13),(100006,Z63 v5'' v31_5' v6_4 v10 l v13)])⟩ ?_
   (try rw [(show W64 (v13+1)=v13+1 from Ap oM au8)])
   refine AJ ?_
   refine ⟨(n2,Z5Y v5'' v31_1' v6_4 v10 l v13,Z5Z v5'' v31_3' v6_4 v10 l v13,Z60 v5'' v31_5' v6_4 v10 l v13,(AB v5'' 5).2,v13+1),⟨?_,?_,(by rw [<- hF2];simp only [C1,h3,cond_true,cond_false])⟩,Nat.lt_succ_self _,Cv.trans (vr 100004 100001 hk0) (Cv.trans (vr 100005 100002 hk0) (Cv.trans (vr 100006 100003 hk0) (A9 kr)))⟩
   ·show (((Z5P l v6_4 v10).Pads.length:Int)-(v13+1)).toNat<n2;omega
   exact ⟨(by show Cw (Z5Y v5'' v31_1' v6_4 v10 l v13) (6*v10+(v13+1));unfold Cw at *;repeat (first | omega | exact EG oM | refine EF ?_ ?_ | (simp;done))),(by show Cw (Z5Z v5'' v31_3' v6_4 v10 l v13) (6*v10+(v13+1));unfold Cw at *;repeat (first | omega | exact EG oM | refine EF ?_ ?_ | (simp;done))),(by show Cw (Z60 v5'' v31_5' v6_4 v10 l v13) (6*v10+(v13+1));unfold Cw at *;repeat (first | omega | exact EG oM | refine EF ?_ ?_ | (simp;done))),(by show Bi ((AB v5'' 5).2);repeat (first | with_reducible assumption | exact Ca (C6 hll _) | with_reducible refine BR ?_ | with_reducible refine D3 ?_ | with_reducible refine DK ?_ | with_reducible refine C0 ?_  | with_reducible refine Cg ?_ ?_)),ax0,ax0⟩
  have g3:=oF h3
  refine BO<|BD ?_
  refine BD<|BP ?_
  refine Bg<|AJ ?_
  refine rg ⟨(CP l [(10,tI (W64 (v10+1)))]),[(2,Z5f),(6,Z5w l v6_4),(31,Z6a v31_1' v31_3' v31_5'),(91,.cells (AE.c v5'') 146),(100000,Z5x v6_4),(100001,Z5R v31_1'),(100002,Z5S v31_3'),(100003,Z5T v31_5')]⟩ ?_
  (try rw [(show W64 (v10+1)=v10+1 from Ap oM au8)])
  refine AJ ?_
  refine ⟨(n1,v31_1',v31_3',v31_5',v5'',v10+1),⟨?_,?_,(by rw [<- hF2];simp only [C1,h3,cond_true,cond_false])⟩,Nat.lt_succ_self _,A9 kr⟩
  ·show ((W64 (1+(AB (AB (AE.mk (AR l 2) 0) 3).2 3).1))-(v10+1)).toNat<n1;omega
  exact ⟨(by show Cw v31_1' (6*(v10+1));unfold Cw at *;repeat (first | omega | exact EG oM | refine EF ?_ ?_ | (simp;done))),(by show Cw v31_3' (6*(v10+1));unfold Cw at *;repeat (first | omega | exact EG oM | refine EF ?_ ?_ | (simp;done))),(by show Cw v31_5' (6*(v10+1));unfold Cw at *;repeat (first | omega | exact EG oM | refine EF ?_ ?_ | (simp;done))),(by show Bi v5'';repeat (first | with_reducible assumption | exact Ca (C6 hll _) | with_reducible refine BR ?_ | with_reducible refine D3 ?_ | with_reducible refine DK ?_ | with_reducible refine C0 ?_  | with_reducible refine Cg ?_ ?_)),ax0,ax0⟩
 have g2:=oF h2
 have k2:=QK g2 (by decide) (by decide) (by decide) (by decide)
 refine BO<|BD ?_
 refine BD<|BP ?_
 refine AJ<|AD ?_
 refine BL (Cv.trans (wf (⟨(CP l [(10,tI v10),(94,Z5O v10 l)]),[(2,Z5f),(6,Z5N l v6_4),(31,Z69 v31_1 v31_3 v31_5),(Hg v5'),(100001,Z5K v31_1),(100002,Z5L v31_3),(100003,Z5M v31_5)]⟩) 100000 7 v6_4.length (AU AG.c v6_4) 59 hk0 (.cons ⟨rfl,rfl⟩ .nil)) (Cv.refl _)) ?_
 refine BL (Cv.trans (vf 100001 2 v31_1.length (AU Ab.c v31_1) 25 hk0 (.cons ⟨rfl,rfl⟩ .nil)) (Cv.trans (vf 100002 2 v31_3.length (AU Ab.c v31_3) 25 hk0 (.cons ⟨rfl,rfl⟩ .nil)) (Cv.trans (wf (⟨(CP l [(10,tI v10),(94,Z5O v10 l)]),[(2,Z5f),(6,Z5N l v6_4),(31,.rowx 2 3 (fun _ _=>default) 48 [(0,[.s ({ data := #[78,49] }:ByteArray),lst 2 Ab.c v31_1]),(1,[.s ({ data := #[78,50] }:ByteArray),lst 2 Ab.c v31_3]),(2,[.s ({ data := #[71,78,68] }:ByteArray),lst 2 Ab.c v31_5])]),(Hg v5')]⟩) 100003 2 v31_5.length (AU Ab.c v31_5) 25 hk0 (.cons ⟨rfl,rfl⟩ .nil)) (Cv.trans (YG (⟨(CP l [(10,tI v10),(94,Z5O v10 l)]),[(2,Z5f),(6,Z5N l v6_4),(31,.row 2 3 (Au 2 3 [.s ({ data := #[78,49] }:ByteArray),lst 2 Ab.c v31_1,.s ({ data := #[78,50] }:ByteArray),lst 2 Ab.c v31_3,.s ({ data := #[71,78,68] }:ByteArray),lst 2 Ab.c v31_5]) 48),(Hg v5')]⟩) 31 2 3 (fun _ _=>default) 48 [[.s ({ data := #[78,49] }:ByteArray),lst 2 Ab.c v31_1],[.s ({ data := #[78,50] }:ByteArray),lst 2 Ab.c v31_3],[.s ({ data := #[71,78,68] }:ByteArray),lst 2 Ab.c v31_5]] kr kr kr kr) (Cv.trans (BH (⟨(CP l [(10,tI v10),(94,Z5O v10 l)]),[(2,Z5f),(6,.cells (FK l [lst 7 AG.c v6_4,.own 31 2 ([BA.mk ({ data := #[78,49] }:ByteArray) v31_1,BA.mk ({ data := #[78,50] }:ByteArray) v31_3,BA.mk ({ data := #[71,78,68] }:ByteArray) v31_5].length),vN,vN,vN,vN,vN,vN,vN,vN,vN]) 42),(31,.row 2 ([BA.mk ({ data := #[78,49] }:ByteArray) v31_1,BA.mk ({ data := #[78,50] }:ByteArray) v31_3,BA.mk ({ data := #[71,78,68] }:ByteArray) v31_5].length) (AU BA.c [BA.mk ({ data := #[78,49] }:ByteArray) v31_1,BA.mk ({ data := #[78,50] }:ByteArray) v31_3,BA.mk ({ data := #[71,78,68] }:ByteArray) v31_5]) 48),(Hg v5')]⟩) lr (.cons ⟨rfl,.refl _⟩ (.cons ⟨rfl,.cells _ (rr5 (.cons (.own _ _ au0) (rr (rr (rr (rr (rr (rr (rr (rr (rr .nil)))))))))))⟩ (.cons ⟨rfl,Ai 48 (Ar (c:=BA.c) (xs:=([BA.mk ({ data := #[78,49] }:ByteArray) v31_1,BA.mk ({ data := #[78,50] }:ByteArray) v31_3,BA.mk ({ data := #[71,78,68] }:ByteArray) v31_5]:List BA)) rfl kr)⟩ lr)))) (Cv.trans (wf (⟨(CP l [(10,tI v10),(94,Z5O v10 l)]),[(2,Z5f),(6,.cells (FK l [lst 7 AG.c v6_4,lst 2 BA.c [BA.mk ({ data := #[78,49] }:ByteArray) v31_1,BA.mk ({ data := #[78,50] }:ByteArray) v31_3,BA.mk ({ data := #[71,78,68] }:ByteArray) v31_5],vN,vN,vN,vN,vN,vN,vN,vN,vN]) 42),(Hg v5')]⟩) 31 2 ([BA.mk ({ data := #[78,49] }:ByteArray) v31_1,BA.mk ({ data := #[78,50] }:ByteArray) v31_3,BA.mk ({ data := #[71,78,68] }:ByteArray) v31_5].length) (AU BA.c [BA.mk ({ data := #[78,49] }:ByteArray) v31_1,BA.mk ({ data := #[78,50] }:ByteArray) v31_3,BA.mk ({ data := #[71,78,68] }:ByteArray) v31_5]) 48 hk0 (.cons ⟨rfl,rfl⟩ .nil)) (Cv.refl _))))))) ?_
 refine rb 147 (Z65 l v6_4 v31_1 v31_3 v31_5) (.cells (FK l [lst 7 AG.c v6_4,lst 2 BA.c [BA.mk ({ data := #[78,49] }:ByteArray) v31_1,BA.mk ({ data := #[78,50] }:ByteArray) v31_3,BA.mk ({ data := #[71,78,68] }:ByteArray) v31_5],vN,vN,vN,vN,vN,vN,vN,vN,vN]) 42) ⟨[(0,Z5e l),(2,tP 2 0),(4,Z5i l),(6,tP 6 0)],[(2,Z5f),(6,.cells (Ti l v6_4 v31_1 v31_3 v31_5) 42)]⟩ (cWr (Sf (AH.mk 2 (Z5o l) v6_4 [BA.mk ({ data := #[78,49] }:ByteArray) v31_1,BA.mk ({ data := #[78,50] }:ByteArray) v31_3,BA.mk ({ data := #[71,78,68] }:ByteArray) v31_5] [] [] [] [] [] [] [] [] []) [Z5g l,Z5h l] l au12 au12 au12 au12 au12 au12))<|AJ<|AD ?_
 refine rc [(149,Dx l 7),(152,(Z67 l v6_4 v31_1 v31_3 v31_5))] [Ay (Dx l 7).2.1,Ay (Z67 l v6_4 v31_1 v31_3 v31_5).2.1,QX [.cells (Ti l v6_4 v31_1 v31_3 v31_5) 42,.cells [lst 1 eIn (AR l 7),.i 0] 146]] ⟨[(2,tP 2 0),(4,Z5i l),(6,tP 6 0)],[(2,Z5f),(6,.cells (AH.c (Z66 l v6_4 v31_1 v31_3 v31_5).1) 42)]⟩ (.cons (FB l 7 au12) (.cons (TO (fun _ _=>kr) kr rfl rfl kr kr (Wq (AH.mk (Z64 l v6_4 v31_1 v31_3 v31_5).Layers (Z64 l v6_4 v31_1 v31_3 v31_5).Outline (Z64 l v6_4 v31_1 v31_3 v31_5).Parts (Z64 l v6_4 v31_1 v31_3 v31_5).Nets (Z64 l v6_4 v31_1 v31_3 v31_5).Tracks (Z64 l v6_4 v31_1 v31_3 v31_5).Vias (Z64 l v6_4 v31_1 v31_3 v31_5).Pours (Z64 l v6_4 v31_1 v31_3 v31_5).Keeps (Z64 l v6_4 v31_1 v31_3 v31_5).Slots [] [] [] []) (AE.mk (AR l 7) 0) au5 au12 au12 au12 au12 au12 au12 au12)) .nil)) (.cons rfl (.cons rfl (.cons rfl .nil)))<|AJ<|AD ?_
 refine rn ⟨[(2,tP 2 0),(3,Z5i l)],[(2,.cells (AH.c (Z66 l v6_4 v31_1 v31_3 v31_5).1) 42)]⟩<|Af ?_
 exact xl (.tup [.agg (AH.c (Z66 l v6_4 v31_1 v31_3 v31_5).1),.one (lst 3 AP.c [Z5g l,Z5h l])]) (An (by rw [<- hF1];first | (simp only [Cp,h2,cond_true,cond_false] <;> rfl)))
theorem XD (l:(List (List Int))) (hl:(l.length:Int)<=9223372036854775807) (hll:∀ x∈l,(x.length:Int)<=9223372036854775807):OKc (Ll l):=cPu<|ZK l hl hll
end
abbrev nN1:ByteArray:={ data := #[78,49] }
abbrev nN2:ByteArray:={ data := #[78,50] }
abbrev ZZ:ByteArray:={ data := #[71,78,68] }
structure Gt (B:AH):Prop where
 lay:B.Layers=2
 par:1<=(B.Parts.length:Int)/\(B.Parts.length:Int)<=3
 net:∃ p q r,B.Nets=[BA.mk nN1 p,BA.mk nN2 q,BA.mk ZZ r]
 trk:(B.Tracks.length:Int)<=6
 edg:∀ t∈B.Tracks,(t.Shape.Edges.length:Int)<=2
 via:(B.Vias.length:Int)<=3
 pou:(B.Pours.length:Int)<=3
 kee:(B.Keeps.length:Int)<=1
 slo:(B.Slots.length:Int)<=1
theorem cF {α:Type} {c:Bool} {a b:AH×α} (h:Gt a.1) (k:Gt b.1):Gt (bif c then a else b).1:=by cases c <;> assumption
theorem Ys {b:AH} {d:AE} (h:Gt b):Gt (Cb b d).1:=by
 unfold Cb
 obtain ⟨h1,h2,h3,h4,h5,h6,h7,h8,h9⟩:=h
 exact cF ⟨h1,h2,h3,h4,h5,h6,h7,h8,h9⟩ ⟨h1,h2,h3,h4,h5,h6,h7,h8,h9⟩
theorem cD {b:AH} {types:List AP} {l:List (List Int)} {x y z w:List Unit} (h1:b.Layers=2) (h2:1<=(b.Parts.length:Int)/\(b.Parts.length:Int)<=3) (h3:∃ p q r,b.Nets=[BA.mk nN1 p,BA.mk nN2 q,BA.mk ZZ r]) {c:List BJ} {ru:List Aq} {wa:List Ao} {ma:List BW} :
  Gt (AH.mk (BG b types l).Layers (BG b types l).Outline (BG b types l).Parts (BG b types l).Nets (BG b types l).Tracks (BG b types l).Vias (BG b types l).Pours (BG b types l).Keeps (BG b types l).Slots c ru wa ma):=by
 obtain ⟨k1,k2,k3,k4,k5,k6,k7,k8,k9,k10⟩:=FX b types l
 exact ⟨k1.trans h1,by show 1<=((BG b types l).Parts.length:Int)/\((BG b types l).Parts.length:Int)<=3;rw [k3];exact h2,by rw [<- k4] at h3;exact h3,k5,k6,k7,k8,k9,k10⟩
theorem UE (l:List (List Int)) (v6_4:List AG) (v5:AE) (v8:Int) (a1 a3 a5:List Ab) (d1:AE) (v10:Int) (K0:List AG->AE->Int->(AH×(List AP))) (K1:List Ab->List Ab->List Ab->AE->Int->(AH×(List AP))) (hK:∀ a b c d,Gt (K1 a b c d (v10+1)).1):∀ (n:Nat) (x y z:List Ab) (d:AE) (k:Int),0<=k->(((Bf [A2 (AR l 0) ({ data := #[82] }:ByteArray),A2 (AR l 1) ({ data := #[81] }:ByteArray)] (v6_4.getD v10.toNat default).Type').1.Pads.length:Int)-k).toNat<n->Gt (C1 l v6_4 v5 v8 a1 a3 a5 d1 v10 K0 K1 n x y z d k).1
 | 0,x,y,z,d,k,_,h=>absurd h (Nat.not_lt_zero _)
 | n+1,x,y,z,d,k,k0,h=>by
  unfold C1
  show Gt (bif decide ((k:Int)<((Bf [A2 (AR l 0) ({ data := #[82] }:ByteArray),A2 (AR l 1) ({ data := #[81] }:ByteArray)] (v6_4.getD v10.toNat default).Type').1.Pads.length:Int)) then (_:AH×List AP) else _).1
  by_cases hc:(k:Int)<((Bf [A2 (AR l 0) ({ data := #[82] }:ByteArray),A2 (AR l 1) ({ data := #[81] }:ByteArray)] (v6_4.getD v10.toNat default).Type').1.Pads.length:Int)
  ·rw [decide_eq_true hc]
   exact UE l v6_4 v5 v8 a1 a3 a5 d1 v10 K0 K1 hK n _ _ _ _ _ (by omega) (by omega)
  rw [decide_eq_false hc]
  exact hK _ _ _ _
theorem UF (l:List (List Int)) (v6_4:List AG) (v5:AE) (v8:Int) (K0:List AG->AE->Int->(AH×(List AP))) (hp:1<=(v6_4.length:Int)/\(v6_4.length:Int)<=3):∀ (n:Nat) (x y z:List Ab) (d:AE) (k:Int),0<=k->(W64 (1+(AB (AB (AE.mk (AR l 2) 0) 3).2 3).1)-k).toNat<n->Gt (Cp l v6_4 v5 v8 K0 n x y z d k).1
 | 0,x,y,z,d,k,_,h=>absurd h (Nat.not_lt_zero _)
 | n+1,x,y,z,d,k,k0,h=>by
  unfold Cp
  by_cases hc:k<W64 (1+(AB (AB (AE.mk (AR l 2) 0) 3).2 3).1)
  ·simp only [hc,decide_true,cond_true]
   exact UE l v6_4 v5 v8 x y z d k K0 _ (fun a b c e=>UF l v6_4 v5 v8 K0 hp n a b c e (k+1) (by omega) (by omega)) _ _ _ _ _ 0 (by omega) (Nat.lt_succ_self _)
  simp only [hc,decide_false,cond_false]
  exact Ys (cD (x:=[]) (y:=[]) (z:=[]) (w:=[]) rfl hp ⟨_,_,_,rfl⟩)
theorem UG (l:List (List Int)):∀ (n:Nat) (v:List AG) (d:AE) (k:Int),0<=k->(v.length:Int)=k->k<=W64 (1+(AB (AB (AE.mk (AR l 2) 0) 3).2 3).1)->(W64 (1+(AB (AB (AE.mk (AR l 2) 0) 3).2 3).1)-k).toNat<n->Gt (CI l n v d k).1
 | 0,v,d,k,_,_,_,h=>absurd h (Nat.not_lt_zero _)
 | n+1,v,d,k,k0,kv,k1,h=>by
  have hmany:1<=W64 (1+(AB (AB (AE.mk (AR l 2) 0) 3).2 3).1)/\W64 (1+(AB (AB (AE.mk (AR l 2) 0) 3).2 3).1)<=3:=by
   have:=Ct (AB (AE.mk (AR l 2) 0) 3).2 3 (by decide) (by decide)
   rw [Ap (by omega) (by omega)];omega
  unfold CI
  by_cases hc:k<W64 (1+(AB (AB (AE.mk (AR l 2) 0) 3).2 3).1)
  ·simp only [hc,decide_true,cond_true]
   exact UG l n _ _ _ (by omega) (by simp only [List.length_append,List.length_cons,List.length_nil];omega) (by omega) (by omega)
  simp only [hc,decide_false,cond_false]
  exact UF l v d k _ (by omega) _ _ _ _ _ 0 (by omega) (Nat.lt_succ_self _)
theorem cH (l:List (List Int)):Gt (CW l).1:=by
 have hmany:1<=W64 (1+(AB (AB (AE.mk (AR l 2) 0) 3).2 3).1):=by
  have:=Ct (AB (AE.mk (AR l 2) 0) 3).2 3 (by decide) (by decide)
  rw [Ap (by omega) (by omega)];omega
 unfold CW
 exact UG l _ _ _ 0 (by omega) rfl (by omega) (Nat.lt_succ_self _)
section
open Go.RowKit
def As (op:Int) (tx:ByteArray) (n:Int) (bx:Al):BI:=BI.mk op tx n bx (OpL.mk 0 (fun _ _=>default))
abbrev EV:Nat×Blk:=(2,.cells SJ 105)
variable (xop:Int) (xtx:ByteArray) (op xn:Int) (tx:ByteArray) (yop n:Int) (xbx:Al) (ytx:ByteArray) (yn:Int) (bx:Al) (c:BI) (f:Nat->Nat->Cl) (ybx:Al)
abbrev Cx (t_:List Cl):List Cl:=(.i op)::(.s tx)::(.i n)::(.i bx.X0)::(.i bx.Y0)::(.i bx.X1)::(.i bx.Y1)::t_
abbrev GA:Nat×Blk:=(1,.cells (Cx op tx n bx [vN]) 105)
abbrev Th:List Cl:=(Cx op tx n bx [vN])
theorem Ps  (op:Int) (tx:ByteArray) (n:Int) (bx:Al):FE Try.prog 40 [.agg [.i op,.s tx,.i n,.i bx.X0,.i bx.Y0,.i bx.X1,.i bx.Y1,vN]] (.av (.agg (BI.c (As op tx n bx)))):=by
 refine pwf Try.func40 fun W0 M0 => ?_
 refine AD<|rn ⟨HO,[(GA op tx n bx),EV]⟩<|AD ?_
 refine rn ⟨[(1,tP 1 0),(2,tP 2 0),KM],[(GA op tx n bx),EV]⟩<|AD ?_
 refine rn ⟨[(1,tP 1 0),(2,tP 2 0),KM],[(GA op tx n bx),EV]⟩ ?_
 refine AD<|AD ?_
 refine rn ⟨[(1,tP 1 0),(2,tP 2 0),KM,(4,tI 0)],[(GA op tx n bx),EV]⟩<|AX ?_
 refine Ex 1 ?_
 refine C8<|AD<|AD ?_
 refine rn ⟨[(1,tP 1 0),(2,tP 2 0),KM,(4,tI 0),(11,tB false)],[(GA op tx n bx),EV]⟩ ?_
 refine Dd kr<|BO ?_
 refine BD<|BD ?_
 refine BP<|AJ<|AD ?_
 refine rn ⟨[(2,tP 2 0)],[(2,.cells (Th op tx n bx) 105)]⟩<|Af ?_
 exact xl (.av (.agg (Th op tx n bx))) (DC (y:=.av (.agg (Cx op tx n bx [opL (OpL.mk 0 (fun _ _=>default))]))) (.av (.agg (rr5 (rr2 (.cons (.nil _ _) .nil))))) (by rfl))
abbrev Tg:List Cl:=[.i xop,.s xtx,.i xn,.i xbx.X0,.i xbx.Y0,.i xbx.X1,.i xbx.Y1,vN]
def Z6e:CT:=(40,[.agg (Tg xop xtx xn xbx)],.val [] (.av (.agg (BI.c (As xop xtx xn xbx)))))
def Z5 (xop:Int) (xtx:ByteArray) (xn:Int) (xbx:Al) (op:Int) (tx:ByteArray) (n:Int) (bx:Al):BI:=BI.mk op tx n bx (OpL.mk ([As xop xtx xn xbx].length) (AU BI.c [As xop xtx xn xbx]))
abbrev JU:Nat×Tv:=(3,.av (.one (.list false 8 1 (Au 8 1 [.i xop,.s xtx,.i xn,.i xbx.X0,.i xbx.Y0,.i xbx.X1,.i xbx.Y1,vN]))))
abbrev Pc (op:Int) (tx:ByteArray) (n:Int) (bx:Al) (xop:Int) (xtx:ByteArray) (xn:Int) (xbx:Al):List (Nat×Blk):=[(1,.cells (Cx op tx n bx [.own 100000 8 ([As xop xtx xn xbx].length)]) 105),EV,(100000,.row 8 ([As xop xtx xn xbx].length) (AU BI.c [As xop xtx xn xbx]) 105)]
abbrev Pa (op:Int) (tx:ByteArray) (n:Int) (bx:Al) (xop:Int) (xtx:ByteArray) (xn:Int) (xbx:Al):List (Nat×Blk):=[(1,.cells (Cx op tx n bx [.own 22 8 ([As xop xtx xn xbx].length)]) 105),EV,(22,.row 8 ([As xop xtx xn xbx].length) (AU BI.c [As xop xtx xn xbx]) 105)]
theorem ZG  (xop:Int) (xtx:ByteArray) (xn:Int) (xbx:Al) (op:Int) (tx:ByteArray) (n:Int) (bx:Al):FE Try.prog 40 [.agg [.i op,.s tx,.i n,.i bx.X0,.i bx.Y0,.i bx.X1,.i bx.Y1,.list false 8 1 (Au 8 1 [.i xop,.s xtx,.i xn,.i xbx.X0,.i xbx.Y0,.i xbx.X1,.i xbx.Y1,vN])]] (.av (.agg (BI.c (Z5 xop xtx xn xbx op tx n bx)))):=by
 refine pwf Try.func40 fun W0 M0 => ?_
 refine AD<|rn ⟨HO,[(1,.cells (Cx op tx n bx [.list false 8 1 (Au 8 1 (Tg xop xtx xn xbx))]) 105),EV]⟩<|AD ?_
 refine rn ⟨[(1,tP 1 0),(2,tP 2 0),(JU xop xtx xn xbx)],[(1,.cells (Cx op tx n bx [.list false 8 1 (Au 8 1 (Tg xop xtx xn xbx))]) 105),EV]⟩<|AD ?_
 refine rn ⟨[(1,tP 1 0),(2,tP 2 0),(JU xop xtx xn xbx)],[(GA op tx n bx),EV]⟩ ?_
 refine AD<|AD ?_
 refine rn ⟨[(1,tP 1 0),(2,tP 2 0),(JU xop xtx xn xbx),(4,tI 0)],[(GA op tx n bx),EV]⟩<|AX ?_
 refine Ex 2 ?_
 refine C8<|AD<|AD ?_
 refine rn ⟨[(1,tP 1 0),(2,tP 2 0),(JU xop xtx xn xbx),(4,tI 0),(11,tB true)],[(GA op tx n bx),EV]⟩ ?_
 refine DR kr<|Ad ?_
 refine AJ<|AD<|AX ?_
 refine dw [] [(20,(Z6e xop xtx xn xbx))] [0<=(0:Int)/\(0:Int)<((1:Nat):Int),Ay (Z6e xop xtx xn xbx).2.1,1<=maxLen,1*88<=140737488355328] ⟨[(1,tP 1 0),(2,tP 2 0),(JU xop xtx xn xbx),(4,tI 0)],[(1,.cells (Cx op tx n bx [.own 22 8 1]) 105),EV,(22,.row 8 1 (Au 8 1 (BI.c (As xop xtx xn xbx))) 105)]⟩ (.cons (cPu<|Ps xop xtx xn xbx) .nil) (.cons au1 (.cons rfl (.cons au3 (.cons au3 .nil))))<|Bg<|AJ ?_
 refine BL (Cv.trans (BH (⟨[(1,tP 1 0),(2,tP 2 0),(JU xop xtx xn xbx),(4,tI 0)],(Pa op tx n bx xop xtx xn xbx)⟩) lr (.cons ⟨rfl,.cells _ (rr5 (rr2 (.cons (.own _ _ au0) .nil)))⟩ (.cons ⟨rfl,.refl _⟩ (.cons ⟨rfl,Ai 105 (Ar (c:=BI.c) (xs:=([As xop xtx xn xbx]:List BI)) rfl kr)⟩ .nil)))) (Cv.refl _)) ?_
 refine rn ⟨[(1,tP 1 0),(2,tP 2 0),(JU xop xtx xn xbx),(4,tI 1)],(Pa op tx n bx xop xtx xn xbx)⟩ ?_
 refine C8 ?_
 refine BL (Cv.trans (wr (⟨[(1,tP 1 0),(2,tP 2 0),(JU xop xtx xn xbx),(4,tI 1)],(Pc op tx n bx xop xtx xn xbx)⟩) 22 100000 hk0) (Cv.refl _))<|AD<|AD ?_
 refine rn ⟨[(1,tP 1 0),(2,tP 2 0),(JU xop xtx xn xbx),(4,tI 1),(11,tB false)],(Pc op tx n bx xop xtx xn xbx)⟩ ?_
 refine Dd kr<|BO ?_
 refine BD<|BD ?_
 refine BP<|AJ<|AD ?_
 refine rn ⟨[(2,tP 2 0)],[(2,.cells (Cx op tx n bx [.own 100000 8 ([As xop xtx xn xbx].length)]) 105),(100000,.row 8 ([As xop xtx xn xbx].length) (AU BI.c [As xop xtx xn xbx]) 105)]⟩<|Af ?_
 exact yl (Cv.trans (vf 100000 8 ([As xop xtx xn xbx].length) (AU BI.c [As xop xtx xn xbx]) 105 hk0 (.cons ⟨rfl,rfl⟩ .nil)) (Cv.refl _)) (.av (.agg (Cx op tx n bx [lst 8 BI.c [As xop xtx xn xbx]]))) (An (by rfl))
def Z6f:CT:=(40,[.agg (Tg xop xtx xn xbx)],.val [] (.av (.agg (BI.c (As xop xtx xn xbx)))))
def Z6g:CT:=(40,[.agg [.i yop,.s ytx,.i yn,.i ybx.X0,.i ybx.Y0,.i ybx.X1,.i ybx.Y1,vN]],.val [] (.av (.agg (BI.c (As yop ytx yn ybx)))))
def Z4 (xop:Int) (xtx:ByteArray) (xn:Int) (xbx:Al) (yop:Int) (ytx:ByteArray) (yn:Int) (ybx:Al) (op:Int) (tx:ByteArray) (n:Int) (bx:Al):BI:=BI.mk op tx n bx (OpL.mk ([As xop xtx xn xbx]++[As yop ytx yn ybx]).length (AU BI.c ([As xop xtx xn xbx]++[As yop ytx yn ybx])))
abbrev SF (xop:Int) (xtx:ByteArray) (xn:Int) (xbx:Al) (yop:Int) (ytx:ByteArray) (yn:Int) (ybx:Al):List Cl:=[.i xop,.s xtx,.i xn,.i xbx.X0,.i xbx.Y0,.i xbx.X1,.i xbx.Y1,vN,.i yop,.s ytx,.i yn,.i ybx.X0,.i ybx.Y0,.i ybx.X1,.i ybx.Y1,vN]
abbrev zzc12 (xop:Int) (xtx:ByteArray) (xn:Int) (xbx:Al) (yop:Int) (ytx:ByteArray) (yn:Int) (ybx:Al):Nat×Tv:=(3,.av (.one (.list false 8 2 (Au 8 2 (SF xop xtx xn xbx yop ytx yn ybx)))))
abbrev EX (xop:Int) (xtx:ByteArray) (xn:Int) (xbx:Al) (yop:Int) (ytx:ByteArray) (yn:Int) (ybx:Al) (t_:List (Nat×Tv)):List (Nat×Tv):=(1,tP 1 0)::(2,tP 2 0)::(zzc12 xop xtx xn xbx yop ytx yn ybx)::t_
theorem ZF  (xop:Int) (xtx:ByteArray) (xn:Int) (xbx:Al) (yop:Int) (ytx:ByteArray) (yn:Int) (ybx:Al) (op:Int) (tx:ByteArray) (n:Int) (bx:Al):FE Try.prog 40 [.agg [.i op,.s tx,.i n,.i bx.X0,.i bx.Y0,.i bx.X1,.i bx.Y1,.list false 8 2 (Au 8 2 [.i xop,.s xtx,.i xn,.i xbx.X0,.i xbx.Y0,.i xbx.X1,.i xbx.Y1,vN,.i yop,.s ytx,.i yn,.i ybx.X0,.i ybx.Y0,.i ybx.X1,.i ybx.Y1,vN])]] (.av (.agg (BI.c (Z4 xop xtx xn xbx yop ytx yn ybx op tx n bx)))):=by
 refine pwf Try.func40 fun W0 M0 => ?_
 refine AD<|rn ⟨HO,[(1,.cells (Cx op tx n bx [.list false 8 2 (Au 8 2 (SF xop xtx xn xbx yop ytx yn ybx))]) 105),EV]⟩<|AD ?_
 refine rn ⟨(EX xop xtx xn xbx yop ytx yn ybx []),[(1,.cells (Cx op tx n bx [.list false 8 2 (Au 8 2 (SF xop xtx xn xbx yop ytx yn ybx))]) 105),EV]⟩<|AD ?_
 refine rn ⟨(EX xop xtx xn xbx yop ytx yn ybx []),[(GA op tx n bx),EV]⟩ ?_
 refine AD<|AD ?_
 refine rn ⟨(EX xop xtx xn xbx yop ytx yn ybx [(4,tI 0)]),[(GA op tx n bx),EV]⟩<|AX ?_
 refine Ex 3 ?_
 refine C8<|AD<|AD ?_
 refine rn ⟨(EX xop xtx xn xbx yop ytx yn ybx [(4,tI 0),(11,tB true)]),[(GA op tx n bx),EV]⟩ ?_
 refine DR kr<|Ad ?_
 refine AJ<|AD<|AX ?_
 refine dw [] [(20,(Z6f xop xtx xn xbx))] [0<=(0:Int)/\(0:Int)<((2:Nat):Int),Ay (Z6f xop xtx xn xbx).2.1,1<=maxLen,1*88<=140737488355328] ⟨(EX xop xtx xn xbx yop ytx yn ybx [(4,tI 0)]),[(1,.cells (Cx op tx n bx [.own 22 8 1]) 105),EV,(22,.row 8 1 (Au 8 1 (BI.c (As xop xtx xn xbx))) 105)]⟩ (.cons (cPu<|Ps xop xtx xn xbx) .nil) (.cons au1 (.cons rfl (.cons au3 (.cons au3 .nil))))<|Bg<|AJ ?_
 refine BL (Cv.trans (BH (⟨(EX xop xtx xn xbx yop ytx yn ybx [(4,tI 0)]),(Pa op tx n bx xop xtx xn xbx)⟩) lr (.cons ⟨rfl,.cells _ (rr5 (rr2 (.cons (.own _ _ au0) .nil)))⟩ (.cons ⟨rfl,.refl _⟩ (.cons ⟨rfl,Ai 105 (Ar (c:=BI.c) (xs:=([As xop xtx xn xbx]:List BI)) rfl kr)⟩ .nil)))) (Cv.refl _)) ?_
 refine rn ⟨(EX xop xtx xn xbx yop ytx yn ybx [(4,tI 1)]),(Pa op tx n bx xop xtx xn xbx)⟩ ?_
 refine C8 ?_
 refine BL (Cv.trans (wr (⟨(EX xop xtx xn xbx yop ytx yn ybx [(4,tI 1)]),(Pc op tx n bx xop xtx xn xbx)⟩) 22 100000 hk0) (Cv.refl _))<|AD<|AD ?_
 refine rn ⟨(EX xop xtx xn xbx yop ytx yn ybx [(4,tI 1),(11,tB true)]),(Pc op tx n bx xop xtx xn xbx)⟩ ?_
 refine DR kr<|Ad ?_
 refine AJ<|AD<|AX ?_
 refine dw [] [(20,(Z6g yop ytx yn ybx))] [0<=(1:Int)/\(1:Int)<((2:Nat):Int),Ay (Z6g yop ytx yn ybx).2.1,[As xop xtx xn xbx].length=[As xop xtx xn xbx].length,([As xop xtx xn xbx].length)+1<=maxLen,(([As xop xtx xn xbx].length)+1)*88<=140737488355328] ⟨(EX xop xtx xn xbx yop ytx yn ybx [(4,tI 1)]),[(1,.cells (Cx op tx n bx [.own 22 8 (([As xop xtx xn xbx].length)+1)]) 105),EV,(22,.row 8 (([As xop xtx xn xbx].length)+1) (fun i_ j_=>if i_<([As xop xtx xn xbx].length) then (AU BI.c [As xop xtx xn xbx]) i_ j_ else (Au 8 1 (BI.c (As yop ytx yn ybx))) (i_-([As xop xtx xn xbx].length)) j_) 105)]⟩ (.cons (cPu<|Ps yop ytx yn ybx) .nil) (.cons au1 (.cons rfl (.cons rfl (.cons au3 (.cons au3 .nil)))))<|Bg<|AJ ?_
 refine BL (Cv.trans (BH (⟨(EX xop xtx xn xbx yop ytx yn ybx [(4,tI 1)]),[(1,.cells (Cx op tx n bx [.own 22 8 ([As xop xtx xn xbx]++[As yop ytx yn ybx]).length]) 105),EV,(22,.row 8 ([As xop xtx xn xbx]++[As yop ytx yn ybx]).length (AU BI.c ([As xop xtx xn xbx]++[As yop ytx yn ybx])) 105)]⟩) lr (.cons ⟨rfl,.cells _ (rr5 (rr2 (.cons (.own _ _ au0) .nil)))⟩ (.cons ⟨rfl,.refl _⟩ (.cons ⟨rfl,Ai 105 (BM (A8 8 BI.c [As xop xtx xn xbx]) (Ar (c:=BI.c) (xs:=([As yop ytx yn ybx]:List BI)) rfl kr))⟩ .nil)))) (Cv.refl _)) ?_
 refine rn ⟨(EX xop xtx xn xbx yop ytx yn ybx [(4,tI 2)]),[(1,.cells (Cx op tx n bx [.own 22 8 ([As xop xtx xn xbx]++[As yop ytx yn ybx]).length]) 105),EV,(22,.row 8 ([As xop xtx xn xbx]++[As yop ytx yn ybx]).length (AU BI.c ([As xop xtx xn xbx]++[As yop ytx yn ybx])) 105)]⟩ ?_
 refine C8 ?_
 refine BL (Cv.trans (wr (⟨(EX xop xtx xn xbx yop ytx yn ybx [(4,tI 2)]),[(1,.cells (Cx op tx n bx [.own 100001 8 ([As xop xtx xn xbx]++[As yop ytx yn ybx]).length]) 105),EV,(100001,.row 8 ([As xop xtx xn xbx]++[As yop ytx yn ybx]).length (AU BI.c ([As xop xtx xn xbx]++[As yop ytx yn ybx])) 105)]⟩) 22 100001 hk0) (Cv.refl _))<|AD<|AD ?_
 refine rn ⟨(EX xop xtx xn xbx yop ytx yn ybx [(4,tI 2),(11,tB false)]),[(1,.cells (Cx op tx n bx [.own 100001 8 ([As xop xtx xn xbx]++[As yop ytx yn ybx]).length]) 105),EV,(100001,.row 8 ([As xop xtx xn xbx]++[As yop ytx yn ybx]).length (AU BI.c ([As xop xtx xn xbx]++[As yop ytx yn ybx])) 105)]⟩ ?_
 refine Dd kr<|BO ?_
 refine BD<|BD ?_
 refine BP<|AJ<|AD ?_
 refine rn ⟨[(2,tP 2 0)],[(2,.cells (Cx op tx n bx [.own 100001 8 ([As xop xtx xn xbx]++[As yop ytx yn ybx]).length]) 105),(100001,.row 8 ([As xop xtx xn xbx]++[As yop ytx yn ybx]).length (AU BI.c ([As xop xtx xn xbx]++[As yop ytx yn ybx])) 105)]⟩<|Af ?_
 exact yl (Cv.trans (vf 100001 8 ([As xop xtx xn xbx]++[As yop ytx yn ybx]).length (AU BI.c ([As xop xtx xn xbx]++[As yop ytx yn ybx])) 105 hk0 (.cons ⟨rfl,rfl⟩ .nil)) (Cv.refl _)) (.av (.agg (Cx op tx n bx [lst 8 BI.c ([As xop xtx xn xbx]++[As yop ytx yn ybx])]))) (An (by rfl))
def Z3 (f:Nat->Nat->Cl) (op:Int) (tx:ByteArray) (n:Int) (bx:Al):BI:=BI.mk op tx n bx (OpL.mk 0 (fun _ _=>default))
abbrev O1:Nat×Tv:=(3,.av (.one (.list false 8 0 f)))
theorem ZE  (f:Nat->Nat->Cl) (op:Int) (tx:ByteArray) (n:Int) (bx:Al):FE Try.prog 40 [.agg [.i op,.s tx,.i n,.i bx.X0,.i bx.Y0,.i bx.X1,.i bx.Y1,.list false 8 0 f]] (.av (.agg (BI.c (Z3 f op tx n bx)))):=by
 refine pwf Try.func40 fun W0 M0 => ?_
 refine AD<|rn ⟨HO,[(1,.cells (Cx op tx n bx [.list false 8 0 f]) 105),EV]⟩<|AD ?_
 refine rn ⟨[(1,tP 1 0),(2,tP 2 0),(O1 f)],[(1,.cells (Cx op tx n bx [.list false 8 0 f]) 105),EV]⟩<|AD ?_
 refine rn ⟨[(1,tP 1 0),(2,tP 2 0),(O1 f)],[(GA op tx n bx),EV]⟩ ?_
 refine AD<|AD ?_
 refine rn ⟨[(1,tP 1 0),(2,tP 2 0),(O1 f),(4,tI 0)],[(GA op tx n bx),EV]⟩<|AX ?_
 refine Ex 1 ?_
 refine C8<|AD<|AD ?_
 refine rn ⟨[(1,tP 1 0),(2,tP 2 0),(O1 f),(4,tI 0),(11,tB false)],[(GA op tx n bx),EV]⟩ ?_
 refine Dd kr<|BO ?_
 refine BD<|BD ?_
 refine BP<|AJ<|AD ?_
 refine rn ⟨[(2,tP 2 0)],[(2,.cells (Th op tx n bx) 105)]⟩<|Af ?_
 exact xl (.av (.agg (Th op tx n bx))) (DC (y:=.av (.agg (Cx op tx n bx [opL (OpL.mk 0 (fun _ _=>default))]))) (.av (.agg (rr5 (rr2 (.cons (.nil _ _) .nil))))) (by rfl))
def clI:Cl->Int
 | .val (.int _ n)=>n
 | _=>0
def clS:Cl->ByteArray
 | .val (.string s)=>s
 | _=>⟨#[]⟩
def Bt (c:BI):Prop:=(∃ f,c.L=OpL.mk 0 f)\/(∃ (xop:Int) (xtx:ByteArray) (xn:Int) (xbx:Al),c.L=OpL.mk 1 (Au 8 1 [.i xop,.s xtx,.i xn,.i xbx.X0,.i xbx.Y0,.i xbx.X1,.i xbx.Y1,vN]))\/∃ (xop:Int) (xtx:ByteArray) (xn:Int) (xbx:Al) (yop:Int) (ytx:ByteArray) (yn:Int) (ybx:Al),c.L=OpL.mk 2 (Au 8 2 [.i xop,.s xtx,.i xn,.i xbx.X0,.i xbx.Y0,.i xbx.X1,.i xbx.Y1,vN,.i yop,.s ytx,.i yn,.i ybx.X0,.i ybx.Y0,.i ybx.X1,.i ybx.Y1,vN])
def Oi (f:Nat->Cl):BI:=As (clI (f 0)) (clS (f 1)) (clI (f 2)) (Al.mk (clI (f 3)) (clI (f 4)) (clI (f 5)) (clI (f 6)))
def copyL:OpL->OpL
 | ⟨0,_⟩=>OpL.mk 0 (fun _ _=>default)
 | ⟨1,f⟩=>OpL.mk ([Oi (f 0)].length) (AU BI.c [Oi (f 0)])
 | ⟨_+2,f⟩=>OpL.mk ([Oi (f 0)]++[Oi (f 1)]).length (AU BI.c ([Oi (f 0)]++[Oi (f 1)]))
def IR (c:BI):BI:=BI.mk c.Op c.Text c.N c.Box (copyL c.L)
def IG:CT:=(40,[.agg (BI.c c)],.val [] (.av (.agg (BI.c (IR c)))))
theorem U5 (c:BI) (h:Bt c):PuP 40 (IG c).2.1 (.av (.agg (BI.c (IR c)))):=by
 obtain ⟨op,tx,n,bx,l⟩:=c
 rcases h with ⟨f,e⟩ | ⟨xop,xtx,xn,xbx,e⟩ | ⟨xop,xtx,xn,xbx,yop,ytx,yn,ybx,e⟩
 ·have e:l=OpL.mk 0 f:=e
  subst e
  exact ZE f op tx n bx
 ·have e:l=OpL.mk 1 _:=e
  subst e
  exact ZG xop xtx xn xbx op tx n bx
 have e:l=OpL.mk 2 _:=e
 subst e
 exact ZF xop xtx xn xbx yop ytx yn ybx op tx n bx
theorem Mq (c:BI) (h:Bt c):OKc (IG c):=cPu<|U5 c h
def QY (b:AH):Prop:=∀ r∈b.Rules,Bt r.A/\Bt r.B
theorem Ja {b:AH} (h:QY b) (k:Nat):Bt (b.Rules.getD k default).A/\Bt (b.Rules.getD k default).B:=FZ (p:=fun r:Aq=>Bt r.A/\Bt r.B) ⟨.inl ⟨_,rfl⟩,.inl ⟨_,rfl⟩⟩ h k
end
theorem frA {T:Type} (len:T->Nat) (l:T->List (Option Cl)) (row:T->Nat->Nat->Cl) {sz n:Nat} {ty:TypeId} {x y:T} {s':AS} (h:x=y) (hg:get s'.h n=some (.row sz (len x) (row x) ty)) :
  ∃ m,TvE (.av (.agg (Nl sz (len x) n (l x)))) (.av (.agg (Nl sz (len y) m (l y))))/\∃ b,get s'.h m=some b/\GS b (.row sz (len y) (row y) ty):=by subst h;exact ⟨n,.refl _,_,hg,.refl _⟩
section
open Go.RowKit
structure Qh (b:AH):Prop where
 lParts:(b.Parts.length:Int)<=1000000
 lNets:(b.Nets.length:Int)<=1000000
 lTracks:(b.Tracks.length:Int)<=1000000
 lVias:(b.Vias.length:Int)<=1000000
 lPours:(b.Pours.length:Int)<=1000000
 lKeeps:(b.Keeps.length:Int)<=1000000
 lSlots:(b.Slots.length:Int)<=1000000
 lClasses:(b.Classes.length:Int)<=1000000
 lWaivers:(b.Waivers.length:Int)<=1000000
 lMatches:(b.Matches.length:Int)<=1000000
 lRules:(b.Rules.length:Int)<=1000000
 out:(b.Outline.Edges.length:Int)<=1000000
 pin:∀ k,((b.Nets.getD k default).Pins.length:Int)<=1000000
 ted:∀ k,((b.Tracks.getD k default).Shape.Edges.length:Int)<=1000000
 rec':∀ k,((b.Pours.getD k default).Rects.length:Int)<=1000000
 ked:∀ k,((b.Keeps.getD k default).Shape.Edges.length:Int)<=1000000
 sed:∀ k,((b.Slots.getD k default).Shape.Edges.length:Int)<=1000000
 cnt:∀ k,((b.Classes.getD k default).Nets.length:Int)<=1000000
 mnt:∀ k,((b.Matches.getD k default).Nets.length:Int)<=1000000
 rok:QY b
def Z6h:Blk:=.cells Nv 42
variable (b:AH) (v3_5:List BA) (v3_6:List Aj) (v3_8:List BB) (v3_9:List BS) (v3_10:List Bb) (v3_11:List BJ) (v3_12:List Aq) (v16:Int) (v3_14:List BW) (v11 v13 v14 v4 v5 v7 v9:Int)
abbrev JW:=Cu b.Outline
abbrev Ep (t_:List Cl):List Cl:=(.i b.Layers)::(.i (JW b).Kind)::(lst 7 AO.c (JW b).Edges)::(.i (JW b).R)::(.own 26 7 b.Parts.length)::t_
def Z6i:Blk:=.cells (Ep b [vN,vN,lst 8 Br.c b.Vias,vN,vN,vN,vN,vN,lst 3 Ao.c b.Waivers,vN]) 42
def Z6j:Blk:=.row 7 b.Parts.length (AU AG.c b.Parts) 59
def Z6k:Blk:=.row 2 ([]:List BA).length (AU BA.c ([]:List BA)) 48
def Z6l:Blk:=.cells (Ep b [.own 100000 2 ([]:List BA).length,vN,lst 8 Br.c b.Vias,vN,vN,vN,vN,vN,lst 3 Ao.c b.Waivers,vN]) 42
def Z6m:Blk:=.cells (Ep b [.own 100000 2 v3_5.length,vN,lst 8 Br.c b.Vias,vN,vN,vN,vN,vN,lst 3 Ao.c b.Waivers,vN]) 42
def Z6n:Blk:=.cells (Ep b [.own 61 2 (v3_5++[b.Nets.getD v4.toNat default]).length,vN,lst 8 Br.c b.Vias,vN,vN,vN,vN,vN,lst 3 Ao.c b.Waivers,vN]) 42
def Z6o (v3_5:List BA) (b:AH) (v4:Int):Blk:=.row 2 (v3_5++[b.Nets.getD v4.toNat default]).length (AU BA.c (v3_5++[b.Nets.getD v4.toNat default])) 48
def Z6p:Blk:=.row 6 ([]:List Aj).length (AU Aj.c ([]:List Aj)) 85
def Z6q:Blk:=.cells (Ep b [.own 100000 2 v3_5.length,.own 100001 6 ([]:List Aj).length,lst 8 Br.c b.Vias,vN,vN,vN,vN,vN,lst 3 Ao.c b.Waivers,vN]) 42
abbrev Bj (t_:List Cl):List Cl:=(.i b.Layers)::(.i (JW b).Kind)::(lst 7 AO.c (JW b).Edges)::(.i (JW b).R)::(.own 26 7 b.Parts.length)::(.own 100000 2 v3_5.length)::(.own 100001 6 v3_6.length)::(lst 8 Br.c b.Vias)::t_
def Z6r:Blk:=.cells (Bj b v3_5 v3_6 [vN,vN,vN,vN,vN,lst 3 Ao.c b.Waivers,vN]) 42
def Z6s:Blk:=.row 6 v3_6.length (AU Aj.c v3_6) 85
def Z6t:Ah:=Cu (b.Tracks.getD v5.toNat default).Shape
abbrev PK:=[Aj.mk (HQ b v5).Id (HQ b v5).Net (HQ b v5).Layer (Z6t b v5)]
def Z6u:Blk:=.cells (Ep b [.own 100000 2 v3_5.length,.own 83 6 (v3_6++(PK b v5)).length,lst 8 Br.c b.Vias,vN,vN,vN,vN,vN,lst 3 Ao.c b.Waivers,vN]) 42
def Z6v (v3_6:List Aj) (b:AH) (v5:Int):Blk:=.row 6 (v3_6++(PK b v5)).length (AU Aj.c (v3_6++(PK b v5))) 85
def Z6w:Blk:=.cells (Ep b [.own 100000 2 v3_5.length,.own 100001 6 (v3_6++(PK b v5)).length,lst 8 Br.c b.Vias,vN,vN,vN,vN,vN,lst 3 Ao.c b.Waivers,vN]) 42
def Z6x:Blk:=.row 8 ([]:List BB).length (AU BB.c ([]:List BB)) 90
def Z6y:Blk:=.cells (Bj b v3_5 v3_6 [.own 100002 8 ([]:List BB).length,vN,vN,vN,vN,lst 3 Ao.c b.Waivers,vN]) 42
def Z6z:Blk:=.cells (Bj b v3_5 v3_6 [.own 100002 8 v3_8.length,vN,vN,vN,vN,lst 3 Ao.c b.Waivers,vN]) 42
def Z6A:Blk:=.row 8 v3_8.length (AU BB.c v3_8) 90
def Z6B:Blk:=.cells (Bj b v3_5 v3_6 [.own 106 8 (v3_8++[b.Pours.getD v7.toNat default]).length,vN,vN,vN,vN,lst 3 Ao.c b.Waivers,vN]) 42
def Z6C (v3_8:List BB) (b:AH) (v7:Int):Blk:=.row 8 (v3_8++[b.Pours.getD v7.toNat default]).length (AU BB.c (v3_8++[b.Pours.getD v7.toNat default])) 90
def Z6D:Blk:=.cells (Bj b v3_5 v3_6 [.own 100002 8 (v3_8++[b.Pours.getD v7.toNat default]).length,vN,vN,vN,vN,lst 3 Ao.c b.Waivers,vN]) 42
def Z6E:Blk:=.row 5 ([]:List BS).length (AU BS.c ([]:List BS)) 93
def Z6F:Blk:=.cells (Bj b v3_5 v3_6 [.own 100002 8 v3_8.length,.own 100003 5 ([]:List BS).length,vN,vN,vN,lst 3 Ao.c b.Waivers,vN]) 42
abbrev Il (t_:List Cl):List Cl:=(.own 100002 8 v3_8.length)::(.own 100003 5 v3_9.length)::t_
def Z6G:Blk:=.cells (Bj b v3_5 v3_6 (Il v3_8 v3_9 [vN,vN,vN,lst 3 Ao.c b.Waivers,vN])) 42
def Z6H:Blk:=.row 5 v3_9.length (AU BS.c v3_9) 93
def Z6I:Ah:=Cu (b.Keeps.getD v9.toNat default).Shape
abbrev Qj:=b.Keeps.getD v9.toNat default
abbrev O7:=[BS.mk (Qj b v9).Id (Qj b v9).Layer (Z6I b v9)]
def Z6J:Blk:=.cells (Bj b v3_5 v3_6 [.own 100002 8 v3_8.length,.own 128 5 (v3_9++(O7 b v9)).length,vN,vN,vN,lst 3 Ao.c b.Waivers,vN]) 42
def Z6K (v3_9:List BS) (b:AH) (v9:Int):Blk:=.row 5 (v3_9++(O7 b v9)).length (AU BS.c (v3_9++(O7 b v9))) 93
def Z6L:Blk:=.cells (Bj b v3_5 v3_6 [.own 100002 8 v3_8.length,.own 100003 5 (v3_9++(O7 b v9)).length,vN,vN,vN,lst 3 Ao.c b.Waivers,vN]) 42
def Z6M:Blk:=.row 4 ([]:List Bb).length (AU Bb.c ([]:List Bb)) 95
def Z6N:Blk:=.cells (Bj b v3_5 v3_6 (Il v3_8 v3_9 [.own 100004 4 ([]:List Bb).length,vN,vN,lst 3 Ao.c b.Waivers,vN])) 42
abbrev C3 (t_:List Cl):List Cl:=(.own 100002 8 v3_8.length)::(.own 100003 5 v3_9.length)::(.own 100004 4 v3_10.length)::t_
def Z6O:Blk:=.cells (Bj b v3_5 v3_6 (C3 v3_8 v3_9 v3_10 [vN,vN,lst 3 Ao.c b.Waivers,vN])) 42
def Z6P:Blk:=.row 4 v3_10.length (AU Bb.c v3_10) 95
def Z6Q:Ah:=Cu (b.Slots.getD v11.toNat default).Shape
abbrev PC:=[Bb.mk (b.Slots.getD v11.toNat default).Id (Z6Q b v11)]
def Z6R:Blk:=.cells (Bj b v3_5 v3_6 (Il v3_8 v3_9 [.own 150 4 (v3_10++(PC b v11)).length,vN,vN,lst 3 Ao.c b.Waivers,vN])) 42
def Z6S (v3_10:List Bb) (b:AH) (v11:Int):Blk:=.row 4 (v3_10++(PC b v11)).length (AU Bb.c (v3_10++(PC b v11))) 95
def Z6T:Blk:=.cells (Bj b v3_5 v3_6 (Il v3_8 v3_9 [.own 100004 4 (v3_10++(PC b v11)).length,vN,vN,lst 3 Ao.c b.Waivers,vN])) 42
def Z6U:Blk:=.row 2 ([]:List BJ).length (AU BJ.c ([]:List BJ)) 98
def Z6V:Blk:=.cells (Bj b v3_5 v3_6 (C3 v3_8 v3_9 v3_10 [.own 100005 2 ([]:List BJ).length,vN,lst 3 Ao.c b.Waivers,vN])) 42
abbrev Ha (v3_11:List BJ) (b:AH) (t_:List Cl):List Cl:=(.own 100005 2 v3_11.length)::vN::(lst 3 Ao.c b.Waivers)::t_
def Z6W:Blk:=.cells (Bj b v3_5 v3_6 (C3 v3_8 v3_9 v3_10 (Ha v3_11 b [vN]))) 42
def Z6X:Blk:=.row 2 v3_11.length (AU BJ.c v3_11) 98
def Z6Y:Blk:=.cells (Bj b v3_5 v3_6 (C3 v3_8 v3_9 v3_10 [.own 177 2 (v3_11++[b.Classes.getD v13.toNat default]).length,vN,lst 3 Ao.c b.Waivers,vN])) 42
def Z6Z (v3_11:List BJ) (b:AH) (v13:Int):Blk:=.row 2 (v3_11++[b.Classes.getD v13.toNat default]).length (AU BJ.c (v3_11++[b.Classes.getD v13.toNat default])) 98
def Z70:Blk:=.cells (Bj b v3_5 v3_6 (C3 v3_8 v3_9 v3_10 [.own 100005 2 (v3_11++[b.Classes.getD v13.toNat default]).length,vN,lst 3 Ao.c b.Waivers,vN])) 42
def Z71:Blk:=.row 3 ([]:List BW).length (AU BW.c ([]:List BW)) 100
def Z72:Blk:=.cells (Bj b v3_5 v3_6 (C3 v3_8 v3_9 v3_10 (Ha v3_11 b [.own 100006 3 ([]:List BW).length]))) 42
def Z73:Blk:=.cells (Bj b v3_5 v3_6 (C3 v3_8 v3_9 v3_10 (Ha v3_11 b [.own 100006 3 v3_14.length]))) 42
def Z74:Blk:=.row 3 v3_14.length (AU BW.c v3_14) 100
def Z75:Blk:=.cells (Bj b v3_5 v3_6 (C3 v3_8 v3_9 v3_10 (Ha v3_11 b [.own 200 3 (v3_14++[b.Matches.getD v14.toNat default]).length]))) 42
def Z76 (v3_14:List BW) (b:AH) (v14:Int):Blk:=.row 3 (v3_14++[b.Matches.getD v14.toNat default]).length (AU BW.c (v3_14++[b.Matches.getD v14.toNat default])) 100
def Z77:Blk:=.cells (Bj b v3_5 v3_6 (C3 v3_8 v3_9 v3_10 (Ha v3_11 b [.own 100006 3 (v3_14++[b.Matches.getD v14.toNat default]).length]))) 42
def Z78:Blk:=.row 20 ([]:List Aq).length (AU Aq.c ([]:List Aq)) 107
def Z79:Blk:=.cells (Bj b v3_5 v3_6 (C3 v3_8 v3_9 v3_10 [.own 100005 2 v3_11.length,.own 100007 20 ([]:List Aq).length,lst 3 Ao.c b.Waivers,.own 100006 3 v3_14.length])) 42
def Z7a:Blk:=.cells (Bj b v3_5 v3_6 (C3 v3_8 v3_9 v3_10 [.own 100005 2 v3_11.length,.own 100007 20 v3_12.length,lst 3 Ao.c b.Waivers,.own 100006 3 v3_14.length])) 42
def Z7b:Blk:=.row 20 v3_12.length (AU Aq.c v3_12) 107
def Z7c:BI:=IR (b.Rules.getD v16.toNat default).A
def Z7d:BI:=IR (b.Rules.getD v16.toNat default).B
abbrev Ek:=b.Rules.getD v16.toNat default
abbrev PW:=[Aq.mk (Ek b v16).Name (Ek b v16).Priority (Ek b v16).What (Z7c b v16) (Z7d b v16) (Ek b v16).Value]
def Z7e:Blk:=.cells (Bj b v3_5 v3_6 (C3 v3_8 v3_9 v3_10 [.own 100005 2 v3_11.length,.own 226 20 (v3_12++(PW b v16)).length,lst 3 Ao.c b.Waivers,.own 100006 3 v3_14.length])) 42
def Z7f (v3_12:List Aq) (b:AH) (v16:Int):Blk:=.row 20 (v3_12++(PW b v16)).length (AU Aq.c (v3_12++(PW b v16))) 107
def Z7g:Blk:=.cells (Bj b v3_5 v3_6 (C3 v3_8 v3_9 v3_10 [.own 100005 2 v3_11.length,.own 100007 20 (v3_12++(PW b v16)).length,lst 3 Ao.c b.Waivers,.own 100006 3 v3_14.length])) 42
def EN (b:AH) (v3_5:List BA) (v4:Int) (v3_6:List Aj) (v5:Int) (v3_8:List BB) (v7:Int) (v3_9:List BS) (v9:Int) (v3_10:List Bb) (v11:Int) (v3_11:List BJ) (v13:Int) (v3_14:List BW) (v14:Int) (K0:List BA->Int->AH) (K1:List Aj->Int->AH) (K2:List BB->Int->AH) (K3:List BS->Int->AH) (K4:List Bb->Int->AH) (K5:List BJ->Int->AH) (K6:List BW->Int->AH):Nat->List Aq->Int->AH
 | 0,_,_=>default
 | n7+1,v3_12,v16=>bif decide ((v16:Int)<(b.Rules.length:Int)) then ((EN b v3_5 v4 v3_6 v5 v3_8 v7 v3_9 v9 v3_10 v11 v3_11 v13 v3_14 v14 K0 K1 K2 K3 K4 K5 K6 n7) (v3_12++[Aq.mk (b.Rules.getD v16.toNat default).Name (b.Rules.getD v16.toNat default).Priority (b.Rules.getD v16.toNat default).What (Z7c b v16) (Z7d b v16) (b.Rules.getD v16.toNat default).Value]) (v16+1)) else (AH.mk b.Layers (Cu b.Outline) b.Parts v3_5 v3_6 b.Vias v3_8 v3_9 v3_10 v3_11 v3_12 b.Waivers v3_14)
def Dc (b:AH) (v3_5:List BA) (v4:Int) (v3_6:List Aj) (v5:Int) (v3_8:List BB) (v7:Int) (v3_9:List BS) (v9:Int) (v3_10:List Bb) (v11:Int) (v3_11:List BJ) (v13:Int) (K0:List BA->Int->AH) (K1:List Aj->Int->AH) (K2:List BB->Int->AH) (K3:List BS->Int->AH) (K4:List Bb->Int->AH) (K5:List BJ->Int->AH):Nat->List BW->Int->AH
 | 0,_,_=>default
 | n6+1,v3_14,v14=>bif decide ((v14:Int)<(b.Matches.length:Int)) then ((Dc b v3_5 v4 v3_6 v5 v3_8 v7 v3_9 v9 v3_10 v11 v3_11 v13 K0 K1 K2 K3 K4 K5 n6) (v3_14++[b.Matches.getD v14.toNat default]) (v14+1)) else (EN b v3_5 v4 v3_6 v5 v3_8 v7 v3_9 v9 v3_10 v11 v3_11 v13 v3_14 v14 K0 K1 K2 K3 K4 K5 (Dc b v3_5 v4 v3_6 v5 v3_8 v7 v3_9 v9 v3_10 v11 v3_11 v13 K0 K1 K2 K3 K4 K5 n6) (((b.Rules.length:Int)-0).toNat+1) ([]:List Aq) 0)
def C2 (b:AH) (v3_5:List BA) (v4:Int) (v3_6:List Aj) (v5:Int) (v3_8:List BB) (v7:Int) (v3_9:List BS) (v9:Int) (v3_10:List Bb) (v11:Int) (K0:List BA->Int->AH) (K1:List Aj->Int->AH) (K2:List BB->Int->AH) (K3:List BS->Int->AH) (K4:List Bb->Int->AH):Nat->List BJ->Int->AH
 | 0,_,_=>default
 | n5+1,v3_11,v13=>bif decide ((v13:Int)<(b.Classes.length:Int)) then ((C2 b v3_5 v4 v3_6 v5 v3_8 v7 v3_9 v9 v3_10 v11 K0 K1 K2 K3 K4 n5) (v3_11++[b.Classes.getD v13.toNat default]) (v13+1)) else (Dc b v3_5 v4 v3_6 v5 v3_8 v7 v3_9 v9 v3_10 v11 v3_11 v13 K0 K1 K2 K3 K4 (C2 b v3_5 v4 v3_6 v5 v3_8 v7 v3_9 v9 v3_10 v11 K0 K1 K2 K3 K4 n5) (((b.Matches.length:Int)-0).toNat+1) ([]:List BW) 0)
def CK (b:AH) (v3_5:List BA) (v4:Int) (v3_6:List Aj) (v5:Int) (v3_8:List BB) (v7:Int) (v3_9:List BS) (v9:Int) (K0:List BA->Int->AH) (K1:List Aj->Int->AH) (K2:List BB->Int->AH) (K3:List BS->Int->AH):Nat->List Bb->Int->AH
 | 0,_,_=>default
 | n4+1,v3_10,v11=>bif decide ((v11:Int)<(b.Slots.length:Int)) then ((CK b v3_5 v4 v3_6 v5 v3_8 v7 v3_9 v9 K0 K1 K2 K3 n4) (v3_10++[Bb.mk (b.Slots.getD v11.toNat default).Id (Z6Q b v11)]) (v11+1)) else (C2 b v3_5 v4 v3_6 v5 v3_8 v7 v3_9 v9 v3_10 v11 K0 K1 K2 K3 (CK b v3_5 v4 v3_6 v5 v3_8 v7 v3_9 v9 K0 K1 K2 K3 n4) (((b.Classes.length:Int)-0).toNat+1) ([]:List BJ) 0)
def Bc (b:AH) (v3_5:List BA) (v4:Int) (v3_6:List Aj) (v5:Int) (v3_8:List BB) (v7:Int) (K0:List BA->Int->AH) (K1:List Aj->Int->AH) (K2:List BB->Int->AH):Nat->List BS->Int->AH
 | 0,_,_=>default
 | n3+1,v3_9,v9=>bif decide ((v9:Int)<(b.Keeps.length:Int)) then ((Bc b v3_5 v4 v3_6 v5 v3_8 v7 K0 K1 K2 n3) (v3_9++[BS.mk (b.Keeps.getD v9.toNat default).Id (b.Keeps.getD v9.toNat default).Layer (Z6I b v9)]) (v9+1)) else (CK b v3_5 v4 v3_6 v5 v3_8 v7 v3_9 v9 K0 K1 K2 (Bc b v3_5 v4 v3_6 v5 v3_8 v7 K0 K1 K2 n3) (((b.Slots.length:Int)-0).toNat+1) ([]:List Bb) 0)
def Az (b:AH) (v3_5:List BA) (v4:Int) (v3_6:List Aj) (v5:Int) (K0:List BA->Int->AH) (K1:List Aj->Int->AH):Nat->List BB->Int->AH
 | 0,_,_=>default
 | n2+1,v3_8,v7=>bif decide ((v7:Int)<(b.Pours.length:Int)) then ((Az b v3_5 v4 v3_6 v5 K0 K1 n2) (v3_8++[b.Pours.getD v7.toNat default]) (v7+1)) else (Bc b v3_5 v4 v3_6 v5 v3_8 v7 K0 K1 (Az b v3_5 v4 v3_6 v5 K0 K1 n2) (((b.Keeps.length:Int)-0).toNat+1) ([]:List BS) 0)
def AZ (b:AH) (v3_5:List BA) (v4:Int) (K0:List BA->Int->AH):Nat->List Aj->Int->AH
 | 0,_,_=>default
 | n1+1,v3_6,v5=>bif decide ((v5:Int)<(b.Tracks.length:Int)) then ((AZ b v3_5 v4 K0 n1) (v3_6++[Aj.mk (b.Tracks.getD v5.toNat default).Id (b.Tracks.getD v5.toNat default).Net (b.Tracks.getD v5.toNat default).Layer (Z6t b v5)]) (v5+1)) else (Az b v3_5 v4 v3_6 v5 K0 (AZ b v3_5 v4 K0 n1) (((b.Pours.length:Int)-0).toNat+1) ([]:List BB) 0)
def AL (b:AH):Nat->List BA->Int->AH
 | 0,_,_=>default
 | n0+1,v3_5,v4=>bif decide ((v4:Int)<(b.Nets.length:Int)) then ((AL b n0) (v3_5++[b.Nets.getD v4.toNat default]) (v4+1)) else (AZ b v3_5 v4 (AL b n0) (((b.Tracks.length:Int)-0).toNat+1) ([]:List Aj) 0)
def Jj (x:AH):List (Option Cl):=[some (.i x.Layers),some (.i x.Outline.Kind),some (lst 7 AO.c x.Outline.Edges),some (.i x.Outline.R),none,some (lst 2 BA.c x.Nets),some (lst 6 Aj.c x.Tracks),some (lst 8 Br.c x.Vias),some (lst 8 BB.c x.Pours),some (lst 5 BS.c x.Keeps),some (lst 4 Bb.c x.Slots),some (lst 2 BJ.c x.Classes),some (lst 20 Aq.c x.Rules),some (lst 3 Ao.c x.Waivers),some (lst 3 BW.c x.Matches)]
def AC (b:AH):AH:=AL b (((b.Nets.length:Int)-0).toNat+1) ([]:List BA) 0
abbrev Bw:Nat×Blk:=(100000,.row 2 v3_5.length (AU BA.c v3_5) 48)
abbrev BC:Nat×Blk:=(1,.cells (AH.c b) 42)
abbrev Vs (t_:List Cl):List Cl:=(.s (Ek b v16).Name)::(.i (Ek b v16).Priority)::(.i (Ek b v16).What)::(.i (Z7c b v16).Op)::(.s (Z7c b v16).Text)::(.i (Z7c b v16).N)::(.i (Z7c b v16).Box.X0)::(.i (Z7c b v16).Box.Y0)::(.i (Z7c b v16).Box.X1)::(.i (Z7c b v16).Box.Y1)::(opL (Z7c b v16).L)::t_
abbrev WQ:List Cl:=(Vs b v16 [.i (Z7d b v16).Op,.s (Z7d b v16).Text,.i (Z7d b v16).N,.i (Z7d b v16).Box.X0,.i (Z7d b v16).Box.Y0,.i (Z7d b v16).Box.X1,.i (Z7d b v16).Box.Y1,opL (Z7d b v16).L,.i (Ek b v16).Value])
abbrev PO:List (Nat×Tv):=(A6 [(11,tI 0)])
abbrev PN:List (Nat×Tv):=(A6 [(13,tI 0)])
abbrev PM:List (Nat×Tv):=(A6 [(14,tI 0)])
abbrev PL:List (Nat×Tv):=(A6 [(16,tI 0)])
abbrev PJ:List (Nat×Tv):=(A6 [(4,tI 0)])
abbrev PI:List (Nat×Tv):=(A6 [(5,tI 0)])
abbrev PH:List (Nat×Tv):=(A6 [(7,tI 0)])
abbrev PG:List (Nat×Tv):=(A6 [(9,tI 0)])
abbrev SG:List (Nat×Tv):=(A6 [(16,tI v16),(17,tP 17 0)])
abbrev WB:List Cl:=[.i (HQ b v5).Id,.s (HQ b v5).Net,.i (HQ b v5).Layer,.i (Z6t b v5).Kind,lst 7 AO.c (Z6t b v5).Edges,.i (Z6t b v5).R]
abbrev V8:List Cl:=[.i (b.Slots.getD v11.toNat default).Id,.i (Z6Q b v11).Kind,lst 7 AO.c (Z6Q b v11).Edges,.i (Z6Q b v11).R]
abbrev V5:List Cl:=[.i (Qj b v9).Id,.i (Qj b v9).Layer,.i (Z6I b v9).Kind,lst 7 AO.c (Z6I b v9).Edges,.i (Z6I b v9).R]
theorem au23 {p:Prop} (h:p:=by first | (with_reducible exact hc.ted _) | (with_reducible exact hc.ked _) | (with_reducible exact hc.sed _) | (with_reducible exact hc.out) | with_reducible assumption | omega | decide | (simp only [List.length_cons,List.length_nil,List.length_append];omega) | assumption):p:=h
theorem au10 {p:Prop} (h:p:=by first | omega | (unfold maxLen;omega) | (simp only [XK,XJ,XI];omega)):p:=h
set_option maxHeartbeats 4000000 in
theorem Y6 (b:AH) (hc:Qh b):Fr Try.prog 12 [.agg (AH.c b)] (.row 7 (AC b).Parts.length (AU AG.c (AC b).Parts) 59) (fun d=>.av (.agg (Nl 7 (AC b).Parts.length d (Jj (AC b))))):=by
 refine IF Try.func12 rfl kr (W4 7 (AC b).Parts.length (Jj (AC b)) kr) fun W0 M0 => ?_
 have h0:=hc.lParts
 have h1:=hc.lNets
 have h2:=hc.lTracks
 have h3:=hc.lVias
 have h4:=hc.lPours
 have h5:=hc.lKeeps
 have h6:=hc.lSlots
 have h7:=hc.lClasses
 have h8:=hc.lWaivers
 have h9:=hc.lMatches
 have h10:=hc.lRules
 have hr:=hc.rok
 refine AD<|rn ⟨HO,[(BC b),(2,Z6h)]⟩<|AD ?_
 refine dw [23,1000027,1000031] [(22,Da b.Outline)] [Ay (Da b.Outline).2.1,0=0,0+b.Parts.length<=maxLen,(0+b.Parts.length)*72<=140737488355328,b.Vias.length<=maxLen,b.Vias.length*72<=140737488355328,b.Waivers.length<=maxLen,b.Waivers.length*32<=140737488355328] ⟨SB,[(BC b),(2,Z6h),(3,.cells [.i b.Layers,.i (JW b).Kind,lst 7 AO.c (JW b).Edges,.i (JW b).R,.own 26 7 (0+b.Parts.length),vN,vN,lst 8 Br.c b.Vias,vN,vN,vN,vN,vN,lst 3 Ao.c b.Waivers,vN] 42),(26,.row 7 (0+b.Parts.length) (fun i_ j_=>if i_<0 then (Au 7 0 []) i_ j_ else (AU AG.c b.Parts) (i_-0) j_) 59)]⟩ (.cons (E3 b.Outline au23) .nil) (.cons rfl (.cons rfl (.cons au10 (.cons au10 (.cons au10 (.cons au10 (.cons au10 (.cons au10 .nil))))))))<|AJ ?_
 refine BL (Cv.trans (BH (⟨SB,[(BC b),(2,Z6h),(3,Z6i b),(26,Z6j b)]⟩) lr (.cons ⟨rfl,.refl _⟩ (.cons ⟨rfl,.refl _⟩ (.cons ⟨rfl,.cells _ (rr4 (.cons (.own _ _ au0) (rr (rr (rr (rr (rr (rr (rr (rr (rr (rr .nil))))))))))))⟩ (.cons ⟨rfl,Ai 59 (BM (Ar (c:=AG.c) (xs:=(([]:List AG):List AG)) rfl kr) (A8 7 AG.c b.Parts))⟩ .nil))))) (Cv.refl _))<|AD<|AD ?_
 refine rn ⟨PJ,[(BC b),(2,Z6h),(3,Z6i b),(26,Z6j b)]⟩<|AX ?_
 refine BL (Cv.trans (wg (⟨PJ,[(100000,.row 2 0 (fun _ _=>default) 48),(BC b),(2,Z6h),(3,.cells (Ep b [.own 100000 2 0,vN,lst 8 Br.c b.Vias,vN,vN,vN,vN,vN,lst 3 Ao.c b.Waivers,vN]) 42),(26,Z6j b)]⟩) 100000 2 (fun _ _=>default) 48 [] [(3,[5])] hk0) (Cv.trans (BH (⟨PJ,[(100000,Z6k),(BC b),(2,Z6h),(3,Z6l b),(26,Z6j b)]⟩) lr (.cons ⟨rfl,Ai 48 (B5 2 (fun _ _=>default) BA.c)⟩ (.cons ⟨rfl,.refl _⟩ (.cons ⟨rfl,.refl _⟩ (.cons ⟨rfl,.cells _ (rr5 (.cons (.own _ _ au0) (rr (rr (rr (rr (rr (rr (rr (rr (rr .nil)))))))))))⟩ lr))))) (Cv.trans (ck (⟨PJ,[(BC b),(2,Z6h),(3,Z6l b),(26,Z6j b),(100000,Z6k)]⟩)) (Cv.refl _)))) ?_
 refine BN (ι:=Nat×List BA×Int) (fun x=>⟨(A6 [(4,tI x.2.2)]),[(BC b),(2,Z6h),(3,.cells (Ep b [.own 100000 2 x.2.1.length,vN,lst 8 Br.c b.Vias,vN,vN,vN,vN,vN,lst 3 Ao.c b.Waivers,vN]) 42),(26,Z6j b),(100000,.row 2 x.2.1.length (AU BA.c x.2.1) 48)]⟩) (fun x=>((b.Nets.length:Int)-x.2.2).toNat<x.1/\(0<=x.2.2/\(x.2.2<=(b.Nets.length:Int)\/x.2.2=0)/\(x.2.1.length:Int)<=0+1*(x.2.2-0))/\AL b x.1 x.2.1 x.2.2=AC b) (fun x=>x.1) ?_ (((b.Nets.length:Int)-0).toNat+1,([]:List BA),0) ⟨Nat.lt_succ_self _,⟨ax0,ax0,ax0⟩,(by simp only [AC,cond_true,cond_false])⟩
 rintro ⟨n0,v3_5,v4⟩ ⟨hm0,hinv0,hF0⟩
 try dsimp only at hm0 hinv0 hF0
 cases n0 with | zero=>exact nz hm0 | succ n0 => ?_
 have hb:=hc.pin v4.toNat
 refine AD<|AD ?_
 refine rn ⟨(A6 [(4,tI v4),(40,tB (decide ((v4:Int)<(b.Nets.length:Int))))]),[(BC b),(2,Z6h),(3,Z6m b v3_5),(26,Z6j b),(Bw v3_5)]⟩ ?_
 refine Aa _ rfl (fun h1 => ?_) (fun h1 => ?_)
 ·have g1:=oT h1
  refine Ad<|AJ ?_
  refine AD<|AX ?_
  refine dw [1000051] [] [0<=(v4:Int)/\(v4:Int)<((b.Nets.length:Nat):Int),0<=(v4:Int)/\(v4:Int)<((b.Nets.length:Nat):Int),(b.Nets.getD v4.toNat default).Pins.length<=maxLen,(b.Nets.getD v4.toNat default).Pins.length*32<=140737488355328,v3_5.length=v3_5.length,v3_5.length+1<=maxLen,(v3_5.length+1)*40<=140737488355328] ⟨(A6 [(4,tI v4)]),[(BC b),(2,Z6h),(3,.cells (Ep b [.own 61 2 (v3_5.length+1),vN,lst 8 Br.c b.Vias,vN,vN,vN,vN,vN,lst 3 Ao.c b.Waivers,vN]) 42),(26,Z6j b),(61,.row 2 (v3_5.length+1) (fun i_ j_=>if i_<v3_5.length then (AU BA.c v3_5) i_ j_ else (Au 2 1 (BA.c (b.Nets.getD v4.toNat default))) (i_-v3_5.length) j_) 48)]⟩ .nil (.cons au1 (.cons au1 (.cons au10 (.cons au10 (.cons rfl (.cons au10 (.cons au10 .nil)))))))<|Bg<|AJ ?_
  refine BL (Cv.trans (BH (⟨(A6 [(4,tI v4)]),[(BC b),(2,Z6h),(3,Z6n b v3_5 v4),(26,Z6j b),(61,Z6o v3_5 b v4)]⟩) lr (.cons ⟨rfl,.refl _⟩ (.cons ⟨rfl,.refl _⟩ (.cons ⟨rfl,.cells _ (rr5 (.cons (.own _ _ au0) (rr (rr (rr (rr (rr (rr (rr (rr (rr .nil)))))))))))⟩ (.cons ⟨rfl,.refl _⟩ (.cons ⟨rfl,Ai 48 (BM (A8 2 BA.c v3_5) (Ar (c:=BA.c) (xs:=([b.Nets.getD v4.toNat default]:List BA)) rfl kr))⟩ .nil)))))) (Cv.refl _)) ?_
  refine rg ⟨(A6 [(4,tI (W64 (v4+1)))]),[(BC b),(2,Z6h),(3,Z6n b v3_5 v4),(26,Z6j b),(61,Z6o v3_5 b v4)]⟩ ?_
  (try rw [(show W64 (v4+1)=v4+1 from Ap oM au8)])
  refine AJ ?_
  refine ⟨(n0,v3_5++[b.Nets.getD v4.toNat default],v4+1),⟨?_,?_,(by rw [<- hF0];simp only [AL,h1,cond_true,cond_false])⟩,Nat.lt_succ_self _,Cv.trans (vr 61 100000 hk0) (A9 kr)⟩
  ·show ((b.Nets.length:Int)-(v4+1)).toNat<n0;omega
  exact ⟨ax0,ax0,ax0⟩
 have g1:=oF h1
 refine BO<|BD ?_
 refine BD<|BP ?_
 refine AJ<|AD<|AD ?_
 refine rn ⟨PI,[(BC b),(2,Z6h),(3,Z6m b v3_5),(26,Z6j b),(Bw v3_5)]⟩<|AX ?_
 refine BL (Cv.trans (wg (⟨PI,[(100001,.row 6 0 (fun _ _=>default) 85),(BC b),(2,Z6h),(3,.cells (Ep b [.own 100000 2 v3_5.length,.own 100001 6 0,lst 8 Br.c b.Vias,vN,vN,vN,vN,vN,lst 3 Ao.c b.Waivers,vN]) 42),(26,Z6j b),(Bw v3_5)]⟩) 100001 6 (fun _ _=>default) 85 [] [(3,[6])] hk0) (Cv.trans (BH (⟨PI,[(100001,Z6p),(BC b),(2,Z6h),(3,Z6q b v3_5),(26,Z6j b),(Bw v3_5)]⟩) lr (.cons ⟨rfl,Ai 85 (B5 6 (fun _ _=>default) Aj.c)⟩ (.cons ⟨rfl,.refl _⟩ (.cons ⟨rfl,.refl _⟩ (.cons ⟨rfl,.cells _ (rr5 (rr (.cons (.own _ _ au0) (rr (rr (rr (rr (rr (rr (rr (rr .nil)))))))))))⟩ lr))))) (Cv.trans (ck (⟨PI,[(BC b),(2,Z6h),(3,Z6q b v3_5),(26,Z6j b),(Bw v3_5),(100001,Z6p)]⟩)) (Cv.refl _)))) ?_
 refine BN (ι:=Nat×List Aj×Int) (fun x=>⟨(A6 [(5,tI x.2.2)]),[(BC b),(2,Z6h),(3,.cells (Ep b [.own 100000 2 v3_5.length,.own 100001 6 x.2.1.length,lst 8 Br.c b.Vias,vN,vN,vN,vN,vN,lst 3 Ao.c b.Waivers,vN]) 42),(26,Z6j b),(Bw v3_5),(100001,.row 6 x.2.1.length (AU Aj.c x.2.1) 85)]⟩) (fun x=>((b.Tracks.length:Int)-x.2.2).toNat<x.1/\(0<=x.2.2/\(x.2.2<=(b.Tracks.length:Int)\/x.2.2=0)/\(x.2.1.length:Int)<=0+1*(x.2.2-0))/\AZ b v3_5 v4 (AL b n0) x.1 x.2.1 x.2.2=AC b) (fun x=>x.1) ?_ (((b.Tracks.length:Int)-0).toNat+1,([]:List Aj),0) ⟨Nat.lt_succ_self _,⟨ax0,ax0,ax0⟩,(by rw [<- hF0];simp only [AL,h1,cond_true,cond_false])⟩
 rintro ⟨n1,v3_6,v5⟩ ⟨hm1,hinv1,hF1⟩
 try dsimp only at hm1 hinv1 hF1
 cases n1 with | zero=>exact nz hm1 | succ n1 => ?_
 refine AD<|AD ?_
 refine rn ⟨(A6 [(5,tI v5),(67,tB (decide ((v5:Int)<(b.Tracks.length:Int))))]),[(BC b),(2,Z6h),(3,Z6r b v3_5 v3_6),(26,Z6j b),(Bw v3_5),(100001,Z6s v3_6)]⟩ ?_
 refine Aa _ rfl (fun h2 => ?_) (fun h2 => ?_)
 ·have g2:=oT h2
  refine Ad<|AJ ?_
  refine AD<|AX<|AD ?_
  refine rc [] [0<=(v5:Int)/\(v5:Int)<((b.Tracks.length:Nat):Int)] ⟨(A6 [(5,tI v5),(6,tP 6 0)]),[(BC b),(2,Z6h),(3,Z6r b v3_5 v3_6),(6,.cells (Aj.c (HQ b v5)) 85),(26,Z6j b),(Bw v3_5),(100001,Z6s v3_6)]⟩ .nil (.cons au1 .nil)<|AJ<|AD ?_
  refine rs 77 (Da (b.Tracks.getD v5.toNat default).Shape) ⟨(A6 [(5,tI v5),(6,tP 6 0)]),[(BC b),(2,Z6h),(3,Z6r b v3_5 v3_6),(6,.cells (WB b v5) 85),(26,Z6j b),(Bw v3_5),(100001,Z6s v3_6)]⟩ (E3 (b.Tracks.getD v5.toNat default).Shape au23)<|AJ ?_
  refine rc [] [v3_6.length=v3_6.length,v3_6.length+1<=maxLen,(v3_6.length+1)*72<=140737488355328] ⟨(A6 [(5,tI v5)]),[(BC b),(2,Z6h),(3,.cells (Ep b [.own 100000 2 v3_5.length,.own 83 6 (v3_6.length+1),lst 8 Br.c b.Vias,vN,vN,vN,vN,vN,lst 3 Ao.c b.Waivers,vN]) 42),(26,Z6j b),(83,.row 6 (v3_6.length+1) (fun i_ j_=>if i_<v3_6.length then (AU Aj.c v3_6) i_ j_ else (Au 6 1 (WB b v5)) (i_-v3_6.length) j_) 85),(Bw v3_5)]⟩ .nil (.cons rfl (.cons au10 (.cons au10 .nil)))<|Bg<|AJ ?_
  refine BL (Cv.trans (BH (⟨(A6 [(5,tI v5)]),[(BC b),(2,Z6h),(3,Z6u b v3_5 v3_6 v5),(26,Z6j b),(83,Z6v v3_6 b v5),(Bw v3_5)]⟩) lr (.cons ⟨rfl,.refl _⟩ (.cons ⟨rfl,.refl _⟩ (.cons ⟨rfl,.cells _ (rr5 (rr (.cons (.own _ _ au0) (rr (rr (rr (rr (rr (rr (rr (rr .nil)))))))))))⟩ (.cons ⟨rfl,.refl _⟩ (.cons ⟨rfl,Ai 85 (BM (A8 6 Aj.c v3_6) (Ar (c:=Aj.c) (xs:=([Aj.mk (b.Tracks.getD v5.toNat default).Id (b.Tracks.getD v5.toNat default).Net (b.Tracks.getD v5.toNat default).Layer (Z6t b v5)]:List Aj)) rfl kr))⟩ lr)))))) (Cv.refl _)) ?_
  refine rg ⟨(A6 [(5,tI (W64 (v5+1)))]),[(BC b),(2,Z6h),(3,Z6u b v3_5 v3_6 v5),(26,Z6j b),(83,Z6v v3_6 b v5),(Bw v3_5)]⟩ ?_
  (try rw [(show W64 (v5+1)=v5+1 from Ap oM au8)])
  refine AJ ?_
  refine ⟨(n1,v3_6++[Aj.mk (b.Tracks.getD v5.toNat default).Id (b.Tracks.getD v5.toNat default).Net (b.Tracks.getD v5.toNat default).Layer (Z6t b v5)],v5+1),⟨?_,?_,(by rw [<- hF1];simp only [AZ,h2,cond_true,cond_false])⟩,Nat.lt_succ_self _,Cv.trans (vr 83 100001 hk0) (Cv.trans (vk [1,2,3,5] [1,2,3,26,100000,100001]) (A9 kr))⟩
  ·show ((b.Tracks.length:Int)-(v5+1)).toNat<n1;omega
  exact ⟨ax0,ax0,ax0⟩
 have g2:=oF h2
 refine BO<|BD ?_
 refine BD<|BP ?_
 refine AJ<|AD<|AD ?_
 refine rn ⟨PH,[(BC b),(2,Z6h),(3,Z6r b v3_5 v3_6),(26,Z6j b),(Bw v3_5),(100001,Z6s v3_6)]⟩<|AX ?_
 refine BL (Cv.trans (wg (⟨PH,[(100002,.row 8 0 (fun _ _=>default) 90),(BC b),(2,Z6h),(3,.cells (Bj b v3_5 v3_6 [.own 100002 8 0,vN,vN,vN,vN,lst 3 Ao.c b.Waivers,vN]) 42),(26,Z6j b),(Bw v3_5),(100001,Z6s v3_6)]⟩) 100002 8 (fun _ _=>default) 90 [] [(3,[8])] hk0) (Cv.trans (BH (⟨PH,[(100002,Z6x),(BC b),(2,Z6h),(3,Z6y b v3_5 v3_6),(26,Z6j b),(Bw v3_5),(100001,Z6s v3_6)]⟩) lr (.cons ⟨rfl,Ai 90 (B5 8 (fun _ _=>default) BB.c)⟩ (.cons ⟨rfl,.refl _⟩ (.cons ⟨rfl,.refl _⟩ (.cons ⟨rfl,.cells _ (rr5 (rr3 (.cons (.own _ _ au0) (rr (rr (rr (rr (rr (rr .nil)))))))))⟩ lr))))) (Cv.trans (ck (⟨PH,[(BC b),(2,Z6h),(3,Z6y b v3_5 v3_6),(26,Z6j b),(Bw v3_5),(100001,Z6s v3_6),(100002,Z6x)]⟩)) (Cv.refl _)))) ?_
 refine BN (ι:=Nat×List BB×Int) (fun x=>⟨(A6 [(7,tI x.2.2)]),[(BC b),(2,Z6h),(3,.cells (Bj b v3_5 v3_6 [.own 100002 8 x.2.1.length,vN,vN,vN,vN,lst 3 Ao.c b.Waivers,vN]) 42),(26,Z6j b),(Bw v3_5),(100001,Z6s v3_6),(100002,.row 8 x.2.1.length (AU BB.c x.2.1) 90)]⟩) (fun x=>((b.Pours.length:Int)-x.2.2).toNat<x.1/\(0<=x.2.2/\(x.2.2<=(b.Pours.length:Int)\/x.2.2=0)/\(x.2.1.length:Int)<=0+1*(x.2.2-0))/\Az b v3_5 v4 v3_6 v5 (AL b n0) (AZ b v3_5 v4 (AL b n0) n1) x.1 x.2.1 x.2.2=AC b) (fun x=>x.1) ?_ (((b.Pours.length:Int)-0).toNat+1,([]:List BB),0) ⟨Nat.lt_succ_self _,⟨ax0,ax0,ax0⟩,(by rw [<- hF1];simp only [AZ,h2,cond_true,cond_false])⟩
 rintro ⟨n2,v3_8,v7⟩ ⟨hm2,hinv2,hF2⟩
 try dsimp only at hm2 hinv2 hF2
 cases n2 with | zero=>exact nz hm2 | succ n2 => ?_
 have hb:=hc.rec' v7.toNat
 refine AD<|AD ?_
 refine rn ⟨(A6 [(7,tI v7),(89,tB (decide ((v7:Int)<(b.Pours.length:Int))))]),[(BC b),(2,Z6h),(3,Z6z b v3_5 v3_6 v3_8),(26,Z6j b),(Bw v3_5),(100001,Z6s v3_6),(100002,Z6A v3_8)]⟩ ?_
 refine Aa _ rfl (fun h3 => ?_) (fun h3 => ?_)
 ·have g3:=oT h3
  refine Ad<|AJ ?_
  refine AD<|AX<|AD ?_
  refine rc [] [0<=(v7:Int)/\(v7:Int)<((b.Pours.length:Nat):Int)] ⟨(A6 [(7,tI v7),(8,tP 8 0)]),[(BC b),(2,Z6h),(3,Z6z b v3_5 v3_6 v3_8),(8,.cells (BB.c (Hk b v7)) 90),(26,Z6j b),(Bw v3_5),(100001,Z6s v3_6),(100002,Z6A v3_8)]⟩ .nil (.cons au1 .nil)<|AJ<|AD ?_
  refine DQ D6 [1000097] [] [] [1,2,3,7,8] [1,2,3,8,26,100000,100001,100002] [(b.Pours.getD v7.toNat default).Rects.length<=maxLen,(b.Pours.getD v7.toNat default).Rects.length*32<=140737488355328] ⟨(A6 [(7,tI v7),(8,tP 8 0)]),[(BC b),(2,Z6h),(3,Z6z b v3_5 v3_6 v3_8),(8,.cells (BB.c (Hk b v7)) 90),(26,Z6j b),(Bw v3_5),(100001,Z6s v3_6),(100002,Z6A v3_8)]⟩ .nil kr (.cons au10 (.cons au10 .nil))<|AJ ?_
  refine rc [] [v3_8.length=v3_8.length,v3_8.length+1<=maxLen,(v3_8.length+1)*88<=140737488355328] ⟨(A6 [(7,tI v7)]),[(BC b),(2,Z6h),(3,.cells (Bj b v3_5 v3_6 [.own 106 8 (v3_8.length+1),vN,vN,vN,vN,lst 3 Ao.c b.Waivers,vN]) 42),(26,Z6j b),(106,.row 8 (v3_8.length+1) (fun i_ j_=>if i_<v3_8.length then (AU BB.c v3_8) i_ j_ else (Au 8 1 (BB.c (Hk b v7))) (i_-v3_8.length) j_) 90),(Bw v3_5),(100001,Z6s v3_6)]⟩ .nil (.cons rfl (.cons au10 (.cons au10 .nil)))<|Bg<|AJ ?_
  refine BL (Cv.trans (BH (⟨(A6 [(7,tI v7)]),[(BC b),(2,Z6h),(3,Z6B b v3_5 v3_6 v3_8 v7),(26,Z6j b),(106,Z6C v3_8 b v7),(Bw v3_5),(100001,Z6s v3_6)]⟩) lr (.cons ⟨rfl,.refl _⟩ (.cons ⟨rfl,.refl _⟩ (.cons ⟨rfl,.cells _ (rr5 (rr3 (.cons (.own _ _ au0) (rr (rr (rr (rr (rr (rr .nil)))))))))⟩ (.cons ⟨rfl,.refl _⟩ (.cons ⟨rfl,Ai 90 (BM (A8 8 BB.c v3_8) (Ar (c:=BB.c) (xs:=([b.Pours.getD v7.toNat default]:List BB)) rfl kr))⟩ lr)))))) (Cv.refl _)) ?_
  refine rg ⟨(A6 [(7,tI (W64 (v7+1)))]),[(BC b),(2,Z6h),(3,Z6B b v3_5 v3_6 v3_8 v7),(26,Z6j b),(106,Z6C v3_8 b v7),(Bw v3_5),(100001,Z6s v3_6)]⟩ ?_
  (try rw [(show W64 (v7+1)=v7+1 from Ap oM au8)])
  refine AJ ?_
  refine ⟨(n2,v3_8++[b.Pours.getD v7.toNat default],v7+1),⟨?_,?_,(by rw [<- hF2];simp only [Az,h3,cond_true,cond_false])⟩,Nat.lt_succ_self _,Cv.trans (vr 106 100002 hk0) (Cv.trans (vk [1,2,3,7] [1,2,3,26,100000,100001,100002]) (A9 kr))⟩
  ·show ((b.Pours.length:Int)-(v7+1)).toNat<n2;omega
  exact ⟨ax0,ax0,ax0⟩
 have g3:=oF h3
 refine BO<|BD ?_
 refine BD<|BP ?_
 refine AJ<|AD<|AD ?_
 refine rn ⟨PG,[(BC b),(2,Z6h),(3,Z6z b v3_5 v3_6 v3_8),(26,Z6j b),(Bw v3_5),(100001,Z6s v3_6),(100002,Z6A v3_8)]⟩<|AX ?_
 refine BL (Cv.trans (wg (⟨PG,[(100003,.row 5 0 (fun _ _=>default) 93),(BC b),(2,Z6h),(3,.cells (Bj b v3_5 v3_6 [.own 100002 8 v3_8.length,.own 100003 5 0,vN,vN,vN,lst 3 Ao.c b.Waivers,vN]) 42),(26,Z6j b),(Bw v3_5),(100001,Z6s v3_6),(100002,Z6A v3_8)]⟩) 100003 5 (fun _ _=>default) 93 [] [(3,[9])] hk0) (Cv.trans (BH (⟨PG,[(100003,Z6E),(BC b),(2,Z6h),(3,Z6F b v3_5 v3_6 v3_8),(26,Z6j b),(Bw v3_5),(100001,Z6s v3_6),(100002,Z6A v3_8)]⟩) lr (.cons ⟨rfl,Ai 93 (B5 5 (fun _ _=>default) BS.c)⟩ (.cons ⟨rfl,.refl _⟩ (.cons ⟨rfl,.refl _⟩ (.cons ⟨rfl,.cells _ (rr9 (.cons (.own _ _ au0) (rr (rr (rr (rr (rr .nil)))))))⟩ lr))))) (Cv.trans (ck (⟨PG,[(BC b),(2,Z6h),(3,Z6F b v3_5 v3_6 v3_8),(26,Z6j b),(Bw v3_5),(100001,Z6s v3_6),(100002,Z6A v3_8),(100003,Z6E)]⟩)) (Cv.refl _)))) ?_
 refine BN (ι:=Nat×List BS×Int) (fun x=>⟨(A6 [(9,tI x.2.2)]),[(BC b),(2,Z6h),(3,.cells (Bj b v3_5 v3_6 [.own 100002 8 v3_8.length,.own 100003 5 x.2.1.length,vN,vN,vN,lst 3 Ao.c b.Waivers,vN]) 42),(26,Z6j b),(Bw v3_5),(100001,Z6s v3_6),(100002,Z6A v3_8),(100003,.row 5 x.2.1.length (AU BS.c x.2.1) 93)]⟩) (fun x=>((b.Keeps.length:Int)-x.2.2).toNat<x.1/\(0<=x.2.2/\(x.2.2<=(b.Keeps.length:Int)\/x.2.2=0)/\(x.2.1.length:Int)<=0+1*(x.2.2-0))/\Bc b v3_5 v4 v3_6 v5 v3_8 v7 (AL b n0) (AZ b v3_5 v4 (AL b n0) n1) (Az b v3_5 v4 v3_6 v5 (AL b n0) (AZ b v3_5 v4 (AL b n0) n1) n2) x.1 x.2.1 x.2.2=AC b) (fun x=>x.1) ?_ (((b.Keeps.length:Int)-0).toNat+1,([]:List BS),0) ⟨Nat.lt_succ_self _,⟨ax0,ax0,ax0⟩,(by rw [<- hF2];simp only [Az,h3,cond_true,cond_false])⟩
 rintro ⟨n3,v3_9,v9⟩ ⟨hm3,hinv3,hF3⟩
 try dsimp only at hm3 hinv3 hF3
 cases n3 with | zero=>exact nz hm3 | succ n3 => ?_
 refine AD<|AD ?_
 refine rn ⟨(A6 [(9,tI v9),(112,tB (decide ((v9:Int)<(b.Keeps.length:Int))))]),[(BC b),(2,Z6h),(3,Z6G b v3_5 v3_6 v3_8 v3_9),(26,Z6j b),(Bw v3_5),(100001,Z6s v3_6),(100002,Z6A v3_8),(100003,Z6H v3_9)]⟩ ?_
 refine Aa _ rfl (fun h4 => ?_) (fun h4 => ?_)
 ·have g4:=oT h4
  refine Ad<|AJ ?_
  refine AD<|AX<|AD ?_
  refine rc [] [0<=(v9:Int)/\(v9:Int)<((b.Keeps.length:Nat):Int)] ⟨(A6 [(9,tI v9),(10,tP 10 0)]),[(BC b),(2,Z6h),(3,Z6G b v3_5 v3_6 v3_8 v3_9),(10,.cells (BS.c (Qj b v9)) 93),(26,Z6j b),(Bw v3_5),(100001,Z6s v3_6),(100002,Z6A v3_8),(100003,Z6H v3_9)]⟩ .nil (.cons au1 .nil)<|AJ<|AD ?_
  refine rs 122 (Da (b.Keeps.getD v9.toNat default).Shape) ⟨(A6 [(9,tI v9),(10,tP 10 0)]),[(BC b),(2,Z6h),(3,Z6G b v3_5 v3_6 v3_8 v3_9),(10,.cells (V5 b v9) 93),(26,Z6j b),(Bw v3_5),(100001,Z6s v3_6),(100002,Z6A v3_8),(100003,Z6H v3_9)]⟩ (E3 (b.Keeps.getD v9.toNat default).Shape au23)<|AJ ?_
  refine rc [] [v3_9.length=v3_9.length,v3_9.length+1<=maxLen,(v3_9.length+1)*56<=140737488355328] ⟨(A6 [(9,tI v9)]),[(BC b),(2,Z6h),(3,.cells (Bj b v3_5 v3_6 [.own 100002 8 v3_8.length,.own 128 5 (v3_9.length+1),vN,vN,vN,lst 3 Ao.c b.Waivers,vN]) 42),(26,Z6j b),(128,.row 5 (v3_9.length+1) (fun i_ j_=>if i_<v3_9.length then (AU BS.c v3_9) i_ j_ else (Au 5 1 (V5 b v9)) (i_-v3_9.length) j_) 93),(Bw v3_5),(100001,Z6s v3_6),(100002,Z6A v3_8)]⟩ .nil (.cons rfl (.cons au10 (.cons au10 .nil)))<|Bg<|AJ ?_
  refine BL (Cv.trans (BH (⟨(A6 [(9,tI v9)]),[(BC b),(2,Z6h),(3,Z6J b v3_5 v3_6 v3_8 v3_9 v9),(26,Z6j b),(128,Z6K v3_9 b v9),(Bw v3_5),(100001,Z6s v3_6),(100002,Z6A v3_8)]⟩) lr (.cons ⟨rfl,.refl _⟩ (.cons ⟨rfl,.refl _⟩ (.cons ⟨rfl,.cells _ (rr9 (.cons (.own _ _ au0) (rr (rr (rr (rr (rr .nil)))))))⟩ (.cons ⟨rfl,.refl _⟩ (.cons ⟨rfl,Ai 93 (BM (A8 5 BS.c v3_9) (Ar (c:=BS.c) (xs:=([BS.mk (b.Keeps.getD v9.toNat default).Id (b.Keeps.getD v9.toNat default).Layer (Z6I b v9)]:List BS)) rfl kr))⟩ lr)))))) (Cv.refl _)) ?_
  refine rg ⟨(A6 [(9,tI (W64 (v9+1)))]),[(BC b),(2,Z6h),(3,Z6J b v3_5 v3_6 v3_8 v3_9 v9),(26,Z6j b),(128,Z6K v3_9 b v9),(Bw v3_5),(100001,Z6s v3_6),(100002,Z6A v3_8)]⟩ ?_
  (try rw [(show W64 (v9+1)=v9+1 from Ap oM au8)])
  refine AJ ?_
  refine ⟨(n3,v3_9++[BS.mk (b.Keeps.getD v9.toNat default).Id (b.Keeps.getD v9.toNat default).Layer (Z6I b v9)],v9+1),⟨?_,?_,(by rw [<- hF3];simp only [Bc,h4,cond_true,cond_false])⟩,Nat.lt_succ_self _,Cv.trans (vr 128 100003 hk0) (Cv.trans (vk [1,2,3,9] [1,2,3,26,100000,100001,100002,100003]) (A9 kr))⟩
  ·show ((b.Keeps.length:Int)-(v9+1)).toNat<n3;omega
  exact ⟨ax0,ax0,ax0⟩
 have g4:=oF h4
 refine BO<|BD ?_
 refine BD<|BP ?_
 refine AJ<|AD<|AD ?_
 refine rn ⟨PO,[(BC b),(2,Z6h),(3,Z6G b v3_5 v3_6 v3_8 v3_9),(26,Z6j b),(Bw v3_5),(100001,Z6s v3_6),(100002,Z6A v3_8),(100003,Z6H v3_9)]⟩<|AX ?_
 refine BL (Cv.trans (wg (⟨PO,[(100004,.row 4 0 (fun _ _=>default) 95),(BC b),(2,Z6h),(3,.cells (Bj b v3_5 v3_6 (Il v3_8 v3_9 [.own 100004 4 0,vN,vN,lst 3 Ao.c b.Waivers,vN])) 42),(26,Z6j b),(Bw v3_5),(100001,Z6s v3_6),(100002,Z6A v3_8),(100003,Z6H v3_9)]⟩) 100004 4 (fun _ _=>default) 95 [] [(3,[10])] hk0) (Cv.trans (BH (⟨PO,[(100004,Z6M),(BC b),(2,Z6h),(3,Z6N b v3_5 v3_6 v3_8 v3_9),(26,Z6j b),(Bw v3_5),(100001,Z6s v3_6),(100002,Z6A v3_8),(100003,Z6H v3_9)]⟩) lr (.cons ⟨rfl,Ai 95 (B5 4 (fun _ _=>default) Bb.c)⟩ (.cons ⟨rfl,.refl _⟩ (.cons ⟨rfl,.refl _⟩ (.cons ⟨rfl,.cells _ (rr9 (rr (.cons (.own _ _ au0) (rr (rr (rr (rr .nil)))))))⟩ lr))))) (Cv.trans (ck (⟨PO,[(BC b),(2,Z6h),(3,Z6N b v3_5 v3_6 v3_8 v3_9),(26,Z6j b),(Bw v3_5),(100001,Z6s v3_6),(100002,Z6A v3_8),(100003,Z6H v3_9),(100004,Z6M)]⟩)) (Cv.refl _)))) ?_
 refine BN (ι:=Nat×List Bb×Int) (fun x=>⟨(A6 [(11,tI x.2.2)]),[(BC b),(2,Z6h),(3,.cells (Bj b v3_5 v3_6 (Il v3_8 v3_9 [.own 100004 4 x.2.1.length,vN,vN,lst 3 Ao.c b.Waivers,vN])) 42),(26,Z6j b),(Bw v3_5),(100001,Z6s v3_6),(100002,Z6A v3_8),(100003,Z6H v3_9),(100004,.row 4 x.2.1.length (AU Bb.c x.2.1) 95)]⟩) (fun x=>((b.Slots.length:Int)-x.2.2).toNat<x.1/\(0<=x.2.2/\(x.2.2<=(b.Slots.length:Int)\/x.2.2=0)/\(x.2.1.length:Int)<=0+1*(x.2.2-0))/\CK b v3_5 v4 v3_6 v5 v3_8 v7 v3_9 v9 (AL b n0) (AZ b v3_5 v4 (AL b n0) n1) (Az b v3_5 v4 v3_6 v5 (AL b n0) (AZ b v3_5 v4 (AL b n0) n1) n2) (Bc b v3_5 v4 v3_6 v5 v3_8 v7 (AL b n0) (AZ b v3_5 v4 (AL b n0) n1) (Az b v3_5 v4 v3_6 v5 (AL b n0) (AZ b v3_5 v4 (AL b n0) n1) n2) n3) x.1 x.2.1 x.2.2=AC b) (fun x=>x.1) ?_ (((b.Slots.length:Int)-0).toNat+1,([]:List Bb),0) ⟨Nat.lt_succ_self _,⟨ax0,ax0,ax0⟩,(by rw [<- hF3];simp only [Bc,h4,cond_true,cond_false])⟩
 rintro ⟨n4,v3_10,v11⟩ ⟨hm4,hinv4,hF4⟩
 try dsimp only at hm4 hinv4 hF4
 cases n4 with | zero=>exact nz hm4 | succ n4 => ?_
 refine AD<|AD ?_
 refine rn ⟨(A6 [(11,tI v11),(134,tB (decide ((v11:Int)<(b.Slots.length:Int))))]),[(BC b),(2,Z6h),(3,Z6O b v3_5 v3_6 v3_8 v3_9 v3_10),(26,Z6j b),(Bw v3_5),(100001,Z6s v3_6),(100002,Z6A v3_8),(100003,Z6H v3_9),(100004,Z6P v3_10)]⟩ ?_
 refine Aa _ rfl (fun h5 => ?_) (fun h5 => ?_)
 ·have g5:=oT h5
  refine Ad<|AJ ?_
  refine AD<|AX<|AD ?_
  refine rc [] [0<=(v11:Int)/\(v11:Int)<((b.Slots.length:Nat):Int)] ⟨(A6 [(11,tI v11),(12,tP 12 0)]),[(BC b),(2,Z6h),(3,Z6O b v3_5 v3_6 v3_8 v3_9 v3_10),(12,.cells (Bb.c (b.Slots.getD v11.toNat default)) 95),(26,Z6j b),(Bw v3_5),(100001,Z6s v3_6),(100002,Z6A v3_8),(100003,Z6H v3_9),(100004,Z6P v3_10)]⟩ .nil (.cons au1 .nil)<|AJ<|AD ?_
  refine rs 144 (Da (b.Slots.getD v11.toNat default).Shape) ⟨(A6 [(11,tI v11),(12,tP 12 0)]),[(BC b),(2,Z6h),(3,Z6O b v3_5 v3_6 v3_8 v3_9 v3_10),(12,.cells (V8 b v11) 95),(26,Z6j b),(Bw v3_5),(100001,Z6s v3_6),(100002,Z6A v3_8),(100003,Z6H v3_9),(100004,Z6P v3_10)]⟩ (E3 (b.Slots.getD v11.toNat default).Shape au23)<|AJ ?_
  refine rc [] [v3_10.length=v3_10.length,v3_10.length+1<=maxLen,(v3_10.length+1)*48<=140737488355328] ⟨(A6 [(11,tI v11)]),[(BC b),(2,Z6h),(3,.cells (Bj b v3_5 v3_6 (Il v3_8 v3_9 [.own 150 4 (v3_10.length+1),vN,vN,lst 3 Ao.c b.Waivers,vN])) 42),(26,Z6j b),(150,.row 4 (v3_10.length+1) (fun i_ j_=>if i_<v3_10.length then (AU Bb.c v3_10) i_ j_ else (Au 4 1 (V8 b v11)) (i_-v3_10.length) j_) 95),(Bw v3_5),(100001,Z6s v3_6),(100002,Z6A v3_8),(100003,Z6H v3_9)]⟩ .nil (.cons rfl (.cons au10 (.cons au10 .nil)))<|Bg<|AJ ?_
  refine BL (Cv.trans (BH (⟨(A6 [(11,tI v11)]),[(BC b),(2,Z6h),(3,Z6R b v3_5 v3_6 v3_8 v3_9 v3_10 v11),(26,Z6j b),(150,Z6S v3_10 b v11),(Bw v3_5),(100001,Z6s v3_6),(100002,Z6A v3_8),(100003,Z6H v3_9)]⟩) lr (.cons ⟨rfl,.refl _⟩ (.cons ⟨rfl,.refl _⟩ (.cons ⟨rfl,.cells _ (rr9 (rr (.cons (.own _ _ au0) (rr (rr (rr (rr .nil)))))))⟩ (.cons ⟨rfl,.refl _⟩ (.cons ⟨rfl,Ai 95 (BM (A8 4 Bb.c v3_10) (Ar (c:=Bb.c) (xs:=([Bb.mk (b.Slots.getD v11.toNat default).Id (Z6Q b v11)]:List Bb)) rfl kr))⟩ lr)))))) (Cv.refl _)) ?_
  refine rg ⟨(A6 [(11,tI (W64 (v11+1)))]),[(BC b),(2,Z6h),(3,Z6R b v3_5 v3_6 v3_8 v3_9 v3_10 v11),(26,Z6j b),(150,Z6S v3_10 b v11),(Bw v3_5),(100001,Z6s v3_6),(100002,Z6A v3_8),(100003,Z6H v3_9)]⟩ ?_
  (try rw [(show W64 (v11+1)=v11+1 from Ap oM au8)])
  refine AJ ?_
  refine ⟨(n4,v3_10++[Bb.mk (b.Slots.getD v11.toNat default).Id (Z6Q b v11)],v11+1),⟨?_,?_,(by rw [<- hF4];simp only [CK,h5,cond_true,cond_false])⟩,Nat.lt_succ_self _,Cv.trans (vr 150 100004 hk0) (Cv.trans (vk [1,2,3,11] [1,2,3,26,100000,100001,100002,100003,100004]) (A9 kr))⟩
  ·show ((b.Slots.length:Int)-(v11+1)).toNat<n4;omega
  exact ⟨ax0,ax0,ax0⟩
 have g5:=oF h5
 refine BO<|BD ?_
 refine BD<|BP ?_
 refine AJ<|AD<|AD ?_
 refine rn ⟨PN,[(BC b),(2,Z6h),(3,Z6O b v3_5 v3_6 v3_8 v3_9 v3_10),(26,Z6j b),(Bw v3_5),(100001,Z6s v3_6),(100002,Z6A v3_8),(100003,Z6H v3_9),(100004,Z6P v3_10)]⟩<|AX ?_
 refine BL (Cv.trans (wg (⟨PN,[(100005,.row 2 0 (fun _ _=>default) 98),(BC b),(2,Z6h),(3,.cells (Bj b v3_5 v3_6 (C3 v3_8 v3_9 v3_10 [.own 100005 2 0,vN,lst 3 Ao.c b.Waivers,vN])) 42),(26,Z6j b),(Bw v3_5),(100001,Z6s v3_6),(100002,Z6A v3_8),(100003,Z6H v3_9),(100004,Z6P v3_10)]⟩) 100005 2 (fun _ _=>default) 98 [] [(3,[11])] hk0) (Cv.trans (BH (⟨PN,[(100005,Z6U),(BC b),(2,Z6h),(3,Z6V b v3_5 v3_6 v3_8 v3_9 v3_10),(26,Z6j b),(Bw v3_5),(100001,Z6s v3_6),(100002,Z6A v3_8),(100003,Z6H v3_9),(100004,Z6P v3_10)]⟩) lr (.cons ⟨rfl,Ai 98 (B5 2 (fun _ _=>default) BJ.c)⟩ (.cons ⟨rfl,.refl _⟩ (.cons ⟨rfl,.refl _⟩ (.cons ⟨rfl,.cells _ (rr9 (rr2 (.cons (.own _ _ au0) (rr (rr (rr .nil))))))⟩ lr))))) (Cv.trans (ck (⟨PN,[(BC b),(2,Z6h),(3,Z6V b v3_5 v3_6 v3_8 v3_9 v3_10),(26,Z6j b),(Bw v3_5),(100001,Z6s v3_6),(100002,Z6A v3_8),(100003,Z6H v3_9),(100004,Z6P v3_10),(100005,Z6U)]⟩)) (Cv.refl _)))) ?_
 refine BN (ι:=Nat×List BJ×Int) (fun x=>⟨(A6 [(13,tI x.2.2)]),[(BC b),(2,Z6h),(3,.cells (Bj b v3_5 v3_6 (C3 v3_8 v3_9 v3_10 [.own 100005 2 x.2.1.length,vN,lst 3 Ao.c b.Waivers,vN])) 42),(26,Z6j b),(Bw v3_5),(100001,Z6s v3_6),(100002,Z6A v3_8),(100003,Z6H v3_9),(100004,Z6P v3_10),(100005,.row 2 x.2.1.length (AU BJ.c x.2.1) 98)]⟩) (fun x=>((b.Classes.length:Int)-x.2.2).toNat<x.1/\(0<=x.2.2/\(x.2.2<=(b.Classes.length:Int)\/x.2.2=0)/\(x.2.1.length:Int)<=0+1*(x.2.2-0))/\C2 b v3_5 v4 v3_6 v5 v3_8 v7 v3_9 v9 v3_10 v11 (AL b n0) (AZ b v3_5 v4 (AL b n0) n1) (Az b v3_5 v4 v3_6 v5 (AL b n0) (AZ b v3_5 v4 (AL b n0) n1) n2) (Bc b v3_5 v4 v3_6 v5 v3_8 v7 (AL b n0) (AZ b v3_5 v4 (AL b n0) n1) (Az b v3_5 v4 v3_6 v5 (AL b n0) (AZ b v3_5 v4 (AL b n0) n1) n2) n3) (CK b v3_5 v4 v3_6 v5 v3_8 v7 v3_9 v9 (AL b n0) (AZ b v3_5 v4 (AL b n0) n1) (Az b v3_5 v4 v3_6 v5 (AL b n0) (AZ b v3_5 v4 (AL b n0) n1) n2) (Bc b v3_5 v4 v3_6 v5 v3_8 v7 (AL b n0) (AZ b v3_5 v4 (AL b n0) n1) (Az b v3_5 v4 v3_6 v5 (AL b n0) (AZ b v3_5 v4 (AL b n0) n1) n2) n3) n4) x.1 x.2.1 x.2.2=AC b) (fun x=>x.1) ?_ (((b.Classes.length:Int)-0).toNat+1,([]:List BJ),0) ⟨Nat.lt_succ_self _,⟨ax0,ax0,ax0⟩,(by rw [<- hF4];simp only [CK,h5,cond_true,cond_false])⟩
 rintro ⟨n5,v3_11,v13⟩ ⟨hm5,hinv5,hF5⟩
 try dsimp only at hm5 hinv5 hF5
 cases n5 with | zero=>exact nz hm5 | succ n5 => ?_
 have hb:=hc.cnt v13.toNat
 refine AD<|AD ?_
 refine rn ⟨(A6 [(13,tI v13),(156,tB (decide ((v13:Int)<(b.Classes.length:Int))))]),[(BC b),(2,Z6h),(3,Z6W b v3_5 v3_6 v3_8 v3_9 v3_10 v3_11),(26,Z6j b),(Bw v3_5),(100001,Z6s v3_6),(100002,Z6A v3_8),(100003,Z6H v3_9),(100004,Z6P v3_10),(100005,Z6X v3_11)]⟩ ?_
 refine Aa _ rfl (fun h6 => ?_) (fun h6 => ?_)
 ·have g6:=oT h6
  refine Ad<|AJ ?_
  refine AD<|AX ?_
  refine dw [1000167] [] [0<=(v13:Int)/\(v13:Int)<((b.Classes.length:Nat):Int),0<=(v13:Int)/\(v13:Int)<((b.Classes.length:Nat):Int),(b.Classes.getD v13.toNat default).Nets.length<=maxLen,(b.Classes.getD v13.toNat default).Nets.length*16<=140737488355328,v3_11.length=v3_11.length,v3_11.length+1<=maxLen,(v3_11.length+1)*40<=140737488355328] ⟨(A6 [(13,tI v13)]),[(BC b),(2,Z6h),(3,.cells (Bj b v3_5 v3_6 (C3 v3_8 v3_9 v3_10 [.own 177 2 (v3_11.length+1),vN,lst 3 Ao.c b.Waivers,vN])) 42),(26,Z6j b),(177,.row 2 (v3_11.length+1) (fun i_ j_=>if i_<v3_11.length then (AU BJ.c v3_11) i_ j_ else (Au 2 1 (BJ.c (b.Classes.getD v13.toNat default))) (i_-v3_11.length) j_) 98),(Bw v3_5),(100001,Z6s v3_6),(100002,Z6A v3_8),(100003,Z6H v3_9),(100004,Z6P v3_10)]⟩ .nil (.cons au1 (.cons au1 (.cons au10 (.cons au10 (.cons rfl (.cons au10 (.cons au10 .nil)))))))<|Bg<|AJ ?_
  refine BL (Cv.trans (BH (⟨(A6 [(13,tI v13)]),[(BC b),(2,Z6h),(3,Z6Y b v3_5 v3_6 v3_8 v3_9 v3_10 v3_11 v13),(26,Z6j b),(177,Z6Z v3_11 b v13),(Bw v3_5),(100001,Z6s v3_6),(100002,Z6A v3_8),(100003,Z6H v3_9),(100004,Z6P v3_10)]⟩) lr (.cons ⟨rfl,.refl _⟩ (.cons ⟨rfl,.refl _⟩ (.cons ⟨rfl,.cells _ (rr9 (rr2 (.cons (.own _ _ au0) (rr (rr (rr .nil))))))⟩ (.cons ⟨rfl,.refl _⟩ (.cons ⟨rfl,Ai 98 (BM (A8 2 BJ.c v3_11) (Ar (c:=BJ.c) (xs:=([b.Classes.getD v13.toNat default]:List BJ)) rfl kr))⟩ lr)))))) (Cv.refl _)) ?_
  refine rg ⟨(A6 [(13,tI (W64 (v13+1)))]),[(BC b),(2,Z6h),(3,Z6Y b v3_5 v3_6 v3_8 v3_9 v3_10 v3_11 v13),(26,Z6j b),(177,Z6Z v3_11 b v13),(Bw v3_5),(100001,Z6s v3_6),(100002,Z6A v3_8),(100003,Z6H v3_9),(100004,Z6P v3_10)]⟩ ?_
  (try rw [(show W64 (v13+1)=v13+1 from Ap oM au8)])
  refine AJ ?_
  refine ⟨(n5,v3_11++[b.Classes.getD v13.toNat default],v13+1),⟨?_,?_,(by rw [<- hF5];simp only [C2,h6,cond_true,cond_false])⟩,Nat.lt_succ_self _,Cv.trans (vr 177 100005 hk0) (Cv.trans (vk [1,2,3,13] [1,2,3,26,100000,100001,100002,100003,100004,100005]) (A9 kr))⟩
  ·show ((b.Classes.length:Int)-(v13+1)).toNat<n5;omega
  exact ⟨ax0,ax0,ax0⟩
 have g6:=oF h6
 refine BO<|BD ?_
 refine BD<|BP ?_
 refine AJ<|AD<|AD ?_
 refine rn ⟨PM,[(BC b),(2,Z6h),(3,Z6W b v3_5 v3_6 v3_8 v3_9 v3_10 v3_11),(26,Z6j b),(Bw v3_5),(100001,Z6s v3_6),(100002,Z6A v3_8),(100003,Z6H v3_9),(100004,Z6P v3_10),(100005,Z6X v3_11)]⟩<|AX ?_
 refine BL (Cv.trans (wg (⟨PM,[(100006,.row 3 0 (fun _ _=>default) 100),(BC b),(2,Z6h),(3,.cells (Bj b v3_5 v3_6 (C3 v3_8 v3_9 v3_10 (Ha v3_11 b [.own 100006 3 0]))) 42),(26,Z6j b),(Bw v3_5),(100001,Z6s v3_6),(100002,Z6A v3_8),(100003,Z6H v3_9),(100004,Z6P v3_10),(100005,Z6X v3_11)]⟩) 100006 3 (fun _ _=>default) 100 [] [(3,[14])] hk0) (Cv.trans (BH (⟨PM,[(100006,Z71),(BC b),(2,Z6h),(3,Z72 b v3_5 v3_6 v3_8 v3_9 v3_10 v3_11),(26,Z6j b),(Bw v3_5),(100001,Z6s v3_6),(100002,Z6A v3_8),(100003,Z6H v3_9),(100004,Z6P v3_10),(100005,Z6X v3_11)]⟩) lr (.cons ⟨rfl,Ai 100 (B5 3 (fun _ _=>default) BW.c)⟩ (.cons ⟨rfl,.refl _⟩ (.cons ⟨rfl,.refl _⟩ (.cons ⟨rfl,.cells _ (rr9 (rr5 (.cons (.own _ _ au0) .nil)))⟩ lr))))) (Cv.trans (ck (⟨PM,[(BC b),(2,Z6h),(3,Z72 b v3_5 v3_6 v3_8 v3_9 v3_10 v3_11),(26,Z6j b),(Bw v3_5),(100001,Z6s v3_6),(100002,Z6A v3_8),(100003,Z6H v3_9),(100004,Z6P v3_10),(100005,Z6X v3_11),(100006,Z71)]⟩)) (Cv.refl _)))) ?_
 refine BN (ι:=Nat×List BW×Int) (fun x=>⟨(A6 [(14,tI x.2.2)]),[(BC b),(2,Z6h),(3,.cells (Bj b v3_5 v3_6 (C3 v3_8 v3_9 v3_10 (Ha v3_11 b [.own 100006 3 x.2.1.length]))) 42),(26,Z6j b),(Bw v3_5),(100001,Z6s v3_6),(100002,Z6A v3_8),(100003,Z6H v3_9),(100004,Z6P v3_10),(100005,Z6X v3_11),(100006,.row 3 x.2.1.length (AU BW.c x.2.1) 100)]⟩) (fun x=>((b.Matches.length:Int)-x.2.2).toNat<x.1/\(0<=x.2.2/\(x.2.2<=(b.Matches.length:Int)\/x.2.2=0)/\(x.2.1.length:Int)<=0+1*(x.2.2-0))/\Dc b v3_5 v4 v3_6 v5 v3_8 v7 v3_9 v9 v3_10 v11 v3_11 v13 (AL b n0) (AZ b v3_5 v4 (AL b n0) n1) (Az b v3_5 v4 v3_6 v5 (AL b n0) (AZ b v3_5 v4 (AL b n0) n1) n2) (Bc b v3_5 v4 v3_6 v5 v3_8 v7 (AL b n0) (AZ b v3_5 v4 (AL b n0) n1) (Az b v3_5 v4 v3_6 v5 (AL b n0) (AZ b v3_5 v4 (AL b n0) n1) n2) n3) (CK b v3_5 v4 v3_6 v5 v3_8 v7 v3_9 v9 (AL b n0) (AZ b v3_5 v4 (AL b n0) n1) (Az b v3_5 v4 v3_6 v5 (AL b n0) (AZ b v3_5 v4 (AL b n0) n1) n2) (Bc b v3_5 v4 v3_6 v5 v3_8 v7 (AL b n0) (AZ b v3_5 v4 (AL b n0) n1) (Az b v3_5 v4 v3_6 v5 (AL b n0) (AZ b v3_5 v4 (AL b n0) n1) n2) n3) n4) (C2 b v3_5 v4 v3_6 v5 v3_8 v7 v3_9 v9 v3_10 v11 (AL b n0) (AZ b v3_5 v4 (AL b n0) n1) (Az b v3_5 v4 v3_6 v5 (AL b n0) (AZ b v3_5 v4 (AL b n0) n1) n2) (Bc b v3_5 v4 v3_6 v5 v3_8 v7 (AL b n0) (AZ b v3_5 v4 (AL b n0) n1) (Az b v3_5 v4 v3_6 v5 (AL b n0) (AZ b v3_5 v4 (AL b n0) n1) n2) n3) (CK b v3_5 v4 v3_6 v5 v3_8 v7 v3_9 v9 (AL b n0) (AZ b v3_5 v4 (AL b n0) n1) (Az b v3_5 v4 v3_6 v5 (AL b n0) (AZ b v3_5 v4 (AL b n0) n1) n2) (Bc b v3_5 v4 v3_6 v5 v3_8 v7 (AL b n0) (AZ b v3_5 v4 (AL b n0) n1) (Az b v3_5 v4 v3_6 v5 (AL b n0) (AZ b v3_5 v4 (AL b n0) n1) n2) n3) n4) n5) x.1 x.2.1 x.2.2=AC b) (fun x=>x.1) ?_ (((b.Matches.length:Int)-0).toNat+1,([]:List BW),0) ⟨Nat.lt_succ_self _,⟨ax0,ax0,ax0⟩,(by rw [<- hF5];simp only [C2,h6,cond_true,cond_false])⟩
 rintro ⟨n6,v3_14,v14⟩ ⟨hm6,hinv6,hF6⟩
 try dsimp only at hm6 hinv6 hF6
 cases n6 with | zero=>exact nz hm6 | succ n6 => ?_
 have hb:=hc.mnt v14.toNat
 refine AD<|AD ?_
 refine rn ⟨(A6 [(14,tI v14),(183,tB (decide ((v14:Int)<(b.Matches.length:Int))))]),[(BC b),(2,Z6h),(3,Z73 b v3_5 v3_6 v3_8 v3_9 v3_10 v3_11 v3_14),(26,Z6j b),(Bw v3_5),(100001,Z6s v3_6),(100002,Z6A v3_8),(100003,Z6H v3_9),(100004,Z6P v3_10),(100005,Z6X v3_11),(100006,Z74 v3_14)]⟩ ?_
 refine Aa _ rfl (fun h7 => ?_) (fun h7 => ?_)
 ·have g7:=oT h7
  refine Ad<|AJ ?_
  refine AD<|AX<|AD ?_
  refine rc [] [0<=(v14:Int)/\(v14:Int)<((b.Matches.length:Nat):Int)] ⟨(A6 [(14,tI v14),(15,tP 15 0)]),[(BC b),(2,Z6h),(3,Z73 b v3_5 v3_6 v3_8 v3_9 v3_10 v3_11 v3_14),(15,.cells (BW.c (b.Matches.getD v14.toNat default)) 100),(26,Z6j b),(Bw v3_5),(100001,Z6s v3_6),(100002,Z6A v3_8),(100003,Z6H v3_9),(100004,Z6P v3_10),(100005,Z6X v3_11),(100006,Z74 v3_14)]⟩ .nil (.cons au1 .nil)<|AJ<|AD ?_
  refine DQ D6 [1000191] [] [] [1,2,3,14,15] [1,2,3,15,26,100000,100001,100002,100003,100004,100005,100006] [(b.Matches.getD v14.toNat default).Nets.length<=maxLen,(b.Matches.getD v14.toNat default).Nets.length*16<=140737488355328] ⟨(A6 [(14,tI v14),(15,tP 15 0)]),[(BC b),(2,Z6h),(3,Z73 b v3_5 v3_6 v3_8 v3_9 v3_10 v3_11 v3_14),(15,.cells (BW.c (b.Matches.getD v14.toNat default)) 100),(26,Z6j b),(Bw v3_5),(100001,Z6s v3_6),(100002,Z6A v3_8),(100003,Z6H v3_9),(100004,Z6P v3_10),(100005,Z6X v3_11),(100006,Z74 v3_14)]⟩ .nil kr (.cons au10 (.cons au10 .nil))<|AJ ?_
  refine rc [] [v3_14.length=v3_14.length,v3_14.length+1<=maxLen,(v3_14.length+1)*48<=140737488355328] ⟨(A6 [(14,tI v14)]),[(BC b),(2,Z6h),(3,.cells (Bj b v3_5 v3_6 (C3 v3_8 v3_9 v3_10 (Ha v3_11 b [.own 200 3 (v3_14.length+1)]))) 42),(26,Z6j b),(200,.row 3 (v3_14.length+1) (fun i_ j_=>if i_<v3_14.length then (AU BW.c v3_14) i_ j_ else (Au 3 1 (BW.c (b.Matches.getD v14.toNat default))) (i_-v3_14.length) j_) 100),(Bw v3_5),(100001,Z6s v3_6),(100002,Z6A v3_8),(100003,Z6H v3_9),(100004,Z6P v3_10),(100005,Z6X v3_11)]⟩ .nil (.cons rfl (.cons au10 (.cons au10 .nil)))<|Bg<|AJ ?_
  refine BL (Cv.trans (BH (⟨(A6 [(14,tI v14)]),[(BC b),(2,Z6h),(3,Z75 b v3_5 v3_6 v3_8 v3_9 v3_10 v3_11 v3_14 v14),(26,Z6j b),(200,Z76 v3_14 b v14),(Bw v3_5),(100001,Z6s v3_6),(100002,Z6A v3_8),(100003,Z6H v3_9),(100004,Z6P v3_10),(100005,Z6X v3_11)]⟩) lr (.cons ⟨rfl,.refl _⟩ (.cons ⟨rfl,.refl _⟩ (.cons ⟨rfl,.cells _ (rr9 (rr5 (.cons (.own _ _ au0) .nil)))⟩ (.cons ⟨rfl,.refl _⟩ (.cons ⟨rfl,Ai 100 (BM (A8 3 BW.c v3_14) (Ar (c:=BW.c) (xs:=([b.Matches.getD v14.toNat default]:List BW)) rfl kr))⟩ lr)))))) (Cv.refl _)) ?_
  refine rg ⟨(A6 [(14,tI (W64 (v14+1)))]),[(BC b),(2,Z6h),(3,Z75 b v3_5 v3_6 v3_8 v3_9 v3_10 v3_11 v3_14 v14),(26,Z6j b),(200,Z76 v3_14 b v14),(Bw v3_5),(100001,Z6s v3_6),(100002,Z6A v3_8),(100003,Z6H v3_9),(100004,Z6P v3_10),(100005,Z6X v3_11)]⟩ ?_
  (try rw [(show W64 (v14+1)=v14+1 from Ap oM au8)])
  refine AJ ?_
  refine ⟨(n6,v3_14++[b.Matches.getD v14.toNat default],v14+1),⟨?_,?_,(by rw [<- hF6];simp only [Dc,h7,cond_true,cond_false])⟩,Nat.lt_succ_self _,Cv.trans (vr 200 100006 hk0) (Cv.trans (vk [1,2,3,14] [1,2,3,26,100000,100001,100002,100003,100004,100005,100006]) (A9 kr))⟩
  ·show ((b.Matches.length:Int)-(v14+1)).toNat<n6;omega
  exact ⟨ax0,ax0,ax0⟩
 have g7:=oF h7
 refine BO<|BD ?_
 refine BD<|BP ?_
 refine AJ<|AD<|AD ?_
 refine rn ⟨PL,[(BC b),(2,Z6h),(3,Z73 b v3_5 v3_6 v3_8 v3_9 v3_10 v3_11 v3_14),(26,Z6j b),(Bw v3_5),(100001,Z6s v3_6),(100002,Z6A v3_8),(100003,Z6H v3_9),(100004,Z6P v3_10),(100005,Z6X v3_11),(100006,Z74 v3_14)]⟩<|AX ?_
 refine BL (Cv.trans (wg (⟨PL,[(100007,.row 20 0 (fun _ _=>default) 107),(BC b),(2,Z6h),(3,.cells (Bj b v3_5 v3_6 (C3 v3_8 v3_9 v3_10 [.own 100005 2 v3_11.length,.own 100007 20 0,lst 3 Ao.c b.Waivers,.own 100006 3 v3_14.length])) 42),(26,Z6j b),(Bw v3_5),(100001,Z6s v3_6),(100002,Z6A v3_8),(100003,Z6H v3_9),(100004,Z6P v3_10),(100005,Z6X v3_11),(100006,Z74 v3_14)]⟩) 100007 20 (fun _ _=>default) 107 [] [(3,[12])] hk0) (Cv.trans (BH (⟨PL,[(100007,Z78),(BC b),(2,Z6h),(3,Z79 b v3_5 v3_6 v3_8 v3_9 v3_10 v3_11 v3_14),(26,Z6j b),(Bw v3_5),(100001,Z6s v3_6),(100002,Z6A v3_8),(100003,Z6H v3_9),(100004,Z6P v3_10),(100005,Z6X v3_11),(100006,Z74 v3_14)]⟩) lr (.cons ⟨rfl,Ai 107 (B5 20 (fun _ _=>default) Aq.c)⟩ (.cons ⟨rfl,.refl _⟩ (.cons ⟨rfl,.refl _⟩ (.cons ⟨rfl,.cells _ (rr9 (rr3 (.cons (.own _ _ au0) (rr (rr .nil)))))⟩ lr))))) (Cv.trans (ck (⟨PL,[(BC b),(2,Z6h),(3,Z79 b v3_5 v3_6 v3_8 v3_9 v3_10 v3_11 v3_14),(26,Z6j b),(Bw v3_5),(100001,Z6s v3_6),(100002,Z6A v3_8),(100003,Z6H v3_9),(100004,Z6P v3_10),(100005,Z6X v3_11),(100006,Z74 v3_14),(100007,Z78)]⟩)) (Cv.refl _)))) ?_
 refine BN (ι:=Nat×List Aq×Int) (fun x=>⟨(A6 [(16,tI x.2.2)]),[(BC b),(2,Z6h),(3,.cells (Bj b v3_5 v3_6 (C3 v3_8 v3_9 v3_10 [.own 100005 2 v3_11.length,.own 100007 20 x.2.1.length,lst 3 Ao.c b.Waivers,.own 100006 3 v3_14.length])) 42),(26,Z6j b),(Bw v3_5),(100001,Z6s v3_6),(100002,Z6A v3_8),(100003,Z6H v3_9),(100004,Z6P v3_10),(100005,Z6X v3_11),(100006,Z74 v3_14),(100007,.row 20 x.2.1.length (AU Aq.c x.2.1) 107)]⟩) (fun x=>((b.Rules.length:Int)-x.2.2).toNat<x.1/\(0<=x.2.2/\(x.2.2<=(b.Rules.length:Int)\/x.2.2=0)/\(x.2.1.length:Int)<=0+1*(x.2.2-0))/\EN b v3_5 v4 v3_6 v5 v3_8 v7 v3_9 v9 v3_10 v11 v3_11 v13 v3_14 v14 (AL b n0) (AZ b v3_5 v4 (AL b n0) n1) (Az b v3_5 v4 v3_6 v5 (AL b n0) (AZ b v3_5 v4 (AL b n0) n1) n2) (Bc b v3_5 v4 v3_6 v5 v3_8 v7 (AL b n0) (AZ b v3_5 v4 (AL b n0) n1) (Az b v3_5 v4 v3_6 v5 (AL b n0) (AZ b v3_5 v4 (AL b n0) n1) n2) n3) (CK b v3_5 v4 v3_6 v5 v3_8 v7 v3_9 v9 (AL b n0) (AZ b v3_5 v4 (AL b n0) n1) (Az b v3_5 v4 v3_6 v5 (AL b n0) (AZ b v3_5 v4 (AL b n0) n1) n2) (Bc b v3_5 v4 v3_6 v5 v3_8 v7 (AL b n0) (AZ b v3_5 v4 (AL b n0) n1) (Az b v3_5 v4 v3_6 v5 (AL b n0) (AZ b v3_5 v4 (AL b n0) n1) n2) n3) n4) (C2 b v3_5 v4 v3_6 v5 v3_8 v7 v3_9 v9 v3_10 v11 (AL b n0) (AZ b v3_5 v4 (AL b n0) n1) (Az b v3_5 v4 v3_6 v5 (AL b n0) (AZ b v3_5 v4 (AL b n0) n1) n2) (Bc b v3_5 v4 v3_6 v5 v3_8 v7 (AL b n0) (AZ b v3_5 v4 (AL b n0) n1) (Az b v3_5 v4 v3_6 v5 (AL b n0) (AZ b v3_5 v4 (AL b n0) n1) n2) n3) (CK b v3_5 v4 v3_6 v5 v3_8 v7 v3_9 v9 (AL b n0) (AZ b v3_5 v4 (AL b n0) n1) (Az b v3_5 v4 v3_6 v5 (AL b n0) (AZ b v3_5 v4 (AL b n0) n1) n2) (Bc b v3_5 v4 v3_6 v5 v3_8 v7 (AL b n0) (AZ b v3_5 v4 (AL b n0) n1) (Az b v3_5 v4 v3_6 v5 (AL b n0) (AZ b v3_5 v4 (AL b n0) n1) n2) n3) n4) n5) (Dc b v3_5 v4 v3_6 v5 v3_8 v7 v3_9 v9 v3_10 v11 v3_11 v13 (AL b n0) (AZ b v3_5 v4 (AL b n0) n1) (Az b v3_5 v4 v3_6 v5 (AL b n0) (AZ b v3_5 v4 (AL b n0) n1) n2) (Bc b v3_5 v4 v3_6 v5 v3_8 v7 (AL b n0) (AZ b v3_5 v4 (AL b n0) n1) (Az b v3_5 v4 v3_6 v5 (AL b n0) (AZ b v3_5 v4 (AL b n0) n1) n2) n3) (CK b v3_5 v4 v3_6 v5 v3_8 v7 v3_9 v9 (AL b n0) (AZ b v3_5 v4 (AL b n0) n1) (Az b v3_5 v4 v3_6 v5 (AL b n0) (AZ b v3_5 v4 (AL b n0) n1) n2) (Bc b v3_5 v4 v3_6 v5 v3_8 v7 (AL b n0) (AZ b v3_5 v4 (AL b n0) n1) (Az b v3_5 v4 v3_6 v5 (AL b n0) (AZ b v3_5 v4 (AL b n0) n1) n2) n3) n4) (C2 b v3_5 v4 v3_6 v5 v3_8 v7 v3_9 v9 v3_10 v11 (AL b n0) (AZ b v3_5 v4 (AL b n0) n1) (Az b v3_5 v4 v3_6 v5 (AL b n0) (AZ b v3_5 v4 (AL b n0) n1) n2) (Bc b v3_5 v4 v3_6 v5 v3_8 v7 (AL b n0) (AZ b v3_5 v4 (AL b n0) n1) (Az b v3_5 v4 v3_6 v5 (AL b n0) (AZ b v3_5 v4 (AL b n0) n1) n2) n3) (CK b v3_5 v4 v3_6 v5 v3_8 v7 v3_9 v9 (AL b n0) (AZ b v3_5 v4 (AL b n0) n1) (Az b v3_5 v4 v3_6 v5 (AL b n0) (AZ b v3_5 v4 (AL b n0) n1) n2) (Bc b v3_5 v4 v3_6 v5 v3_8 v7 (AL b n0) (AZ b v3_5 v4 (AL b n0) n1) (Az b v3_5 v4 v3_6 v5 (AL b n0) (AZ b v3_5 v4 (AL b n0) n1) n2) n3) n4) n5) n6) x.1 x.2.1 x.2.2=AC b) (fun x=>x.1) ?_ (((b.Rules.length:Int)-0).toNat+1,([]:List Aq),0) ⟨Nat.lt_succ_self _,⟨ax0,ax0,ax0⟩,(by rw [<- hF6];simp only [Dc,h7,cond_true,cond_false])⟩
 rintro ⟨n7,v3_12,v16⟩ ⟨hm7,hinv7,hF7⟩
 try dsimp only at hm7 hinv7 hF7
 cases n7 with | zero=>exact nz hm7 | succ n7 => ?_
 refine AD<|AD ?_
 refine rn ⟨(A6 [(16,tI v16),(206,tB (decide ((v16:Int)<(b.Rules.length:Int))))]),[(BC b),(2,Z6h),(3,Z7a b v3_5 v3_6 v3_8 v3_9 v3_10 v3_11 v3_12 v3_14),(26,Z6j b),(Bw v3_5),(100001,Z6s v3_6),(100002,Z6A v3_8),(100003,Z6H v3_9),(100004,Z6P v3_10),(100005,Z6X v3_11),(100006,Z74 v3_14),(100007,Z7b v3_12)]⟩ ?_
 refine Aa _ rfl (fun h8 => ?_) (fun h8 => ?_)
 ·have g8:=oT h8
  refine Ad<|AJ ?_
  refine AD<|AX<|AD ?_
  refine rc [] [0<=(v16:Int)/\(v16:Int)<((b.Rules.length:Nat):Int)] ⟨(SG v16),[(BC b),(2,Z6h),(3,Z7a b v3_5 v3_6 v3_8 v3_9 v3_10 v3_11 v3_12 v3_14),(17,.cells (Aq.c (Ek b v16)) 107),(26,Z6j b),(Bw v3_5),(100001,Z6s v3_6),(100002,Z6A v3_8),(100003,Z6H v3_9),(100004,Z6P v3_10),(100005,Z6X v3_11),(100006,Z74 v3_14),(100007,Z7b v3_12)]⟩ .nil (.cons au1 .nil)<|AJ<|AD ?_
  refine rs 216 (IG (b.Rules.getD v16.toNat default).A) ⟨(SG v16),[(BC b),(2,Z6h),(3,Z7a b v3_5 v3_6 v3_8 v3_9 v3_10 v3_11 v3_12 v3_14),(17,.cells (Vs b v16 [.i (Ek b v16).B.Op,.s (Ek b v16).B.Text,.i (Ek b v16).B.N,.i (Ek b v16).B.Box.X0,.i (Ek b v16).B.Box.Y0,.i (Ek b v16).B.Box.X1,.i (Ek b v16).B.Box.Y1,opL (Ek b v16).B.L,.i (Ek b v16).Value]) 107),(26,Z6j b),(Bw v3_5),(100001,Z6s v3_6),(100002,Z6A v3_8),(100003,Z6H v3_9),(100004,Z6P v3_10),(100005,Z6X v3_11),(100006,Z74 v3_14),(100007,Z7b v3_12)]⟩ (Mq (b.Rules.getD v16.toNat default).A (by first | exact (Ja hr _).1 | exact (Ja hr _).2))<|AJ<|AD ?_
  refine rs 220 (IG (b.Rules.getD v16.toNat default).B) ⟨(SG v16),[(BC b),(2,Z6h),(3,Z7a b v3_5 v3_6 v3_8 v3_9 v3_10 v3_11 v3_12 v3_14),(17,.cells (WQ b v16) 107),(26,Z6j b),(Bw v3_5),(100001,Z6s v3_6),(100002,Z6A v3_8),(100003,Z6H v3_9),(100004,Z6P v3_10),(100005,Z6X v3_11),(100006,Z74 v3_14),(100007,Z7b v3_12)]⟩ (Mq (b.Rules.getD v16.toNat default).B (by first | exact (Ja hr _).1 | exact (Ja hr _).2))<|AJ ?_
  refine rc [] [v3_12.length=v3_12.length,v3_12.length+1<=maxLen,(v3_12.length+1)*216<=140737488355328] ⟨(A6 [(16,tI v16)]),[(BC b),(2,Z6h),(3,.cells (Bj b v3_5 v3_6 (C3 v3_8 v3_9 v3_10 [.own 100005 2 v3_11.length,.own 226 20 (v3_12.length+1),lst 3 Ao.c b.Waivers,.own 100006 3 v3_14.length])) 42),(26,Z6j b),(226,.row 20 (v3_12.length+1) (fun i_ j_=>if i_<v3_12.length then (AU Aq.c v3_12) i_ j_ else (Au 20 1 (WQ b v16)) (i_-v3_12.length) j_) 107),(Bw v3_5),(100001,Z6s v3_6),(100002,Z6A v3_8),(100003,Z6H v3_9),(100004,Z6P v3_10),(100005,Z6X v3_11),(100006,Z74 v3_14)]⟩ .nil (.cons rfl (.cons au10 (.cons au10 .nil)))<|Bg<|AJ ?_
  refine BL (Cv.trans (BH (⟨(A6 [(16,tI v16)]),[(BC b),(2,Z6h),(3,Z7e b v3_5 v3_6 v3_8 v3_9 v3_10 v3_11 v3_12 v16 v3_14),(26,Z6j b),(226,Z7f v3_12 b v16),(Bw v3_5),(100001,Z6s v3_6),(100002,Z6A v3_8),(100003,Z6H v3_9),(100004,Z6P v3_10),(100005,Z6X v3_11),(100006,Z74 v3_14)]⟩) lr (.cons ⟨rfl,.refl _⟩ (.cons ⟨rfl,.refl _⟩ (.cons ⟨rfl,.cells _ (rr9 (rr3 (.cons (.own _ _ au0) (rr (rr .nil)))))⟩ (.cons ⟨rfl,.refl _⟩ (.cons ⟨rfl,Ai 107 (BM (A8 20 Aq.c v3_12) (Ar (c:=Aq.c) (xs:=([Aq.mk (b.Rules.getD v16.toNat default).Name (b.Rules.getD v16.toNat default).Priority (b.Rules.getD v16.toNat default).What (Z7c b v16) (Z7d b v16) (b.Rules.getD v16.toNat default).Value]:List Aq)) rfl kr))⟩ lr)))))) (Cv.refl _)) ?_
  refine rg ⟨(A6 [(16,tI (W64 (v16+1)))]),[(BC b),(2,Z6h),(3,Z7e b v3_5 v3_6 v3_8 v3_9 v3_10 v3_11 v3_12 v16 v3_14),(26,Z6j b),(226,Z7f v3_12 b v16),(Bw v3_5),(100001,Z6s v3_6),(100002,Z6A v3_8),(100003,Z6H v3_9),(100004,Z6P v3_10),(100005,Z6X v3_11),(100006,Z74 v3_14)]⟩ ?_
  (try rw [(show W64 (v16+1)=v16+1 from Ap oM au8)])
  refine AJ ?_
  refine ⟨(n7,v3_12++[Aq.mk (b.Rules.getD v16.toNat default).Name (b.Rules.getD v16.toNat default).Priority (b.Rules.getD v16.toNat default).What (Z7c b v16) (Z7d b v16) (b.Rules.getD v16.toNat default).Value],v16+1),⟨?_,?_,(by rw [<- hF7];simp only [EN,h8,cond_true,cond_false])⟩,Nat.lt_succ_self _,Cv.trans (vr 226 100007 hk0) (Cv.trans (vk [1,2,3,16] [1,2,3,26,100000,100001,100002,100003,100004,100005,100006,100007]) (A9 kr))⟩
  ·show ((b.Rules.length:Int)-(v16+1)).toNat<n7;omega
  exact ⟨ax0,ax0,ax0⟩
 refine BO<|BD ?_
 refine BD<|BP ?_
 refine AJ<|AD ?_
 refine rn ⟨[(2,tP 2 0)],[(2,Z7a b v3_5 v3_6 v3_8 v3_9 v3_10 v3_11 v3_12 v3_14),(26,Z6j b),(Bw v3_5),(100001,Z6s v3_6),(100002,Z6A v3_8),(100003,Z6H v3_9),(100004,Z6P v3_10),(100005,Z6X v3_11),(100006,Z74 v3_14),(100007,Z7b v3_12)]⟩<|Af ?_
 exact yl (Cv.trans (vf 100000 2 v3_5.length (AU BA.c v3_5) 48 hk0 (.cons ⟨rfl,rfl⟩ .nil)) (Cv.trans (vf 100001 6 v3_6.length (AU Aj.c v3_6) 85 hk0 (.cons ⟨rfl,rfl⟩ .nil)) (Cv.trans (vf 100002 8 v3_8.length (AU BB.c v3_8) 90 hk0 (.cons ⟨rfl,rfl⟩ .nil)) (Cv.trans (vf 100003 5 v3_9.length (AU BS.c v3_9) 93 hk0 (.cons ⟨rfl,rfl⟩ .nil)) (Cv.trans (vf 100004 4 v3_10.length (AU Bb.c v3_10) 95 hk0 (.cons ⟨rfl,rfl⟩ .nil)) (Cv.trans (vf 100005 2 v3_11.length (AU BJ.c v3_11) 98 hk0 (.cons ⟨rfl,rfl⟩ .nil)) (Cv.trans (vf 100007 20 v3_12.length (AU Aq.c v3_12) 107 hk0 (.cons ⟨rfl,rfl⟩ .nil)) (Cv.trans (vf 100006 3 v3_14.length (AU BW.c v3_14) 100 hk0 (.cons ⟨rfl,rfl⟩ .nil)) (Cv.refl _))))))))) (.av (.agg (Nl 7 b.Parts.length 26 (Jj (AH.mk b.Layers (Cu b.Outline) b.Parts v3_5 v3_6 b.Vias v3_8 v3_9 v3_10 v3_11 v3_12 b.Waivers v3_14))))) (frA (fun x:AH=>x.Parts.length) Jj (fun x=>AU AG.c x.Parts) (x:=AH.mk b.Layers (Cu b.Outline) b.Parts v3_5 v3_6 b.Vias v3_8 v3_9 v3_10 v3_11 v3_12 b.Waivers v3_14) (by rw [<- hF7];first | (simp only [EN,h8,cond_true,cond_false] <;> rfl)) kr)
def Ud:CT:=(12,[.agg (AH.c b)],.new [] (.row 7 (AC b).Parts.length (AU AG.c (AC b).Parts) 59) (fun d=>.av (.agg (Nl 7 (AC b).Parts.length d (Jj (AC b))))))
theorem XE (b:AH) (hc:Qh b):OKc (Ud b):=Km (fun _ _=>kr) (Y6 b hc)
end
end Go.Proofs.Ytdbampcfmjbgmaa
