/-
  No statement is proved in this text. It holds a part of what the proof of PlaceTurns needs.
-/
import Derived.Test.YtdbampcfmjbgmaaPlaceTurnsQd
namespace Go.Proofs.Ytdbampcfmjbgmaa
set_option maxRecDepth 100000
set_option linter.unusedVariables false
set_option linter.unusedSimpArgs false
open Go.RowKit
section
open Go.RowKit
theorem Rg {b:AG} (d:AC) (hp:1<=(b.Parts.length:Int)) (h0:(b.Parts.length:Int)<=1000000) (h1:(b.Tracks.length:Int)<=1000000) (h2:(b.Vias.length:Int)<=1000000) (h3:(b.Pours.length:Int)<=1000000) (h4:(b.Keeps.length:Int)<=1000000) (h5:(b.Slots.length:Int)<=1000000):0<=(AA d ((EA b).length:Int)).1/\(AA d ((EA b).length:Int)).1<((EA b).length:Int):=by
 have hq:=UN b
 exact H8 _ _ _ (by omega) (by omega) (by omega)
theorem cM {b:AG} (hp:1<=(b.Parts.length:Int)):((EA b).length:Int)≠0:=by
 have hq:=UN b
 omega
theorem Zb {α:Type} {c:Bool} {a b:List α} {k n:Nat} (ha:a.length+k<=n) (hb:b.length+k<=n):(bif c then a else b).length+k<=n:=by cases c <;> assumption
theorem XY {α:Type} {c:Bool} {a b:List α} {k n m:Nat} (ha:(a.length+k)*m<=n) (hb:(b.length+k)*m<=n):((bif c then a else b).length+k)*m<=n:=by cases c <;> assumption
variable (b:AG) (d:AC)
def Z38:CT:=(54,([.one (.ptr 1000 0),.one (.i 10)]:List Av).map (Bq 1000 1001),wrI 1001 (GL d) (tI (AA d 10).1) (.cells (AC.c (AA d 10).2) 146))
abbrev EL:=AA (AA d 10).2 8
def Z39:CT:=(54,([.one (.ptr 1000 0),.one (.i 8)]:List Av).map (Bq 1000 1001),wrI 1001 (.cells (AC.c (AA d 10).2) 146) (tI (EL d).1) (.cells (AC.c (EL d).2) 146))
def Z3a:Blk:=.cells (AC.c (EL d).2) 146
def Z3b:Blk:=.row 20 ([Ap.mk ({ data := #[99,49] }:ByteArray) 1 1 AJ AJ (W64 (3+(AA d 10).1)),Ap.mk ({ data := #[101,49] }:ByteArray) 1 3 AJ AJ (W64 (2+(EL d).1))].length) (AU Ap.c [Ap.mk ({ data := #[99,49] }:ByteArray) 1 1 AJ AJ (W64 (3+(AA d 10).1)),Ap.mk ({ data := #[101,49] }:ByteArray) 1 3 AJ AJ (W64 (2+(EL d).1))]) 107
def Z3c:Blk:=.cells (A9 b (CQ b [vN,.own 18 20 ([Ap.mk ({ data := #[99,49] }:ByteArray) 1 1 AJ AJ (W64 (3+(AA d 10).1)),Ap.mk ({ data := #[101,49] }:ByteArray) 1 3 AJ AJ (W64 (2+(EL d).1))].length),vN,vN])) 42
def Z3d:CT:=(54,(GT:List Av).map (Bq 1000 1001),wrI 1001 (.cells (AC.c (EL d).2) 146) (tI (AA (EL d).2 2).1) (.cells (AC.c (AA (EL d).2 2).2) 146))
abbrev Z3e:AC:=(AA (AA (AA d 10).2 8).2 2).2
def Z3f:CT:=(54,(Iy:List Av).map (Bq 1000 1001),wrI 1001 (.cells (AC.c (Z3e d)) 146) (tI (AA (Z3e d) 5).1) (.cells (AC.c (AA (Z3e d) 5).2) 146))
abbrev Ip:=AA (AA (Z3e d) 5).2 4
def Z3g:CT:=(54,(IX:List Av).map (Bq 1000 1001),wrI 1001 (.cells (AC.c (AA (Z3e d) 5).2) 146) (tI (Ip d).1) (.cells (AC.c (Ip d).2) 146))
def Z3h:Blk:=.cells (AC.c (Ip d).2) 146
def Z3i:Blk:=.row 20 ([Ap.mk ({ data := #[99,49] }:ByteArray) 1 1 AJ AJ (W64 (3+(AA d 10).1)),Ap.mk ({ data := #[101,49] }:ByteArray) 1 3 AJ AJ (W64 (2+(EL d).1))]++[Ap.mk ({ data := #[119,49] }:ByteArray) 1 2 AJ AJ (W64 (6+(AA (Z3e d) 5).1)),Ap.mk ({ data := #[114,49] }:ByteArray) 1 4 AJ AJ (W64 (2+(Ip d).1))]).length (AU Ap.c ([Ap.mk ({ data := #[99,49] }:ByteArray) 1 1 AJ AJ (W64 (3+(AA d 10).1)),Ap.mk ({ data := #[101,49] }:ByteArray) 1 3 AJ AJ (W64 (2+(EL d).1))]++[Ap.mk ({ data := #[119,49] }:ByteArray) 1 2 AJ AJ (W64 (6+(AA (Z3e d) 5).1)),Ap.mk ({ data := #[114,49] }:ByteArray) 1 4 AJ AJ (W64 (2+(Ip d).1))])) 107
def Z3j:Blk:=.cells (A9 b (CQ b [vN,.own 100000 20 ([Ap.mk ({ data := #[99,49] }:ByteArray) 1 1 AJ AJ (W64 (3+(AA d 10).1)),Ap.mk ({ data := #[101,49] }:ByteArray) 1 3 AJ AJ (W64 (2+(EL d).1))]++[Ap.mk ({ data := #[119,49] }:ByteArray) 1 2 AJ AJ (W64 (6+(AA (Z3e d) 5).1)),Ap.mk ({ data := #[114,49] }:ByteArray) 1 4 AJ AJ (W64 (2+(Ip d).1))]).length,vN,vN])) 42
def Z3k:Blk:=.cells (A9 b (CQ b [vN,.own 100000 20 ([Ap.mk ({ data := #[99,49] }:ByteArray) 1 1 AJ AJ (W64 (3+(AA d 10).1)),Ap.mk ({ data := #[101,49] }:ByteArray) 1 3 AJ AJ (W64 (2+(EL d).1))].length),vN,vN])) 42
abbrev Z3l:AC:=bif decide (((AA (AA (AA d 10).2 8).2 2).1:Int)=1) then (AA (AA (Z3e d) 5).2 4).2 else (Z3e d)
def Z3m:(List Ap):=bif decide (((AA (AA (AA d 10).2 8).2 2).1:Int)=1) then ([Ap.mk ({ data := #[99,49] }:ByteArray) 1 1 AJ AJ (W64 (3+(AA d 10).1)),Ap.mk ({ data := #[101,49] }:ByteArray) 1 3 AJ AJ (W64 (2+(AA (AA d 10).2 8).1))]++[Ap.mk ({ data := #[119,49] }:ByteArray) 1 2 AJ AJ (W64 (6+(AA (Z3e d) 5).1)),Ap.mk ({ data := #[114,49] }:ByteArray) 1 4 AJ AJ (W64 (2+(AA (AA (Z3e d) 5).2 4).1))]) else [Ap.mk ({ data := #[99,49] }:ByteArray) 1 1 AJ AJ (W64 (3+(AA d 10).1)),Ap.mk ({ data := #[101,49] }:ByteArray) 1 3 AJ AJ (W64 (2+(AA (AA d 10).2 8).1))]
def Z3n:CT:=(54,(GT:List Av).map (Bq 1000 1001),wrI 1001 (.cells (AC.c (Z3l d)) 146) (tI (AA (Z3l d) 2).1) (.cells (AC.c (AA (Z3l d) 2).2) 146))
def Z3o:Blk:=.cells (A9 b (CQ b [vN,.own 100000 20 (Z3m d).length,vN,vN])) 42
def Z3p:Blk:=.cells (AC.c (AA (Z3l d) 2).2) 146
def Z3q:Blk:=.row 20 (Z3m d).length (AU Ap.c (Z3m d)) 107
abbrev He:=AA (AA (Z3l d) 2).2 2
def Z3r:CT:=(54,(GT:List Av).map (Bq 1000 1001),wrI 1001 (.cells (AC.c (AA (Z3l d) 2).2) 146) (tI (He d).1) (.cells (AC.c (He d).2) 146))
def Z3s:CT:=(85,([.one (.ptr 1000 0)]:List Av).map (Bq 1000 1001),wrI 1001 (.cells (AC.c (He d).2) 146) (.av (.agg (BL.c (BE (He d).2).1))) (.cells (AC.c (BE (He d).2).2) 146))
abbrev Z3t:AC:=(BE (AA (AA (Z3l d) 2).2 2).2).2
def Z3u:BL:=(BE (AA (AA (Z3l d) 2).2 2).2).1
def Z3v:CT:=(85,([.one (.ptr 1000 0)]:List Av).map (Bq 1000 1001),wrI 1001 (.cells (AC.c (Z3t d)) 146) (.av (.agg (BL.c (BE (Z3t d)).1))) (.cells (AC.c (BE (Z3t d)).2) 146))
abbrev KQ:=AA (BE (Z3t d)).2 14
def Z3w:CT:=(54,([.one (.ptr 1000 0),.one (.i 14)]:List Av).map (Bq 1000 1001),wrI 1001 (.cells (AC.c (BE (Z3t d)).2) 146) (tI (KQ d).1) (.cells (AC.c (KQ d).2) 146))
abbrev Z3x:AC:=(AA (BE (Z3t d)).2 14).2
def Z3y:Blk:=.row 20 ((Z3m d)++[Ap.mk ({ data := #[99,50] }:ByteArray) (W64 (1+(He d).1)) 1 (Z3u d) (BE (Z3t d)).1 (W64 (1+(KQ d).1))]).length (AU Ap.c ((Z3m d)++[Ap.mk ({ data := #[99,50] }:ByteArray) (W64 (1+(He d).1)) 1 (Z3u d) (BE (Z3t d)).1 (W64 (1+(KQ d).1))])) 107
def Z3z:Blk:=.cells (A9 b (CQ b [vN,.own 100001 20 ((Z3m d)++[Ap.mk ({ data := #[99,50] }:ByteArray) (W64 (1+(He d).1)) 1 (Z3u d) (BE (Z3t d)).1 (W64 (1+(KQ d).1))]).length,vN,vN])) 42
abbrev Z3A:AC:=bif decide (((AA (Z3l d) 2).1:Int)=1) then (Z3x d) else (AA (Z3l d) 2).2
def Z3B:(List Ap):=bif decide (((AA (Z3l d) 2).1:Int)=1) then ((Z3m d)++[Ap.mk ({ data := #[99,50] }:ByteArray) (W64 (1+(AA (AA (Z3l d) 2).2 2).1)) 1 (Z3u d) (BE (Z3t d)).1 (W64 (1+(AA (BE (Z3t d)).2 14).1))]) else (Z3m d)
def Z3C:CT:=(54,(ER:List Av).map (Bq 1000 1001),wrI 1001 (.cells (AC.c (Z3A d)) 146) (tI (AA (Z3A d) 3).1) (.cells (AC.c (AA (Z3A d) 3).2) 146))
def Z3D:Blk:=.cells (A9 b (CQ b [vN,.own 100001 20 (Z3B d).length,vN,vN])) 42
def Z3E:Blk:=.cells (AC.c (AA (Z3A d) 3).2) 146
def Z3F:Blk:=.row 20 (Z3B d).length (AU Ap.c (Z3B d)) 107
def Z3G:(List BI):=bif decide (((AA (Z3A d) 3).1:Int)=0) then [BI.mk ({ data := #[112,111,119,101,114] }:ByteArray) [({ data := #[71,78,68] }:ByteArray)]] else []
def Z3H:CT:=(54,(IX:List Av).map (Bq 1000 1001),wrI 1001 (.cells (AC.c (AA (Z3A d) 3).2) 146) (tI (AA (AA (Z3A d) 3).2 4).1) (.cells (AC.c (AA (AA (Z3A d) 3).2 4).2) 146))
abbrev Z3I:AC:=(AA (AA (Z3A d) 3).2 4).2
abbrev Ou (t_:List Cl):List Cl:=(lst 2 BI.c (Z3G d))::(.own 100001 20 (Z3B d).length)::t_
abbrev Z3:List Cl:=(A9 b (CQ b (Ou d [vN,vN])))
def Z3J:Blk:=.cells (Z3 b d) 42
def Z3K:(List Int):=EA (AG.mk b.Layers (Ah.mk 0 [] 0) b.Parts [] b.Tracks b.Vias b.Pours b.Keeps b.Slots [] [] [] [])
def Z3L:CT:=(54,([.one (.ptr 1000 0),.one (.i ((Z3K b).length:Int))]:List Av).map (Bq 1000 1001),wrI 1001 (.cells (AC.c (Z3I d)) 146) (tI (AA (Z3I d) ((Z3K b).length:Int)).1) (.cells (AC.c (AA (Z3I d) ((Z3K b).length:Int)).2) 146))
abbrev Z3M (d:AC) (b:AG):AC:=(AA (Z3I d) ((Z3K b).length:Int)).2
def Z3N:CT:=(54,([.one (.ptr 1000 0),.one (.i ((Z3K b).length:Int))]:List Av).map (Bq 1000 1001),wrI 1001 (.cells (AC.c (Z3M d b)) 146) (tI (AA (Z3M d b) ((Z3K b).length:Int)).1) (.cells (AC.c (AA (Z3M d b) ((Z3K b).length:Int)).2) 146))
abbrev Z3O (d:AC) (b:AG):AC:=(AA (Z3M d b) ((Z3K b).length:Int)).2
abbrev Z3P (d:AC) (b:AG):AC:=bif decide (((AA (AA (Z3A d) 3).2 4).1:Int)=0) then (Z3O d b) else (Z3I d)
def Z3Q (d:AC) (b:AG):(List Am):=bif decide (((AA (AA (Z3A d) 3).2 4).1:Int)=0) then [Am.mk ((Z3K b).getD (AA (Z3I d) ((Z3K b).length:Int)).1.toNat default) ((Z3K b).getD (AA (Z3M d b) ((Z3K b).length:Int)).1.toNat default) ({ data := #[99,49] }:ByteArray)] else []
def Z3R (d:AC) (b:AG):CT:=(54,(IX:List Av).map (Bq 1000 1001),wrI 1001 (.cells (AC.c (Z3P d b)) 146) (tI (AA (Z3P d b) 4).1) (.cells (AC.c (AA (Z3P d b) 4).2) 146))
def Z3S (d:AC) (b:AG):CT:=(54,([.one (.ptr 1000 0),.one (.i 8)]:List Av).map (Bq 1000 1001),wrI 1001 (.cells (AC.c (AA (Z3P d b) 4).2) 146) (tI (AA (AA (Z3P d b) 4).2 8).1) (.cells (AC.c (AA (AA (Z3P d b) 4).2 8).2) 146))
abbrev Z3T (d:AC) (b:AG):AC:=(AA (AA (Z3P d b) 4).2 8).2
def Cb (b:AG) (d:AC):(AG×AC):=bif decide (((AA (Z3P d b) 4).1:Int)=0) then (AG.mk b.Layers b.Outline b.Parts b.Nets b.Tracks b.Vias b.Pours b.Keeps b.Slots (Z3G d) (Z3B d) (Z3Q d b) [BT.mk ({ data := #[109,49] }:ByteArray) [({ data := #[78,49] }:ByteArray),({ data := #[78,50] }:ByteArray)] (W64 (10*(AA (AA (Z3P d b) 4).2 8).1))],Z3T d b) else (AG.mk b.Layers b.Outline b.Parts b.Nets b.Tracks b.Vias b.Pours b.Keeps b.Slots (Z3G d) (Z3B d) (Z3Q d b) [],(AA (Z3P d b) 4).2)
abbrev O5:Nat×Blk:=(1001,.cells (AC.c (Z3I d)) 146)
abbrev Ov (d:AC) (b:AG) (t_:List Cl):List Cl:=(lst 2 BI.c (Z3G d))::(lst 20 Ap.c (Z3B d))::(lst 3 Am.c (Z3Q d b))::t_
theorem au5 {p:Prop} (h:p:=by repeat (first | with_reducible assumption | exact Ca (DD hll _) | with_reducible refine BR ?_ | with_reducible refine D6 ?_ | with_reducible refine DQ ?_ | with_reducible refine VY ?_  | with_reducible refine Ci ?_ ?_)):p:=h
theorem au8 {p:Prop} (h:p:=by first | decide | omega | exact cM (b:=AG.mk b.Layers (Ah.mk 0 [] 0) b.Parts [] b.Tracks b.Vias b.Pours b.Keeps b.Slots [] [] [] []) hi | (simp only [C9];omega)):p:=h
theorem au22 {p:Prop} (h:p:=by first | (simp only [List.length_append,List.length_cons,List.length_nil];decide) | exact Zb (by simp only [List.length_append,List.length_cons,List.length_nil];decide) (by simp only [List.length_append,List.length_cons,List.length_nil];decide) | exact XY (by simp only [List.length_append,List.length_cons,List.length_nil];decide) (by simp only [List.length_append,List.length_cons,List.length_nil];decide) | (unfold maxLen;omega) | (simp only [XK,XJ,XI];omega)):p:=h
set_option maxHeartbeats 2000000 in
theorem Wq  (b:AG) (d:AC) (hd:Bf d) (h0:(b.Parts.length:Int)<=1000000) (h1:(b.Tracks.length:Int)<=1000000) (h2:(b.Vias.length:Int)<=1000000) (h3:(b.Pours.length:Int)<=1000000) (h4:(b.Keeps.length:Int)<=1000000) (h5:(b.Slots.length:Int)<=1000000) (hi:1<=(b.Parts.length:Int)):Wr2 Try.prog 57 1000 1001 [.one (.ptr 1000 0),.one (.ptr 1001 0)] (.cells [.i b.Layers,.i b.Outline.Kind,lst 7 AO.c b.Outline.Edges,.i b.Outline.R,lst 7 AF.c b.Parts,lst 2 A3.c b.Nets,lst 6 Aj.c b.Tracks,lst 8 Br.c b.Vias,lst 8 BB.c b.Pours,lst 5 BQ.c b.Keeps,lst 4 BX.c b.Slots,vN,vN,vN,vN] 42) (.cells (AC.c d) 146) (.tup []) (.cells (AG.c (Cb b d).1) 42) (.cells (AC.c (Cb b d).2) 146):=by
 refine MS Try.func57 rfl kr kr kr rfl kr kr kr fun W0 M0 X hX => ?_
 refine AB ?_
 refine DW D9 [18] [] [(6,CG),(7,CG),(9,(Z38 d)),(12,CG),(13,CG),(15,(Z39 d))] [0,1] [18,1000,1001] [Aw CG.2.1,Aw CG.2.1,Aw (Z38 d).2.1,Bu (GL d),Aw CG.2.1,Aw CG.2.1,Aw (Z39 d).2.1,Bu (.cells (AC.c (AA d 10).2) 146)] ⟨Dm,[(18,.row 20 2 (As 20 2 [.s ({ data := #[99,49] }:ByteArray),.i 1,.i 1,.i AJ.Op,.s AJ.Text,.i AJ.N,.i AJ.Box.X0,.i AJ.Box.Y0,.i AJ.Box.X1,.i AJ.Box.Y1,opL AJ.L,.i AJ.Op,.s AJ.Text,.i AJ.N,.i AJ.Box.X0,.i AJ.Box.Y0,.i AJ.Box.X1,.i AJ.Box.Y1,opL AJ.L,.i (W64 (3+(AA d 10).1)),.s ({ data := #[101,49] }:ByteArray),.i 1,.i 3,.i AJ.Op,.s AJ.Text,.i AJ.N,.i AJ.Box.X0,.i AJ.Box.Y0,.i AJ.Box.X1,.i AJ.Box.Y1,opL AJ.L,.i AJ.Op,.s AJ.Text,.i AJ.N,.i AJ.Box.X0,.i AJ.Box.Y0,.i AJ.Box.X1,.i AJ.Box.Y1,opL AJ.L,.i (W64 (2+(AA (AA d 10).2 8).1))]) 107),(1000,.cells (A9 b (CQ b [vN,.own 18 20 2,vN,vN])) 42),(1001,Z3a d)]⟩ (.cons Dr (.cons Dr (.cons (cWr (BS d 10 au5 au8)) (.cons Dr (.cons Dr (.cons (cWr (BS (AA d 10).2 8 au5 au8)) .nil)))))) kr (.cons rfl (.cons rfl (.cons rfl (.cons rfl (.cons rfl (.cons rfl (.cons rfl (.cons rfl .nil))))))))<|AH ?_
 refine BN (Cv.trans (BF (⟨Dm,[(18,Z3b d),(1000,Z3c b d),(1001,Z3a d)]⟩) lr (.cons ⟨rfl,Ai 107 (Ar (c:=Ap.c) (xs:=([Ap.mk ({ data := #[99,49] }:ByteArray) 1 1 AJ AJ (W64 (3+(AA d 10).1)),Ap.mk ({ data := #[101,49] }:ByteArray) 1 3 AJ AJ (W64 (2+(AA (AA d 10).2 8).1))]:List Ap)) rfl kr)⟩ (.cons ⟨rfl,.cells _ (rr9 (rr3 (.cons (.own _ _ au0) (rr (rr .nil)))))⟩ lr))) (Cv.refl _))<|AB<|AB ?_
 refine rb 22 (Z3d d) (.cells (AC.c (AA (AA d 10).2 8).2) 146) ⟨[(0,tP 1000 0),(1,tP 1001 0),(23,tB (decide (((AA (EL d).2 2).1:Int)=1)))],[(18,Z3b d),(1000,Z3c b d),(1001,.cells (AC.c (Z3e d)) 146)]⟩ (cWr (BS (AA (AA d 10).2 8).2 2 au5 au8))<|AH ?_
 refine Bz (⟨Dm,[(1000,.cells (A9 b (CQ b [vN,.own 100000 20 (Z3m d).length,vN,vN])) 42),(1001,.cells (AC.c (Z3l d)) 146),(100000,.row 20 (Z3m d).length (AU Ap.c (Z3m d)) 107)]⟩) ?_ ?_
 ·refine Aa _ rfl (fun h1 => ?_) (fun h1 => ?_)
  ·have g1:=oT h1
   refine dw [] [(29,CG),(30,CG),(32,(Z3f d)),(35,CG),(36,CG),(38,(Z3g d))] [Aw CG.2.1,Aw CG.2.1,Aw (Z3f d).2.1,Bu (.cells (AC.c (Z3e d)) 146),Aw CG.2.1,Aw CG.2.1,Aw (Z3g d).2.1,Bu (.cells (AC.c (AA (Z3e d) 5).2) 146),[Ap.mk ({ data := #[99,49] }:ByteArray) 1 1 AJ AJ (W64 (3+(AA d 10).1)),Ap.mk ({ data := #[101,49] }:ByteArray) 1 3 AJ AJ (W64 (2+(AA (AA d 10).2 8).1))].length=[Ap.mk ({ data := #[99,49] }:ByteArray) 1 1 AJ AJ (W64 (3+(AA d 10).1)),Ap.mk ({ data := #[101,49] }:ByteArray) 1 3 AJ AJ (W64 (2+(AA (AA d 10).2 8).1))].length,([Ap.mk ({ data := #[99,49] }:ByteArray) 1 1 AJ AJ (W64 (3+(AA d 10).1)),Ap.mk ({ data := #[101,49] }:ByteArray) 1 3 AJ AJ (W64 (2+(AA (AA d 10).2 8).1))].length)+2<=maxLen,(([Ap.mk ({ data := #[99,49] }:ByteArray) 1 1 AJ AJ (W64 (3+(AA d 10).1)),Ap.mk ({ data := #[101,49] }:ByteArray) 1 3 AJ AJ (W64 (2+(AA (AA d 10).2 8).1))].length)+2)*216<=140737488355328] ⟨Dm,[(42,.row 20 (([Ap.mk ({ data := #[99,49] }:ByteArray) 1 1 AJ AJ (W64 (3+(AA d 10).1)),Ap.mk ({ data := #[101,49] }:ByteArray) 1 3 AJ AJ (W64 (2+(AA (AA d 10).2 8).1))].length)+2) (fun i_ j_=>if i_<([Ap.mk ({ data := #[99,49] }:ByteArray) 1 1 AJ AJ (W64 (3+(AA d 10).1)),Ap.mk ({ data := #[101,49] }:ByteArray) 1 3 AJ AJ (W64 (2+(AA (AA d 10).2 8).1))].length) then (AU Ap.c [Ap.mk ({ data := #[99,49] }:ByteArray) 1 1 AJ AJ (W64 (3+(AA d 10).1)),Ap.mk ({ data := #[101,49] }:ByteArray) 1 3 AJ AJ (W64 (2+(AA (AA d 10).2 8).1))]) i_ j_ else (As 20 2 [.s ({ data := #[119,49] }:ByteArray),.i 1,.i 2,.i AJ.Op,.s AJ.Text,.i AJ.N,.i AJ.Box.X0,.i AJ.Box.Y0,.i AJ.Box.X1,.i AJ.Box.Y1,opL AJ.L,.i AJ.Op,.s AJ.Text,.i AJ.N,.i AJ.Box.X0,.i AJ.Box.Y0,.i AJ.Box.X1,.i AJ.Box.Y1,opL AJ.L,.i (W64 (6+(AA (Z3e d) 5).1)),.s ({ data := #[114,49] }:ByteArray),.i 1,.i 4,.i AJ.Op,.s AJ.Text,.i AJ.N,.i AJ.Box.X0,.i AJ.Box.Y0,.i AJ.Box.X1,.i AJ.Box.Y1,opL AJ.L,.i AJ.Op,.s AJ.Text,.i AJ.N,.i AJ.Box.X0,.i AJ.Box.Y0,.i AJ.Box.X1,.i AJ.Box.Y1,opL AJ.L,.i (W64 (2+(AA (AA (Z3e d) 5).2 4).1))]) (i_-([Ap.mk ({ data := #[99,49] }:ByteArray) 1 1 AJ AJ (W64 (3+(AA d 10).1)),Ap.mk ({ data := #[101,49] }:ByteArray) 1 3 AJ AJ (W64 (2+(AA (AA d 10).2 8).1))].length)) j_) 107),(1000,.cells (A9 b (CQ b [vN,.own 42 20 (([Ap.mk ({ data := #[99,49] }:ByteArray) 1 1 AJ AJ (W64 (3+(AA d 10).1)),Ap.mk ({ data := #[101,49] }:ByteArray) 1 3 AJ AJ (W64 (2+(AA (AA d 10).2 8).1))].length)+2),vN,vN])) 42),(1001,Z3h d)]⟩ (.cons Dr (.cons Dr (.cons (cWr (BS (Z3e d) 5 au5 au8)) (.cons Dr (.cons Dr (.cons (cWr (BS (AA (Z3e d) 5).2 4 au5 au8)) .nil)))))) (.cons rfl (.cons rfl (.cons rfl (.cons rfl (.cons rfl (.cons rfl (.cons rfl (.cons rfl (.cons rfl (.cons au22 (.cons au22 .nil)))))))))))<|AH ?_
   refine Cv.trans (BF (⟨Dm,[(42,Z3i d),(1000,.cells (A9 b (CQ b [vN,.own 42 20 ([Ap.mk ({ data := #[99,49] }:ByteArray) 1 1 AJ AJ (W64 (3+(AA d 10).1)),Ap.mk ({ data := #[101,49] }:ByteArray) 1 3 AJ AJ (W64 (2+(EL d).1))]++[Ap.mk ({ data := #[119,49] }:ByteArray) 1 2 AJ AJ (W64 (6+(AA (Z3e d) 5).1)),Ap.mk ({ data := #[114,49] }:ByteArray) 1 4 AJ AJ (W64 (2+(Ip d).1))]).length,vN,vN])) 42),(1001,Z3h d)]⟩) lr (.cons ⟨rfl,Ai 107 (BO (BA 20 Ap.c [Ap.mk ({ data := #[99,49] }:ByteArray) 1 1 AJ AJ (W64 (3+(AA d 10).1)),Ap.mk ({ data := #[101,49] }:ByteArray) 1 3 AJ AJ (W64 (2+(AA (AA d 10).2 8).1))]) (Ar (c:=Ap.c) (xs:=([Ap.mk ({ data := #[119,49] }:ByteArray) 1 2 AJ AJ (W64 (6+(AA (Z3e d) 5).1)),Ap.mk ({ data := #[114,49] }:ByteArray) 1 4 AJ AJ (W64 (2+(AA (AA (Z3e d) 5).2 4).1))]:List Ap)) rfl kr))⟩ (.cons ⟨rfl,.cells _ (rr9 (rr3 (.cons (.own _ _ au0) (rr (rr .nil)))))⟩ lr))) (Cv.trans (vr 42 100000 (K:=[1000,1001]) hX) (Cv.trans (ck (⟨Dm,[(1000,Z3j b d),(1001,Z3h d),(100000,Z3i d)]⟩)) (A6 ?_)))
   first | rfl | (simp only [h1,Z3l,Z3m,cond_true,cond_false] <;> rfl)
  refine Ac<|AH ?_
  refine Cv.trans (vk [0,1] [18,1000,1001]) (Cv.trans (vr 18 100000 (K:=[1000,1001]) hX) (Cv.trans (ck (⟨Dm,[(1000,Z3k b d),(1001,.cells (AC.c (Z3e d)) 146),(100000,Z3b d)]⟩)) (A6 ?_)))
  first | rfl | (simp only [h1,Z3l,Z3m,cond_true,cond_false] <;> rfl)
 refine AB<|AB ?_
 refine rb 46 (Z3n d) (.cells (AC.c (Z3l d)) 146) ⟨[(0,tP 1000 0),(1,tP 1001 0),(47,tB (decide (((AA (Z3l d) 2).1:Int)=1)))],[(1000,Z3o b d),(1001,Z3p d),(100000,Z3q d)]⟩ (cWr (BS (Z3l d) 2 au5 au8))<|AH ?_
 refine Bz (⟨Dm,[(1000,.cells (A9 b (CQ b [vN,.own 100001 20 (Z3B d).length,vN,vN])) 42),(1001,.cells (AC.c (Z3A d)) 146),(100001,.row 20 (Z3B d).length (AU Ap.c (Z3B d)) 107)]⟩) ?_ ?_
 ·refine Aa _ rfl (fun h1 => ?_) (fun h1 => ?_)
  ·have g1:=oT h1
   refine dw [] [(54,(Z3r d)),(57,(Z3s d)),(59,(Z3v d)),(61,(Z3w d))] [Aw (Z3r d).2.1,Bu (.cells (AC.c (AA (Z3l d) 2).2) 146),Aw (Z3s d).2.1,Bu (.cells (AC.c (AA (AA (Z3l d) 2).2 2).2) 146),Aw (Z3v d).2.1,Bu (.cells (AC.c (Z3t d)) 146),Aw (Z3w d).2.1,Bu (.cells (AC.c (BE (Z3t d)).2) 146),(Z3m d).length=(Z3m d).length,(Z3m d).length+1<=maxLen,((Z3m d).length+1)*216<=140737488355328] ⟨Dm,[(65,.row 20 ((Z3m d).length+1) (fun i_ j_=>if i_<(Z3m d).length then (AU Ap.c (Z3m d)) i_ j_ else (As 20 1 [.s ({ data := #[99,50] }:ByteArray),.i (W64 (1+(AA (AA (Z3l d) 2).2 2).1)),.i 1,.i (Z3u d).Op,.s (Z3u d).Text,.i (Z3u d).N,.i (Z3u d).Box.X0,.i (Z3u d).Box.Y0,.i (Z3u d).Box.X1,.i (Z3u d).Box.Y1,opL (Z3u d).L,.i (BE (Z3t d)).1.Op,.s (BE (Z3t d)).1.Text,.i (BE (Z3t d)).1.N,.i (BE (Z3t d)).1.Box.X0,.i (BE (Z3t d)).1.Box.Y0,.i (BE (Z3t d)).1.Box.X1,.i (BE (Z3t d)).1.Box.Y1,opL (BE (Z3t d)).1.L,.i (W64 (1+(AA (BE (Z3t d)).2 14).1))]) (i_-(Z3m d).length) j_) 107),(1000,.cells (A9 b (CQ b [vN,.own 65 20 ((Z3m d).length+1),vN,vN])) 42),(1001,.cells (AC.c (Z3x d)) 146)]⟩ (.cons (cWr (BS (AA (Z3l d) 2).2 2 au5 au8)) (.cons (cWr (Tw (AA (AA (Z3l d) 2).2 2).2 au5)) (.cons (cWr (Tw (Z3t d) au5)) (.cons (cWr (BS (BE (Z3t d)).2 14 au5 au8)) .nil)))) (.cons rfl (.cons rfl (.cons rfl (.cons rfl (.cons rfl (.cons rfl (.cons rfl (.cons rfl (.cons rfl (.cons au22 (.cons au22 .nil)))))))))))<|AH ?_
   refine Cv.trans (BF (⟨Dm,[(65,Z3y d),(1000,.cells (A9 b (CQ b [vN,.own 65 20 ((Z3m d)++[Ap.mk ({ data := #[99,50] }:ByteArray) (W64 (1+(AA (AA (Z3l d) 2).2 2).1)) 1 (Z3u d) (BE (Z3t d)).1 (W64 (1+(KQ d).1))]).length,vN,vN])) 42),(1001,.cells (AC.c (Z3x d)) 146)]⟩) lr (.cons ⟨rfl,Ai 107 (BO (BA 20 Ap.c (Z3m d)) (Ar (c:=Ap.c) (xs:=([Ap.mk ({ data := #[99,50] }:ByteArray) (W64 (1+(AA (AA (Z3l d) 2).2 2).1)) 1 (Z3u d) (BE (Z3t d)).1 (W64 (1+(AA (BE (Z3t d)).2 14).1))]:List Ap)) rfl kr))⟩ (.cons ⟨rfl,.cells _ (rr9 (rr3 (.cons (.own _ _ au0) (rr (rr .nil)))))⟩ lr))) (Cv.trans (vr 65 100001 (K:=[1000,1001]) hX) (Cv.trans (ck (⟨Dm,[(1000,Z3z b d),(1001,.cells (AC.c (Z3x d)) 146),(100001,Z3y d)]⟩)) (A6 ?_)))
   first | rfl | (simp only [h1,Z3A,Z3B,cond_true,cond_false] <;> rfl)
  refine Ac<|AH ?_
  refine Cv.trans (vk [0,1] [1000,1001,100000]) (Cv.trans (wr (⟨Dm,[(1000,.cells (A9 b (CQ b [vN,.own 100001 20 (Z3m d).length,vN,vN])) 42),(1001,Z3p d),(100001,Z3q d)]⟩) 100000 100001 (K:=[1000,1001]) hX) (A6 ?_))
  first | rfl | (simp only [h1,Z3A,Z3B,cond_true,cond_false] <;> rfl)
 refine AB<|AB ?_
 refine rb 69 (Z3C d) (.cells (AC.c (Z3A d)) 146) ⟨[(0,tP 1000 0),(1,tP 1001 0),(70,tB (decide (((AA (Z3A d) 3).1:Int)=0)))],[(1000,Z3D b d),(1001,Z3E d),(100001,Z3F d)]⟩ (cWr (BS (Z3A d) 3 au5 au8))<|AH ?_
 refine Bz (⟨Dm,[(1000,.cells (A9 b (CQ b [lst 2 BI.c (Z3G d),.own 100001 20 (Z3B d).length,vN,vN])) 42),(1001,.cells (AC.c (AA (Z3A d) 3).2) 146),(100001,.row 20 (Z3B d).length (AU Ap.c (Z3B d)) 107)]⟩) ?_ ?_
 ·refine Aa _ rfl (fun h1 => ?_) (fun h1 => ?_)
  ·refine rn ⟨Dm,[(1000,.cells (A9 b (CQ b [.list true 2 1 (As 2 1 [.s ({ data := #[112,111,119,101,114] }:ByteArray),.list true 1 1 (As 1 1 [.s ({ data := #[71,78,68] }:ByteArray)])]),.own 100001 20 (Z3B d).length,vN,vN])) 42),(1001,Z3E d),(100001,Z3F d)]⟩ ?_
   refine Cv.trans (BF (⟨Dm,[(1000,.cells (A9 b (CQ b [lst 2 BI.c [BI.mk ({ data := #[112,111,119,101,114] }:ByteArray) [({ data := #[71,78,68] }:ByteArray)]],.own 100001 20 (Z3B d).length,vN,vN])) 42),(1001,Z3E d),(100001,Z3F d)]⟩) lr (.cons ⟨rfl,.cells _ (rr9 (rr2 (.cons (Bk true (ES (c:=BI.c) (xs:=([BI.mk ({ data := #[112,111,119,101,114] }:ByteArray) [({ data := #[71,78,68] }:ByteArray)]]:List BI)) (y:=[[.s ({ data := #[112,111,119,101,114] }:ByteArray),.list true 1 1 (As 1 1 [.s ({ data := #[71,78,68] }:ByteArray)])]]) (z:=[[.s ({ data := #[112,111,119,101,114] }:ByteArray),lst 1 (fun x=>[.s x]) [({ data := #[71,78,68] }:ByteArray)]]]) rfl kr kr (.cons (rr (.cons (Bk true (Ar (c:=(fun x=>[.s x])) (xs:=([({ data := #[71,78,68] }:ByteArray)]:List ByteArray)) rfl kr)) .nil)) .nil))) (rr (rr (rr .nil))))))⟩ lr)) (A6 ?_)
   first | rfl | (simp only [h1,Z3G,cond_true,cond_false] <;> rfl)
  refine Ac<|AH ?_
  refine Cv.trans (ck (⟨Dm,[(1000,Z3D b d),(1001,Z3E d),(100001,Z3F d)]⟩)) (Cv.trans (BF (⟨Dm,[(1000,.cells (A9 b (CQ b [lst 2 BI.c [],.own 100001 20 (Z3B d).length,vN,vN])) 42),(1001,Z3E d),(100001,Z3F d)]⟩) lr (.cons ⟨rfl,.cells _ (rr9 (rr2 (.cons (CZ 2 BI.c) (rr (rr (rr .nil))))))⟩ lr)) (A6 ?_))
  first | rfl | (simp only [h1,Z3G,cond_true,cond_false] <;> rfl)
 refine AB<|AB ?_
 refine rb 78 (Z3H d) (.cells (AC.c (AA (Z3A d) 3).2) 146) ⟨[(0,tP 1000 0),(1,tP 1001 0),(79,tB (decide (((AA (AA (Z3A d) 3).2 4).1:Int)=0)))],[(1000,Z3J b d),(O5 d),(100001,Z3F d)]⟩ (cWr (BS (AA (Z3A d) 3).2 4 au5 au8))<|AH ?_
 refine Bz (⟨Dm,[(1000,.cells (A9 b (CQ b [lst 2 BI.c (Z3G d),.own 100001 20 (Z3B d).length,lst 3 Am.c (Z3Q d b),vN])) 42),(1001,.cells (AC.c (Z3P d b)) 146),(100001,.row 20 (Z3B d).length (AU Ap.c (Z3B d)) 107)]⟩) ?_ ?_
 ·refine Aa _ rfl (fun h1 => ?_) (fun h1 => ?_)
  ·have g1:=oT h1
   refine AB<|rs 83 (ceI [.agg (Z3 b d)] (TT (AG.mk b.Layers (Ah.mk 0 [] 0) b.Parts [] b.Tracks b.Vias b.Pours b.Keeps b.Slots [] [] [] []))) ⟨[(0,tP 1000 0),(1,tP 1001 0),(4,tO (lst 1 eIn (Z3K b)))],[(1000,Z3J b d),(O5 d),(100001,Z3F d)]⟩ (Cd (ZQ (AG.mk b.Layers (Ah.mk 0 [] 0) b.Parts [] b.Tracks b.Vias b.Pours b.Keeps b.Slots [] [] [] []) au9 au9 au9 au9 au9 au9) (.cons (.agg (rr (.cons (.any _) (.cons (.any _) (.cons (.any _) (rr (.cons (.any _) (rr5 (.cons (.any _) (.cons (.any _) (.cons (.any _) (.cons (.any _) .nil)))))))))))) .nil))<|AH ?_
   refine dw [] [(89,(Z3L b d)),(96,(Z3N b d))] [Aw (Z3L b d).2.1,Bu (.cells (AC.c (Z3I d)) 146),0<=((AA (Z3I d) ((Z3K b).length:Int)).1:Int)/\((AA (Z3I d) ((Z3K b).length:Int)).1:Int)<(((Z3K b).length:Nat):Int),Aw (Z3N b d).2.1,Bu (.cells (AC.c (Z3M d b)) 146),0<=((AA (Z3M d b) ((Z3K b).length:Int)).1:Int)/\((AA (Z3M d b) ((Z3K b).length:Int)).1:Int)<(((Z3K b).length:Nat):Int)] ⟨Dm,[(1000,.cells (A9 b (CQ b (Ou d [.list true 3 1 (As 3 1 [.i ((Z3K b).getD (AA (Z3I d) ((Z3K b).length:Int)).1.toNat default),.i ((Z3K b).getD (AA (Z3M d b) ((Z3K b).length:Int)).1.toNat default),.s ({ data := #[99,49] }:ByteArray)]),vN]))) 42),(1001,.cells (AC.c (Z3O d b)) 146),(100001,Z3F d)]⟩ (.cons (cWr (BS (Z3I d) ((Z3K b).length:Int) au5 au8)) (.cons (cWr (BS (Z3M d b) ((Z3K b).length:Int) au5 au8)) .nil)) (.cons rfl (.cons rfl (.cons (by first | exact H8 _ _ _ (by decide) (by decide) (by decide) | exact Rg (b:=AG.mk b.Layers (Ah.mk 0 [] 0) b.Parts [] b.Tracks b.Vias b.Pours b.Keeps b.Slots [] [] [] []) _ hi (by assumption) (by assumption) (by assumption) (by assumption) (by assumption) (by assumption) | decide | omega) (.cons rfl (.cons rfl (.cons (by first | exact H8 _ _ _ (by decide) (by decide) (by decide) | exact Rg (b:=AG.mk b.Layers (Ah.mk 0 [] 0) b.Parts [] b.Tracks b.Vias b.Pours b.Keeps b.Slots [] [] [] []) _ hi (by assumption) (by assumption) (by assumption) (by assumption) (by assumption) (by assumption) | decide | omega) .nil))))))<|AH ?_
   refine Cv.trans (BF (⟨Dm,[(1000,.cells (A9 b (CQ b [lst 2 BI.c (Z3G d),.own 100001 20 (Z3B d).length,lst 3 Am.c [Am.mk ((Z3K b).getD (AA (Z3I d) ((Z3K b).length:Int)).1.toNat default) ((Z3K b).getD (AA (Z3M d b) ((Z3K b).length:Int)).1.toNat default) ({ data := #[99,49] }:ByteArray)],vN])) 42),(1001,.cells (AC.c (Z3O d b)) 146),(100001,Z3F d)]⟩) lr (.cons ⟨rfl,.cells _ (rr9 (rr4 (.cons (Bk true (Ar (c:=Am.c) (xs:=([Am.mk ((Z3K b).getD (AA (Z3I d) ((Z3K b).length:Int)).1.toNat default) ((Z3K b).getD (AA (Z3M d b) ((Z3K b).length:Int)).1.toNat default) ({ data := #[99,49] }:ByteArray)]:List Am)) rfl kr)) (rr .nil))))⟩ lr)) (A6 ?_)
   first | rfl | (simp only [h1,Z3P,Z3Q,cond_true,cond_false] <;> rfl)
  refine Ac<|AH ?_
  refine Cv.trans (ck (⟨Dm,[(1000,Z3J b d),(O5 d),(100001,Z3F d)]⟩)) (Cv.trans (BF (⟨Dm,[(1000,.cells (A9 b (CQ b [lst 2 BI.c (Z3G d),.own 100001 20 (Z3B d).length,lst 3 Am.c [],vN])) 42),(O5 d),(100001,Z3F d)]⟩) lr (.cons ⟨rfl,.cells _ (rr9 (rr4 (.cons (CZ 3 Am.c) (rr .nil))))⟩ lr)) (A6 ?_))
  first | rfl | (simp only [h1,Z3P,Z3Q,cond_true,cond_false] <;> rfl)
 refine AB<|rb 104 (Z3R d b) (.cells (AC.c (Z3P d b)) 146) ⟨[(0,tP 1000 0),(1,tP 1001 0),(105,tB (decide (((AA (Z3P d b) 4).1:Int)=0)))],[(1000,.cells (A9 b (CQ b (Ou d [lst 3 Am.c (Z3Q d b),vN]))) 42),(1001,.cells (AC.c (AA (Z3P d b) 4).2) 146),(100001,Z3F d)]⟩ (cWr (BS (Z3P d b) 4 au5 au8))<|AH ?_
 refine Aa _ rfl (fun h1 => ?_) (fun h1 => ?_)
 ·have g1:=oT h1
  refine rb 109 (Z3S d b) (.cells (AC.c (AA (Z3P d b) 4).2) 146) ⟨[],[(1000,.cells (A9 b (CQ b (Ou d [lst 3 Am.c (Z3Q d b),.list true 3 1 (As 3 1 [.s ({ data := #[109,49] }:ByteArray),.list true 1 2 (As 1 2 [.s ({ data := #[78,49] }:ByteArray),.s ({ data := #[78,50] }:ByteArray)]),.i (W64 (10*(AA (AA (Z3P d b) 4).2 8).1))])]))) 42),(1001,.cells (AC.c (Z3T d b)) 146),(100001,Z3F d)]⟩ (cWr (BS (AA (Z3P d b) 4).2 8 au5 au8)) ?_
  exact yn (Cv.trans (vf 100001 20 (Z3B d).length (AU Ap.c (Z3B d)) 107 (K:=[1000,1001]) hX (.cons ⟨rfl,rfl⟩ .nil)) (Cv.refl _)) (.tup []) ⟨An rfl,⟨.cells (A9 b (CQ b (Ov d b [.list true 3 1 (As 3 1 [.s ({ data := #[109,49] }:ByteArray),.list true 1 2 (As 1 2 [.s ({ data := #[78,49] }:ByteArray),.s ({ data := #[78,50] }:ByteArray)]),.i (W64 (10*(AA (AA (Z3P d b) 4).2 8).1))])]))) 42,by kernel_rfl,QW (y:=.cells (A9 b (CQ b (Ov d b [lst 3 BT.c [BT.mk ({ data := #[109,49] }:ByteArray) [({ data := #[78,49] }:ByteArray),({ data := #[78,50] }:ByteArray)] (W64 (10*(AA (AA (Z3P d b) 4).2 8).1))]]))) 42) (.cells _ (rr9 (rr5 (.cons (Bk true (ES (c:=BT.c) (xs:=([BT.mk ({ data := #[109,49] }:ByteArray) [({ data := #[78,49] }:ByteArray),({ data := #[78,50] }:ByteArray)] (W64 (10*(AA (AA (Z3P d b) 4).2 8).1))]:List BT)) (y:=[[.s ({ data := #[109,49] }:ByteArray),.list true 1 2 (As 1 2 [.s ({ data := #[78,49] }:ByteArray),.s ({ data := #[78,50] }:ByteArray)]),.i (W64 (10*(AA (AA (Z3P d b) 4).2 8).1))]]) (z:=[[.s ({ data := #[109,49] }:ByteArray),lst 1 (fun x=>[.s x]) [({ data := #[78,49] }:ByteArray),({ data := #[78,50] }:ByteArray)],.i (W64 (10*(AA (AA (Z3P d b) 4).2 8).1))]]) rfl kr kr (.cons (rr (.cons (Bk true (Ar (c:=(fun x=>[.s x])) (xs:=([({ data := #[78,49] }:ByteArray),({ data := #[78,50] }:ByteArray)]:List ByteArray)) rfl kr)) (rr .nil))) .nil))) .nil)))) (by first | (simp only [Cb,h1,cond_true,cond_false];done) | (simp only [Cb,h1,cond_true,cond_false];kernel_rfl))⟩,.cells (AC.c (Z3T d b)) 146,by kernel_rfl,DV (by first | (simp only [Cb,h1,cond_true,cond_false];done) | (simp only [Cb,h1,cond_true,cond_false];kernel_rfl))⟩
 have g1:=oF h1
 refine Ac ?_
 exact yn (Cv.trans (vf 100001 20 (Z3B d).length (AU Ap.c (Z3B d)) 107 (K:=[1000,1001]) hX (.cons ⟨rfl,rfl⟩ .nil)) (Cv.refl _)) (.tup []) ⟨An rfl,⟨.cells (A9 b (CQ b (Ov d b [vN]))) 42,by kernel_rfl,QW (y:=.cells (A9 b (CQ b (Ov d b [lst 3 BT.c []]))) 42) (.cells _ (rr9 (rr5 (.cons (CZ 3 BT.c) .nil)))) (by first | (simp only [Cb,h1,cond_true,cond_false];done) | (simp only [Cb,h1,cond_true,cond_false];kernel_rfl))⟩,.cells (AC.c (AA (Z3P d b) 4).2) 146,by kernel_rfl,DV (by first | (simp only [Cb,h1,cond_true,cond_false];done) | (simp only [Cb,h1,cond_true,cond_false];kernel_rfl))⟩
end
section
open Go.RowKit
theorem M8 {v a:Int} {d:AC} {n:Int} (h:v<W64 (a+(AA d n).1)) (h0:0<n) (h1:n<=1000000) (ha:0<=a) (hb:a<=1000000):v<a+n-1:=by
 have:=Cy d n h0 (by omega)
 rw [Ao (by omega) (by omega)] at h
 omega
theorem Gm {p q:Prop} [Decidable p] [Decidable q] {r:Bool} (h:(bif bif decide p then decide q else false then r else (bif bif decide p then decide q else false then false else false))=true):q:=by
 by_cases hp:p
 ·rw [decide_eq_true hp] at h
  by_cases hq:q
  ·exact hq
  rw [decide_eq_false hq] at h;cases h
 rw [decide_eq_false hp] at h;cases h
theorem UA {n:Nat} (h:(0:Int)<(n:Int)):0<n:=by omega
theorem OU {c2 c1:Bool} {a b c:Az} {L:List Az} (hL:L=bif c2 then [a,b] else bif c1 then [c] else []):L.length<=2:=by
 subst hL;cases c2 <;> cases c1 <;> simp
theorem UP {c2 c1:Bool} {a b c:Az} {L:List Az} {k:Int} (hk:0<=k/\k<2) (ha:a.Legs.length=2) (hc:c.Legs.length=2) (hL:L=bif c2 then [a,b] else bif c1 then [c] else []) (h:(0:Int)<(L.length:Int)):0<=k/\k<(((L.getD 0 default).Legs.length:Nat):Int):=by
 subst hL
 cases c2 with
 | true=>show 0<=k/\k<((a.Legs.length:Nat):Int);rw [ha];exact hk
 | false =>
  cases c1 with
  | true=>show 0<=k/\k<((c.Legs.length:Nat):Int);rw [hc];exact hk
  | false=>exact absurd h (by simp)
theorem Xs {α:Type} {L:List α} (h:L.length<=2):L.length+1<=maxLen:=by unfold maxLen;omega
theorem Xt {α:Type} {L:List α} (h:L.length<=2):(L.length+1)*32<=140737488355328:=by omega
def Z3U:Blk:=.cells MC 114
variable (r:Al) (name:ByteArray) (l:List Int) (v6_1:List A1) (v8:Int) (x0:AD) (radius:Int) (v5:AC) (x1:AD)
abbrev HU:=AA (AC.mk l 0) 5
def Z3V:CT:=(54,(Iy:List Av).map (Bq 1000 14),wrI 14 (.cells [lst 1 eIn l,.i 0] 146) (tI (HU l).1) (.cells (AC.c (HU l).2) 146))
def Z3W:Tv:=tI (W64 (2+(HU l).1))
def Z3X:Blk:=.cells (AC.c (HU l).2) 146
abbrev GV:Bool:=(decide (((W64 (2+(AA (AC.mk l 0) 5).1)):Int)<4))
def Z3Y:Tv:=tB (GV l)
abbrev KS:Av:=.one (.ptr 14 0)
def Z3Z:Tv:=.grd ((GV l)=true) KS
def Z40:Blk:=.row 2 ([]:List Az).length (AU Az.c ([]:List Az)) 157
abbrev GW:Bool:=(decide ((4:Int)<=(W64 (2+(AA (AC.mk l 0) 5).1))))
def Z41:Tv:=tB (GW l)
def Z42:Tv:=.grd ((GW l)=true) KS
def Z43:Blk:=.row 7 ([]:List A1).length (AU A1.c ([]:List A1)) 118
def Z44:Blk:=.cells (R7 name) 114
def Z45:Blk:=.cells [.s name,.own 100000 7 v6_1.length,vN] 114
def Z46:Blk:=.row 7 v6_1.length (AU A1.c v6_1) 118
abbrev KV:Blk:=.cells (AC.c (AA v5 2).2) 146
abbrev KM:Blk:=.cells (AC.c v5) 146
def Z47:CT:=(54,(GT:List Av).map (Bq 1000 14),wrI 14 (KM v5) (tI (AA v5 2).1) (KV v5))
def Z48:Blk:=.cells [.s (Af v8),.i 0,vN,.i 0,.i (W64 (30*v8)),.i (W64 (10*(AA v5 2).1)),.i 0] 118
def Z49:Blk:=.cells [.i (W64 (30*v8)),.i (W64 (10*(AA v5 2).1))] 52
abbrev GU:=AA (AA v5 2).2 3
def Z4a:CT:=(54,(ER:List Av).map (Bq 1000 14),wrI 14 (KV v5) (tI (GU v5).1) (.cells (AC.c (GU v5).2) 146))
def Z4b:Blk:=.cells (AC.c (GU v5).2) 146
def Z4c:Ah:=DB (Al.mk (W64 ((W64 (30*v8))-6)) (W64 ((W64 (10*(AA v5 2).1))-6)) (W64 ((W64 (30*v8))+6)) (W64 ((W64 (10*(AA v5 2).1))+6)))
def Z4d:CT:=(54,(ER:List Av).map (Bq 1000 14),wrI 14 (.cells (AC.c (GU v5).2) 146) (tI (AA (GU v5).2 3).1) (.cells (AC.c (AA (GU v5).2 3).2) 146))
abbrev Z4e:AC:=(AA (AA (AA v5 2).2 3).2 3).2
def Z4f:Ah:=Dv (AD.mk (W64 (30*v8)) (W64 (10*(AA v5 2).1))) (W64 (4+(AA (AA (AA v5 2).2 3).2 3).1))
abbrev Z4g:AC:=bif decide (((AA (AA v5 2).2 3).1:Int)=0) then (AA (AA v5 2).2 3).2 else (bif decide (((AA (AA v5 2).2 3).1:Int)=1) then (Z4e v5) else (AA (AA v5 2).2 3).2)
def Z4h (v5:AC) (v8:Int):(List AO):=bif decide (((AA (AA v5 2).2 3).1:Int)=0) then (Z4c v8 v5).Edges else (bif decide (((AA (AA v5 2).2 3).1:Int)=1) then (Z4f v8 v5).Edges else [AO.mk 1 (AD.mk (W64 ((W64 (30*v8))-2)) (W64 (10*(AA v5 2).1))) (AD.mk (W64 ((W64 (30*v8))+2)) (W64 (10*(AA v5 2).1))) (AD.mk 0 0)])
def Z4i:CT:=(54,(IX:List Av).map (Bq 1000 14),wrI 14 (.cells (AC.c (Z4g v5)) 146) (tI (AA (Z4g v5) 4).1) (.cells (AC.c (AA (Z4g v5) 4).2) 146))
def Z4j:CT:=(54,(GT:List Av).map (Bq 1000 14),wrI 14 (.cells (AC.c (AA (Z4g v5) 4).2) 146) (tI (AA (AA (Z4g v5) 4).2 2).1) (.cells (AC.c (AA (AA (Z4g v5) 4).2 2).2) 146))
abbrev Z4k:AC:=(AA (AA (Z4g v5) 4).2 2).2
def Z4l:CT:=(54,(ER:List Av).map (Bq 1000 14),wrI 14 (KM v5) (tI (AA v5 3).1) (.cells (AC.c (AA v5 3).2) 146))
abbrev Z4m:AC:=bif decide (((W64 (2+(AA (AC.mk l 0) 5).1)):Int)<4) then (AA v5 3).2 else v5
def Z4n:CT:=(54,(GT:List Av).map (Bq 1000 14),wrI 14 (.cells (AC.c (Z4m l v5)) 146) (tI (AA (Z4m l v5) 2).1) (.cells (AC.c (AA (Z4m l v5) 2).2) 146))
def Z4o:Blk:=.cells (AC.c (AA (Z4m l v5) 2).2) 146
abbrev SG:=[Az.mk 0 [Bm.mk (Af 0) 1,Bm.mk (Af 1) (AA (Z4m l v5) 2).1]]
def Z4p:Blk:=.row 2 ((SG l v5).length) (AU Az.c (SG l v5)) 157
abbrev Z4q:AC:=bif bif decide (((W64 (2+(AA (AC.mk l 0) 5).1)):Int)<4) then (bif decide (((W64 (2+(AA (AC.mk l 0) 5).1)):Int)<4) then decide ((0:Int)<(AA v5 3).1) else false) else (bif decide (((W64 (2+(AA (AC.mk l 0) 5).1)):Int)<4) then false else false) then (AA (Z4m l v5) 2).2 else (Z4m l v5)
def Z4r:(List Az):=bif bif decide (((W64 (2+(AA (AC.mk l 0) 5).1)):Int)<4) then (bif decide (((W64 (2+(AA (AC.mk l 0) 5).1)):Int)<4) then decide ((0:Int)<(AA v5 3).1) else false) else (bif decide (((W64 (2+(AA (AC.mk l 0) 5).1)):Int)<4) then false else false) then [Az.mk 0 [Bm.mk (Af 0) 1,Bm.mk (Af 1) (AA (Z4m l v5) 2).1]] else ([]:List Az)
def Z4s:CT:=(54,(ER:List Av).map (Bq 1000 14),wrI 14 (.cells (AC.c (Z4q l v5)) 146) (tI (AA (Z4q l v5) 3).1) (.cells (AC.c (AA (Z4q l v5) 3).2) 146))
def Z4t:Blk:=.row 2 (Z4r l v5).length (AU Az.c (Z4r l v5)) 157
abbrev Z4u:AC:=bif decide ((4:Int)<=(W64 (2+(AA (AC.mk l 0) 5).1))) then (AA (Z4q l v5) 3).2 else (Z4q l v5)
abbrev FN:=AA (Z4u l v5) 2
def Z4v:CT:=(54,(GT:List Av).map (Bq 1000 14),wrI 14 (.cells (AC.c (Z4u l v5)) 146) (tI (FN l v5).1) (.cells (AC.c (FN l v5).2) 146))
def Z4w:Blk:=.cells (AC.c (FN l v5).2) 146
abbrev Vg:=[Az.mk 1 [Bm.mk (Af 0) (FN l v5).1,Bm.mk (Af 1) (FN l v5).1],Az.mk 1 [Bm.mk (Af 2) (FN l v5).1,Bm.mk (Af 3) (FN l v5).1]]
def Z4x:Blk:=.row 2 ((Vg l v5).length) (AU Az.c (Vg l v5)) 157
abbrev Z4y:AC:=bif bif decide ((4:Int)<=(W64 (2+(AA (AC.mk l 0) 5).1))) then (bif decide ((4:Int)<=(W64 (2+(AA (AC.mk l 0) 5).1))) then decide ((0:Int)<(AA (Z4q l v5) 3).1) else false) else (bif decide ((4:Int)<=(W64 (2+(AA (AC.mk l 0) 5).1))) then false else false) then (AA (Z4u l v5) 2).2 else (Z4u l v5)
def Z4z:(List Az):=bif bif decide ((4:Int)<=(W64 (2+(AA (AC.mk l 0) 5).1))) then (bif decide ((4:Int)<=(W64 (2+(AA (AC.mk l 0) 5).1))) then decide ((0:Int)<(AA (Z4q l v5) 3).1) else false) else (bif decide ((4:Int)<=(W64 (2+(AA (AC.mk l 0) 5).1))) then false else false) then [Az.mk 1 [Bm.mk (Af 0) (AA (Z4u l v5) 2).1,Bm.mk (Af 1) (AA (Z4u l v5) 2).1],Az.mk 1 [Bm.mk (Af 2) (AA (Z4u l v5) 2).1,Bm.mk (Af 3) (AA (Z4u l v5) 2).1]] else (Z4r l v5)
def Z4A:CT:=(54,(GT:List Av).map (Bq 1000 14),wrI 14 (.cells (AC.c (Z4y l v5)) 146) (tI (AA (Z4y l v5) 2).1) (.cells (AC.c (AA (Z4y l v5) 2).2) 146))
def Z4B:Blk:=.row 2 (Z4z l v5).length (AU Az.c (Z4z l v5)) 157
abbrev Z4C:AC:=bif bif decide (((W64 (2+(AA (AC.mk l 0) 5).1)):Int)=6) then decide ((0:Int)<(((Z4z l v5).length:Nat):Int)) else false then (AA (Z4y l v5) 2).2 else (Z4y l v5)
def Z4D:CT:=(54,(ER:List Av).map (Bq 1000 14),wrI 14 (.cells (AC.c (Z4C l v5)) 146) (tI (AA (Z4C l v5) 3).1) (.cells (AC.c (AA (Z4C l v5) 3).2) 146))
abbrev Vj:=[Az.mk (AA (Z4C l v5) 3).1 [Bm.mk (Af 5) (((Z4z l v5).getD 0 default).Legs.getD 0 default).Group,Bm.mk (Af 4) (((Z4z l v5).getD 0 default).Legs.getD 1 default).Group]]
def Z4E:Blk:=.row 2 ((Z4z l v5)++(Vj l v5)).length (AU Az.c ((Z4z l v5)++(Vj l v5))) 157
def Z4F:(List Az):=bif bif bif decide (((W64 (2+(AA (AC.mk l 0) 5).1)):Int)=6) then decide ((0:Int)<(((Z4z l v5).length:Nat):Int)) else false then (bif bif decide (((W64 (2+(AA (AC.mk l 0) 5).1)):Int)=6) then decide ((0:Int)<(((Z4z l v5).length:Nat):Int)) else false then decide (((AA (Z4y l v5) 2).1:Int)=1) else false) else (bif bif decide (((W64 (2+(AA (AC.mk l 0) 5).1)):Int)=6) then decide ((0:Int)<(((Z4z l v5).length:Nat):Int)) else false then false else false) then ((Z4z l v5)++[Az.mk (AA (Z4C l v5) 3).1 [Bm.mk (Af 5) (((Z4z l v5).getD 0 default).Legs.getD 0 default).Group,Bm.mk (Af 4) (((Z4z l v5).getD 0 default).Legs.getD 1 default).Group]]) else (Z4z l v5)
def Z4G:Blk:=.row 2 (Z4F l v5).length (AU Az.c (Z4F l v5)) 157
def Z4H (name:ByteArray) (v6_1:List A1) (l:(List Int)) (v5:AC):Blk:=.cells [.s name,.own 100000 7 v6_1.length,.own 100001 2 ((SG l v5).length)] 114
def Z4I:Blk:=.cells [.s name,.own 100000 7 v6_1.length,.own 100001 2 ([]:List Az).length] 114
def Z4J (name:ByteArray) (v6_1:List A1) (l:(List Int)) (v5:AC):Blk:=.cells [.s name,.own 100000 7 v6_1.length,.own 100001 2 (Z4r l v5).length] 114
def Z4K (name:ByteArray) (v6_1:List A1) (l:(List Int)) (v5:AC):Blk:=.cells [.s name,.own 100000 7 v6_1.length,.own 100002 2 ((Vg l v5).length)] 114
def Z4L (name:ByteArray) (v6_1:List A1) (l:(List Int)) (v5:AC):Blk:=.cells [.s name,.own 100000 7 v6_1.length,.own 100002 2 (Z4z l v5).length] 114
def Z4M (name:ByteArray) (v6_1:List A1) (l:(List Int)) (v5:AC):Blk:=.cells [.s name,.own 100000 7 v6_1.length,.own 100003 2 ((Z4z l v5)++(Vj l v5)).length] 114
def Ct (l:(List Int)) (name:ByteArray):Nat->List A1->AC->Int->AQ
 | 0,_,_,_=>default
 | n0+1,v6_1,v5,v8=>bif decide ((v8:Int)<(W64 (2+(AA (AC.mk l 0) 5).1))) then ((Ct l name n0) (v6_1++[A1.mk (Af v8) (Ah.mk (bif decide (((AA (AA v5 2).2 3).1:Int)=0) then (Z4c v8 v5).Kind else (bif decide (((AA (AA v5 2).2 3).1:Int)=1) then (Z4f v8 v5).Kind else 1)) (Z4h v5 v8) (bif decide (((AA (AA v5 2).2 3).1:Int)=0) then (Z4c v8 v5).R else (bif decide (((AA (AA v5 2).2 3).1:Int)=1) then (Z4f v8 v5).R else 4))) (AD.mk (W64 (30*v8)) (W64 (10*(AA v5 2).1))) (W64 ((W64 (2*(AA (Z4g v5) 4).1))*(AA (AA (Z4g v5) 4).2 2).1))]) (Z4k v5) (v8+1)) else (AQ.mk name v6_1 (Z4F l v5))
def A0 (l:(List Int)) (name:ByteArray):AQ:=Ct l name (((W64 (2+(AA (AC.mk l 0) 5).1))-0).toNat+1) ([]:List A1) (AA (AC.mk l 0) 5).2 0
def IG (l:(List Int)) (name:ByteArray):CT:=(52,[.one (lst 1 eIn l),.one (.s name)],.val [] (.av (.agg (AQ.c (A0 l name)))))
abbrev Hb:=AA (AA v5 2).2 3
abbrev Un:=(v6_1++[A1.mk (Af v8) (Ah.mk (bif decide (((Hb v5).1:Int)=0) then (Z4c v8 v5).Kind else (bif decide (((Hb v5).1:Int)=1) then (Z4f v8 v5).Kind else 1)) (Z4h v5 v8) (bif decide (((Hb v5).1:Int)=0) then (Z4c v8 v5).R else (bif decide (((Hb v5).1:Int)=1) then (Z4f v8 v5).R else 4))) (AD.mk (W64 (30*v8)) (W64 (10*(AA v5 2).1))) (W64 ((W64 (2*(AA (Z4g v5) 4).1))*(AA (AA (Z4g v5) 4).2 2).1))])
abbrev zzc24 (v5:AC) (v8:Int):=(bif decide (((Hb v5).1:Int)=0) then (Z4c v8 v5).Kind else (bif decide (((Hb v5).1:Int)=1) then (Z4f v8 v5).Kind else 1))
abbrev Ja:=(bif decide (((W64 (2+(AA (AC.mk l 0) 5).1)):Int)=6) then decide ((0:Int)<(((Z4z l v5).length:Nat):Int)) else false)
abbrev zzc27 (v5:AC) (v8:Int):=(bif decide (((Hb v5).1:Int)=0) then (Z4c v8 v5).R else (bif decide (((Hb v5).1:Int)=1) then (Z4f v8 v5).R else 4))
abbrev FT:Bool:=(decide (((W64 (2+(AA (AC.mk l 0) 5).1)):Int)=6))
abbrev Bx (t_:List (Nat×Tv)):List (Nat×Tv):=(4,tP 4 0)::(5,tP 14 0)::(6,tP 6 0)::t_
abbrev HW:List (Nat×Tv):=(Bx [(7,Z3W l)])
abbrev Nu:List (Nat×Tv):=(Bx [(7,Z3W l),(8,tI v8),(9,tP 9 0)])
abbrev Iz:Nat×Blk:=(100000,.row 7 v6_1.length (AU A1.c v6_1) 118)
abbrev WI:List Cl:=[.s (Af v8),.i (zzc24 v5 v8),lst 7 AO.c (Z4h v5 v8),.i (zzc27 v5 v8),.i (W64 (30*v8)),.i (W64 (10*(AA v5 2).1)),.i (W64 ((W64 (2*(AA (Z4g v5) 4).1))*(AA (AA (Z4g v5) 4).2 2).1))]
abbrev PR:List (Nat×Tv):=(Bx [(7,Z3W l),(8,tI 0)])
abbrev ME:List (Nat×Tv):=[(4,tP 4 0),(6,tP 6 0)]
abbrev L8:Nat×Tv:=(7,tI (W64 (2+(HU l).1)))
abbrev O2:Nat×Blk:=(14,.cells (AC.c (Z4k v5)) 146)
abbrev L6:Nat×Blk:=(14,.cells (AC.c v5) 146)
abbrev Oy (name:ByteArray) (v6_1:List A1) (l:List Int) (v5:AC) (t_:List (Nat×Blk)):List (Nat×Blk):=(4,Z3U)::(6,Z4J name v6_1 l v5)::(14,.cells (AC.c (Z4q l v5)) 146)::(100000,Z46 v6_1)::t_
abbrev Ox (name:ByteArray) (v6_1:List A1) (l:List Int) (v5:AC) (t_:List (Nat×Blk)):List (Nat×Blk):=(4,Z3U)::(6,Z4L name v6_1 l v5)::(14,.cells (AC.c (Z4y l v5)) 146)::(100000,Z46 v6_1)::t_
set_option maxHeartbeats 2000000 in
theorem ZJ (l:(List Int)) (name:ByteArray) (hl:(l.length:Int)<=9223372036854775807):PuP 52 (IG l name).2.1 (.av (.agg (AQ.c (A0 l name)))):=by
 refine pwf Try.func52 fun W0 M0 => ?_
 have hd0:=Ca hl
 refine AB<|rn ⟨[(0,tO (lst 1 eIn l)),(1,tO (.s name)),(4,tP 4 0)],[(4,Z3U)]⟩<|AB ?_
 refine rn ⟨[(1,tO (.s name)),(4,tP 4 0),(5,tP 14 0)],[(4,Z3U),(14,.cells [lst 1 eIn l,.i 0] 146)]⟩<|AB ?_
 refine rn ⟨(Bx []),[(4,Z3U),(6,.cells [.s name,vN,vN] 114),(14,.cells [lst 1 eIn l,.i 0] 146)]⟩<|AB ?_
 refine rb 18 (Z3V l) (.cells [lst 1 eIn l,.i 0] 146) ⟨(HW l),[(4,Z3U),(6,.cells [.s name,vN,vN] 114),(14,Z3X l)]⟩ (cWr (BS (AC.mk l 0) 5 au5 au8))<|AH ?_
 refine AB<|AB ?_
 refine rn ⟨(PR l),[(4,Z3U),(6,.cells [.s name,vN,vN] 114),(14,Z3X l)]⟩<|AX ?_
 refine BN (Cv.trans (wg (⟨(PR l),[(100000,.row 7 0 (fun _ _=>default) 118),(4,Z3U),(6,.cells [.s name,.own 100000 7 0,vN] 114),(14,Z3X l)]⟩) 100000 7 (fun _ _=>default) 118 [] [(6,[1])] hk0) (Cv.trans (BF (⟨(PR l),[(100000,Z43),(4,Z3U),(6,Z44 name),(14,Z3X l)]⟩) lr (.cons ⟨rfl,Ai 118 (B8 7 (fun _ _=>default) A1.c)⟩ (.cons ⟨rfl,.refl _⟩ (.cons ⟨rfl,.cells _ (rr (.cons (.own _ _ au0) (rr .nil)))⟩ lr)))) (Cv.trans (ck (⟨(PR l),[(4,Z3U),(6,Z44 name),(14,Z3X l),(100000,Z43)]⟩)) (Cv.refl _)))) ?_
 refine BH (ι:=Nat×List A1×AC×Int) (fun x=>⟨(Bx [(7,Z3W l),(8,tI x.2.2.2)]),[(4,Z3U),(6,.cells [.s name,.own 100000 7 x.2.1.length,vN] 114),(14,.cells (AC.c x.2.2.1) 146),(100000,.row 7 x.2.1.length (AU A1.c x.2.1) 118)]⟩) (fun x=>((W64 (2+(AA (AC.mk l 0) 5).1))-x.2.2.2).toNat<x.1/\(Bf x.2.2.1/\0<=x.2.2.2/\(x.2.2.2<=(W64 (2+(AA (AC.mk l 0) 5).1))\/x.2.2.2=0)/\(x.2.1.length:Int)<=0+1*(x.2.2.2-0))/\Ct l name x.1 x.2.1 x.2.2.1 x.2.2.2=A0 l name) (fun x=>x.1) ?_ (((W64 (2+(AA (AC.mk l 0) 5).1))-0).toNat+1,([]:List A1),(AA (AC.mk l 0) 5).2,0) ⟨Nat.lt_succ_self _,⟨(by show Bf ((AA (AC.mk l 0) 5).2);repeat (first | with_reducible assumption | exact Ca (DD hll _) | with_reducible refine BR ?_ | with_reducible refine D6 ?_ | with_reducible refine DQ ?_ | with_reducible refine C6 ?_  | with_reducible refine Ci ?_ ?_)),ax0,ax0,ax0⟩,(by simp only [A0,cond_true,cond_false])⟩
 rintro ⟨n0,v6_1,v5,v8⟩ ⟨hm0,hinv0,hF0⟩
 try dsimp only at hm0 hinv0 hF0
 cases n0 with | zero=>exact nz hm0 | succ n0 => ?_
 have hi0_0:=hinv0.1
 refine AB<|AB ?_
 refine rn ⟨(Bx [(7,Z3W l),(8,tI v8),(22,tB (decide ((v8:Int)<(W64 (2+(AA (AC.mk l 0) 5).1)))))]),[(4,Z3U),(6,Z45 name v6_1),(L6 v5),(100000,Z46 v6_1)]⟩ ?_
 refine Aa _ rfl (fun h1 => ?_) (fun h1 => ?_)
 ·have g1:=oT h1
  have k1:=QB g1 (by decide) (by decide) (by decide) (by decide)
  have kk1:=M8 g1 (by decide) (by decide) (by decide) (by decide)
  refine Ac<|AH ?_
  refine AB<|AX<|AB ?_
  refine rc [(26,CN v8),(30,(Z47 v5))] [Aw (CN v8).2.1,Aw (Z47 v5).2.1,Bu (KM v5)] ⟨(Nu l v8),[(4,Z3U),(6,Z45 name v6_1),(9,Z48 v8 v5),(14,.cells (AC.c (AA v5 2).2) 146),(100000,Z46 v6_1)]⟩ (.cons (Dy v8 au9) (.cons (cWr (BS v5 2 au5 au8)) .nil)) (.cons rfl (.cons rfl (.cons rfl .nil)))<|AH<|AB ?_
  refine rn ⟨(Bx [(7,Z3W l),(8,tI v8),(9,tP 9 0),(10,tP 10 0)]),[(4,Z3U),(6,Z45 name v6_1),(9,Z48 v8 v5),(10,Z49 v8 v5),(14,.cells (AC.c (AA v5 2).2) 146),(100000,Z46 v6_1)]⟩ ?_
  refine AB<|AB ?_
  refine rb 37 (Z4a v5) (KV v5) ⟨(Bx [(7,Z3W l),(8,tI v8),(9,tP 9 0),(10,tP 10 0),(37,tI (GU v5).1)]),[(4,Z3U),(6,Z45 name v6_1),(9,Z48 v8 v5),(10,Z49 v8 v5),(14,Z4b v5),(100000,Z46 v6_1)]⟩ (cWr (BS (AA v5 2).2 3 au5 au8))<|AH ?_
  refine Bz (⟨(Bx [(L8 l),(8,tI v8),(9,tP 9 0)]),[Co,(6,.cells [.s name,.own 100000 7 v6_1.length,vN] 114),(9,.cells [.s (Af v8),.i (bif decide (((GU v5).1:Int)=0) then (Z4c v8 v5).Kind else (bif decide (((GU v5).1:Int)=1) then (Z4f v8 v5).Kind else 1)),lst 7 AO.c (Z4h v5 v8),.i (bif decide (((GU v5).1:Int)=0) then (Z4c v8 v5).R else (bif decide (((GU v5).1:Int)=1) then (Z4f v8 v5).R else 4)),.i (W64 (30*v8)),.i (W64 (10*(AA v5 2).1)),.i 0] 118),(14,.cells (AC.c (Z4g v5)) 146),(Iz v6_1)]⟩) ?_ ?_
  ·refine AX<|AB ?_
   refine rn ⟨(Bx [(7,Z3W l),(8,tI v8),(9,tP 9 0),(10,tP 10 0),(37,tI (GU v5).1),(54,tB (decide (((AA (AA v5 2).2 3).1:Int)=0)))]),[(4,Z3U),(6,Z45 name v6_1),(9,Z48 v8 v5),(10,Z49 v8 v5),(14,Z4b v5),(100000,Z46 v6_1)]⟩ ?_
   refine Aa _ rfl (fun h2 => ?_) (fun h2 => ?_)
   ·refine rs 69 (HG (Al.mk (W64 ((W64 (30*v8))-6)) (W64 ((W64 (10*(AA v5 2).1))-6)) (W64 ((W64 (30*v8))+6)) (W64 ((W64 (10*(AA v5 2).1))+6)))) ⟨(Nu l v8),[(4,Z3U),(6,Z45 name v6_1),(9,.cells [.s (Af v8),.i (Z4c v8 v5).Kind,lst 7 AO.c (Z4c v8 v5).Edges,.i (Z4c v8 v5).R,.i (W64 (30*v8)),.i (W64 (10*(AA v5 2).1)),.i 0] 118),(14,Z4b v5),(100000,Z46 v6_1)]⟩ (Lj (Al.mk (W64 ((W64 (30*v8))-6)) (W64 ((W64 (10*(AA v5 2).1))-6)) (W64 ((W64 (30*v8))+6)) (W64 ((W64 (10*(AA v5 2).1))+6))))<|Bd<|AH ?_
    refine A6 ?_
    first | rfl | (simp only [h2,Z4g,Z4h,cond_true,cond_false] <;> rfl)
   have g2:=oF h2
   refine AB<|rn ⟨(Bx [(7,Z3W l),(8,tI v8),(9,tP 9 0),(10,tP 10 0),(71,tB (decide (((AA (AA v5 2).2 3).1:Int)=1)))]),[(4,Z3U),(6,Z45 name v6_1),(9,Z48 v8 v5),(10,Z49 v8 v5),(14,Z4b v5),(100000,Z46 v6_1)]⟩ ?_
   refine Aa _ rfl (fun h3 => ?_) (fun h3 => ?_)
   ·have g3:=oT h3
    refine dw [] [(75,(Z4d v5)),(77,Kv (AD.mk (W64 (30*v8)) (W64 (10*(AA v5 2).1))) (W64 (4+(AA (GU v5).2 3).1)))] [Aw (Z4d v5).2.1,Bu (.cells (AC.c (AA (AA v5 2).2 3).2) 146),Aw (Kv (AD.mk (W64 (30*v8)) (W64 (10*(AA v5 2).1))) (W64 (4+(AA (AA (AA v5 2).2 3).2 3).1))).2.1] ⟨(Nu l v8),[(4,Z3U),(6,Z45 name v6_1),(9,.cells [.s (Af v8),.i (Z4f v8 v5).Kind,lst 7 AO.c (Z4f v8 v5).Edges,.i (Z4f v8 v5).R,.i (W64 (30*v8)),.i (W64 (10*(AA v5 2).1)),.i 0] 118),(14,.cells (AC.c (Z4e v5)) 146),(100000,Z46 v6_1)]⟩ (.cons (cWr (BS (AA (AA v5 2).2 3).2 3 au5 au8)) (.cons (T4 (AD.mk (W64 (30*v8)) (W64 (10*(AA v5 2).1))) (W64 (4+(AA (AA (AA v5 2).2 3).2 3).1))) .nil)) (.cons rfl (.cons rfl (.cons rfl .nil)))<|Bd<|AH ?_
    refine A6 ?_
    first | rfl | (simp only [h2,h3,Z4g,Z4h,cond_true,cond_false] <;> rfl)
   refine rg ⟨(Nu l v8),[(4,Z3U),(6,Z45 name v6_1),(9,.cells [.s (Af v8),.i 1,.list true 7 1 (As 7 1 [.i 1,.i (W64 ((W64 (30*v8))-2)),.i (W64 (10*(AA v5 2).1)),.i (W64 ((W64 (30*v8))+2)),.i (W64 (10*(AA v5 2).1)),.i 0,.i 0]),.i 4,.i (W64 (30*v8)),.i (W64 (10*(AA v5 2).1)),.i 0] 118),(14,Z4b v5),(100000,Z46 v6_1)]⟩<|Bd<|AH ?_
   refine Cv.trans (BF (⟨(Nu l v8),[(4,Z3U),(6,Z45 name v6_1),(9,.cells [.s (Af v8),.i 1,lst 7 AO.c [AO.mk 1 (AD.mk (W64 ((W64 (30*v8))-2)) (W64 (10*(AA v5 2).1))) (AD.mk (W64 ((W64 (30*v8))+2)) (W64 (10*(AA v5 2).1))) (AD.mk 0 0)],.i 4,.i (W64 (30*v8)),.i (W64 (10*(AA v5 2).1)),.i 0] 118),(14,Z4b v5),(100000,Z46 v6_1)]⟩) lr (.cons ⟨rfl,.refl _⟩ (.cons ⟨rfl,.refl _⟩ (.cons ⟨rfl,.cells _ (rr2 (.cons (Bk true (Ar (c:=AO.c) (xs:=([AO.mk 1 (AD.mk (W64 ((W64 (30*v8))-2)) (W64 (10*(AA v5 2).1))) (AD.mk (W64 ((W64 (30*v8))+2)) (W64 (10*(AA v5 2).1))) (AD.mk 0 0)]:List AO)) rfl kr)) (rr (rr (rr (rr .nil))))))⟩ lr)))) (A6 ?_)
   first | rfl | (simp only [h2,h3,Z4g,Z4h,cond_true,cond_false] <;> rfl)
  refine AB<|rc [(80,(Z4i v5)),(83,(Z4j v5))] [Aw (Z4i v5).2.1,Bu (.cells (AC.c (Z4g v5)) 146),Aw (Z4j v5).2.1,Bu (.cells (AC.c (AA (Z4g v5) 4).2) 146)] ⟨(Nu l v8),[(4,Z3U),(6,Z45 name v6_1),(9,.cells (WI v8 v5) 118),(O2 v5),(100000,Z46 v6_1)]⟩ (.cons (cWr (BS (Z4g v5) 4 au5 au8)) (.cons (cWr (BS (AA (Z4g v5) 4).2 2 au5 au8)) .nil)) (.cons rfl (.cons rfl (.cons rfl (.cons rfl .nil))))<|AH ?_
  refine rc [] [v6_1.length=v6_1.length,v6_1.length+1<=maxLen,(v6_1.length+1)*80<=140737488355328] ⟨(Bx [(7,Z3W l),(8,tI v8)]),[(4,Z3U),(6,.cells [.s name,.own 90 7 (v6_1.length+1),vN] 114),(O2 v5),(90,.row 7 (v6_1.length+1) (fun i_ j_=>if i_<v6_1.length then (AU A1.c v6_1) i_ j_ else (As 7 1 (WI v8 v5)) (i_-v6_1.length) j_) 118)]⟩ .nil (.cons rfl (.cons au3 (.cons au3 .nil)))<|Bd<|AH ?_
  refine BN (Cv.trans (BF (⟨(Bx [(7,Z3W l),(8,tI v8)]),[(4,Z3U),(6,.cells [.s name,.own 90 7 (Un v6_1 v8 v5).length,vN] 114),(O2 v5),(90,.row 7 (Un v6_1 v8 v5).length (AU A1.c (Un v6_1 v8 v5)) 118)]⟩) lr (.cons ⟨rfl,.refl _⟩ (.cons ⟨rfl,.cells _ (rr (.cons (.own _ _ au0) (rr .nil)))⟩ (.cons ⟨rfl,.refl _⟩ (.cons ⟨rfl,Ai 118 (BO (BA 7 A1.c v6_1) (Ar (c:=A1.c) (xs:=([A1.mk (Af v8) (Ah.mk (bif decide (((AA (AA v5 2).2 3).1:Int)=0) then (Z4c v8 v5).Kind else (bif decide (((AA (AA v5 2).2 3).1:Int)=1) then (Z4f v8 v5).Kind else 1)) (Z4h v5 v8) (bif decide (((AA (AA v5 2).2 3).1:Int)=0) then (Z4c v8 v5).R else (bif decide (((AA (AA v5 2).2 3).1:Int)=1) then (Z4f v8 v5).R else 4))) (AD.mk (W64 (30*v8)) (W64 (10*(AA v5 2).1))) (W64 ((W64 (2*(AA (Z4g v5) 4).1))*(AA (AA (Z4g v5) 4).2 2).1))]:List A1)) rfl kr))⟩ .nil))))) (Cv.refl _)) ?_
  refine rg ⟨(Bx [(7,Z3W l),(8,tI (W64 (v8+1)))]),[(4,Z3U),(6,.cells [.s name,.own 90 7 (Un v6_1 v8 v5).length,vN] 114),(O2 v5),(90,.row 7 (Un v6_1 v8 v5).length (AU A1.c (Un v6_1 v8 v5)) 118)]⟩ ?_
  (try rw [(show W64 (v8+1)=v8+1 from Ao oM au6)])
  refine AH ?_
  refine ⟨(n0,v6_1++[A1.mk (Af v8) (Ah.mk (bif decide (((AA (AA v5 2).2 3).1:Int)=0) then (Z4c v8 v5).Kind else (bif decide (((AA (AA v5 2).2 3).1:Int)=1) then (Z4f v8 v5).Kind else 1)) (Z4h v5 v8) (bif decide (((AA (AA v5 2).2 3).1:Int)=0) then (Z4c v8 v5).R else (bif decide (((AA (AA v5 2).2 3).1:Int)=1) then (Z4f v8 v5).R else 4))) (AD.mk (W64 (30*v8)) (W64 (10*(AA v5 2).1))) (W64 ((W64 (2*(AA (Z4g v5) 4).1))*(AA (AA (Z4g v5) 4).2 2).1))],Z4k v5,v8+1),⟨?_,?_,(by rw [<- hF0];simp only [Ct,h1,cond_true,cond_false])⟩,Nat.lt_succ_self _,Cv.trans (vr 90 100000 hk0) (A6 kr)⟩
  ·show ((W64 (2+(AA (AC.mk l 0) 5).1))-(v8+1)).toNat<n0;omega
  exact ⟨(by show Bf (Z4k v5);repeat (first | with_reducible assumption | exact Ca (DD hll _) | with_reducible refine BR ?_ | with_reducible refine D6 ?_ | with_reducible refine DQ ?_ | with_reducible refine C6 ?_  | with_reducible refine Ci ?_ ?_)),ax0,ax0,ax0⟩
 have g1:=oF h1
 have k1:=QL g1 (by decide) (by decide) (by decide) (by decide)
 refine BJ<|A4 ?_
 refine A4<|BK ?_
 refine AH<|AB<|AB ?_
 refine Bz (⟨(Bx [(L8 l),(98,tB (bif decide (((W64 (2+(AA (AC.mk l 0) 5).1)):Int)<4) then (bif decide (((W64 (2+(AA (AC.mk l 0) 5).1)):Int)<4) then decide ((0:Int)<(AA v5 3).1) else false) else (bif decide (((W64 (2+(AA (AC.mk l 0) 5).1)):Int)<4) then false else false)))]),[Co,(6,.cells [.s name,.own 100000 7 v6_1.length,vN] 114),(14,.cells (AC.c (Z4m l v5)) 146),(Iz v6_1)]⟩) ?_ ?_
 ·refine R0 (GV l) (fun h2 => ?_) (fun h2 => ?_)
  ·have g2:=oT h2
   refine Ey ?_
   refine IH D9 4 [] [] [] [4,5,6,7,94,95] [4,6,14,100000] [] ⟨(Bx [(7,Z3W l),(94,Z3Y l),(95,Z3Z l)]),[(4,Z3U),(6,Z45 name v6_1),(L6 v5),(100000,Z46 v6_1)]⟩ .nil kr .nil ?_
   refine NV D9 2 true ((GV l)=true) [] [(96,(Z4l v5))] [((GV l)=true)->((GV l)=true),Aw (Z4l v5).2.1,Bu (KM v5)] ⟨(Bx [(7,Z3W l),(94,Z3Y l),(95,Z3Z l),(96,tI (AA v5 3).1)]),[(4,Z3U),(6,Z45 name v6_1),(14,.cells (AC.c (AA v5 3).2) 146),(100000,Z46 v6_1)]⟩ rfl kr h2 (.cons (cWr (BS v5 3 au5 au8)) .nil) kr (.cons id (.cons rfl (.cons rfl .nil))) ?_
   refine Gl D9 [] [] [] [4,5,6,7,98] [4,6,14,100000] [(GV l)=true->((GV l)=true)] ⟨(Bx [(7,Z3W l),(98,tB (bif decide (((W64 (2+(HU l).1)):Int)<4) then decide ((0:Int)<(AA v5 3).1) else false))]),[(4,Z3U),(6,Z45 name v6_1),(14,.cells (AC.c (AA v5 3).2) 146),(100000,Z46 v6_1)]⟩ .nil kr (.cons id .nil)<|AH ?_
   refine A6 ?_
   first | rfl | (simp only [h2,Z4m,cond_true,cond_false] <;> rfl)
  have g2:=oF h2
  refine Ey ?_
  refine IH D9 4 [] [] [] [4,5,6,7,94,95] [4,6,14,100000] [] ⟨(Bx [(7,Z3W l),(94,Z3Y l),(95,Z3Z l)]),[(4,Z3U),(6,Z45 name v6_1),(L6 v5),(100000,Z46 v6_1)]⟩ .nil kr .nil ?_
  refine NW 2 true ((GV l)=true) ⟨(Bx [(7,Z3W l),(94,Z3Y l),(95,Z3Z l),(96,.grd ((GV l)=true) (.one (.b false)))]),[(4,Z3U),(6,Z45 name v6_1),(L6 v5),(100000,Z46 v6_1)]⟩ rfl kr (fun e=>by rw [h2] at e;cases e) kr kr ?_
  refine Gl D9 [] [] [] [4,5,6,7,98] [4,6,14,100000] [¬ ((GV l)=true),(GV l)=true->((GV l)=true)] ⟨(Bx [(7,Z3W l),(98,tB (bif decide (((W64 (2+(HU l).1)):Int)<4) then false else false))]),[(4,Z3U),(6,Z45 name v6_1),(L6 v5),(100000,Z46 v6_1)]⟩ .nil kr (.cons (fun e=>by rw [h2] at e;cases e) (.cons id .nil))<|AH ?_
  refine A6 ?_
  first | rfl | (simp only [h2,Z4m,cond_true,cond_false] <;> rfl)
 refine Bz (⟨(Bx [(L8 l)]),[Co,(6,.cells [.s name,.own 100000 7 v6_1.length,.own 100001 2 (Z4r l v5).length] 114),(14,.cells (AC.c (Z4q l v5)) 146),(Iz v6_1),(100001,.row 2 (Z4r l v5).length (AU Az.c (Z4r l v5)) 157)]⟩) ?_ ?_
 ·refine Aa (bif decide (((W64 (2+(AA (AC.mk l 0) 5).1)):Int)<4) then (bif decide (((W64 (2+(AA (AC.mk l 0) 5).1)):Int)<4) then decide ((0:Int)<(AA v5 3).1) else false) else (bif decide (((W64 (2+(AA (AC.mk l 0) 5).1)):Int)<4) then false else false)) kr (fun h2 => ?_) (fun h2 => ?_)
  ·refine DW D9 [107] [] [(99,CN 0),(101,CN 1),(103,(Z4n l v5))] [4,5,6,7] [4,6,14,107,100000] [Aw (CN 0).2.1,Aw (CN 1).2.1,Aw (Z4n l v5).2.1,Bu (.cells (AC.c (Z4m l v5)) 146)] ⟨(HW l),[(4,Z3U),(6,.cells [.s name,.own 100000 7 v6_1.length,.own 107 2 1] 114),(14,Z4o l v5),(107,.row 2 1 (As 2 1 [.i 0,.list true 2 2 (As 2 2 [.s (Af 0),.i 1,.s (Af 1),.i (AA (Z4m l v5) 2).1])]) 157),(100000,Z46 v6_1)]⟩ (.cons (Dy 0 au9) (.cons (Dy 1 au9) (.cons (cWr (BS (Z4m l v5) 2 au5 au8)) .nil))) kr (.cons rfl (.cons rfl (.cons rfl (.cons rfl .nil))))<|AH ?_
   refine Cv.trans (BF (⟨(HW l),[(4,Z3U),(6,.cells [.s name,.own 100000 7 v6_1.length,.own 107 2 ([Az.mk 0 [Bm.mk (Af 0) 1,Bm.mk (Af 1) (AA (Z4m l v5) 2).1]].length)] 114),(14,Z4o l v5),(107,Z4p l v5),(100000,Z46 v6_1)]⟩) lr (.cons ⟨rfl,.refl _⟩ (.cons ⟨rfl,.cells _ (rr2 (.cons (.own _ _ au0) .nil))⟩ (.cons ⟨rfl,.refl _⟩ (.cons ⟨rfl,Ai 157 (ES (c:=Az.c) (xs:=([Az.mk 0 [Bm.mk (Af 0) 1,Bm.mk (Af 1) (AA (Z4m l v5) 2).1]]:List Az)) (y:=[[.i 0,.list true 2 2 (As 2 2 [.s (Af 0),.i 1,.s (Af 1),.i (AA (Z4m l v5) 2).1])]]) (z:=[[.i 0,lst 2 Bm.c [Bm.mk (Af 0) 1,Bm.mk (Af 1) (AA (Z4m l v5) 2).1]]]) rfl kr kr (.cons (rr (.cons (Bk true (Ar (c:=Bm.c) (xs:=([Bm.mk (Af 0) 1,Bm.mk (Af 1) (AA (Z4m l v5) 2).1]:List Bm)) rfl kr)) .nil)) .nil))⟩ lr))))) (Cv.trans (vr 107 100001 hk0) (Cv.trans (ck (⟨(HW l),[(4,Z3U),(6,Z4H name v6_1 l v5),(14,Z4o l v5),(100000,Z46 v6_1),(100001,Z4p l v5)]⟩)) (A6 ?_)))
   first | rfl | (simp only [h2,Z4q,Z4r,cond_true,cond_false] <;> rfl)
  refine Ac<|AH ?_
  refine Cv.trans (vk [4,5,6,7] [4,6,14,100000]) (Cv.trans (wg (⟨(HW l),[(100001,.row 2 0 (fun _ _=>default) 157),(4,Z3U),(6,.cells [.s name,.own 100000 7 v6_1.length,.own 100001 2 0] 114),(14,.cells (AC.c (Z4m l v5)) 146),(100000,Z46 v6_1)]⟩) 100001 2 (fun _ _=>default) 157 [] [(6,[2])] hk0) (Cv.trans (BF (⟨(HW l),[(100001,Z40),(4,Z3U),(6,Z4I name v6_1),(14,.cells (AC.c (Z4m l v5)) 146),(100000,Z46 v6_1)]⟩) lr (.cons ⟨rfl,Ai 157 (B8 2 (fun _ _=>default) Az.c)⟩ (.cons ⟨rfl,.refl _⟩ (.cons ⟨rfl,.cells _ (rr2 (.cons (.own _ _ au0) .nil))⟩ lr)))) (Cv.trans (ck (⟨(HW l),[(4,Z3U),(6,Z4I name v6_1),(14,.cells (AC.c (Z4m l v5)) 146),(100000,Z46 v6_1),(100001,Z40)]⟩)) (A6 ?_))))
  first | rfl | (simp only [h2,Z4q,Z4r,cond_true,cond_false] <;> rfl)
 refine AB<|AB ?_
 refine Bz (⟨(Bx [(L8 l),(115,tB (bif decide ((4:Int)<=(W64 (2+(AA (AC.mk l 0) 5).1))) then (bif decide ((4:Int)<=(W64 (2+(AA (AC.mk l 0) 5).1))) then decide ((0:Int)<(AA (Z4q l v5) 3).1) else false) else (bif decide ((4:Int)<=(W64 (2+(AA (AC.mk l 0) 5).1))) then false else false)))]),[Co,(6,.cells [.s name,.own 100000 7 v6_1.length,.own 100001 2 (Z4r l v5).length] 114),(14,.cells (AC.c (Z4u l v5)) 146),(Iz v6_1),(100001,.row 2 (Z4r l v5).length (AU Az.c (Z4r l v5)) 157)]⟩) ?_ ?_
 ·refine R0 (GW l) (fun h2 => ?_) (fun h2 => ?_)
  ·have g2:=oT h2
   refine Ey ?_
   refine IH D9 4 [] [] [] [4,5,6,7,111,112] [4,6,14,100000,100001] [] ⟨(Bx [(7,Z3W l),(111,Z41 l),(112,Z42 l)]),(Oy name v6_1 l v5 [(100001,Z4t l v5)])⟩ .nil kr .nil ?_
   refine NV D9 2 true ((GW l)=true) [] [(113,(Z4s l v5))] [((GW l)=true)->((GW l)=true),Aw (Z4s l v5).2.1,Bu (.cells (AC.c (Z4q l v5)) 146)] ⟨(Bx [(7,Z3W l),(111,Z41 l),(112,Z42 l),(113,tI (AA (Z4q l v5) 3).1)]),[(4,Z3U),(6,Z4J name v6_1 l v5),(14,.cells (AC.c (AA (Z4q l v5) 3).2) 146),(100000,Z46 v6_1),(100001,Z4t l v5)]⟩ rfl kr h2 (.cons (cWr (BS (Z4q l v5) 3 au5 au8)) .nil) kr (.cons id (.cons rfl (.cons rfl .nil))) ?_
   refine Gl D9 [] [] [] [4,5,6,7,115] [4,6,14,100000,100001] [(GW l)=true->((GW l)=true)] ⟨(Bx [(7,Z3W l),(115,tB (bif decide ((4:Int)<=(W64 (2+(HU l).1))) then decide ((0:Int)<(AA (Z4q l v5) 3).1) else false))]),[(4,Z3U),(6,Z4J name v6_1 l v5),(14,.cells (AC.c (AA (Z4q l v5) 3).2) 146),(100000,Z46 v6_1),(100001,Z4t l v5)]⟩ .nil kr (.cons id .nil)<|AH ?_
   refine A6 ?_
   first | rfl | (simp only [h2,Z4u,cond_true,cond_false] <;> rfl)
  have g2:=oF h2
  refine Ey ?_
  refine IH D9 4 [] [] [] [4,5,6,7,111,112] [4,6,14,100000,100001] [] ⟨(Bx [(7,Z3W l),(111,Z41 l),(112,Z42 l)]),(Oy name v6_1 l v5 [(100001,Z4t l v5)])⟩ .nil kr .nil ?_
  refine NW 2 true ((GW l)=true) ⟨(Bx [(7,Z3W l),(111,Z41 l),(112,Z42 l),(113,.grd ((GW l)=true) (.one (.b false)))]),(Oy name v6_1 l v5 [(100001,Z4t l v5)])⟩ rfl kr (fun e=>by rw [h2] at e;cases e) kr kr ?_
  refine Gl D9 [] [] [] [4,5,6,7,115] [4,6,14,100000,100001] [¬ ((GW l)=true),(GW l)=true->((GW l)=true)] ⟨(Bx [(7,Z3W l),(115,tB (bif decide ((4:Int)<=(W64 (2+(HU l).1))) then false else false))]),(Oy name v6_1 l v5 [(100001,Z4t l v5)])⟩ .nil kr (.cons (fun e=>by rw [h2] at e;cases e) (.cons id .nil))<|AH ?_
  refine A6 ?_
  first | rfl | (simp only [h2,Z4u,cond_true,cond_false] <;> rfl)
 refine Bz (⟨(Bx [(L8 l)]),[Co,(6,.cells [.s name,.own 100000 7 v6_1.length,.own 100002 2 (Z4z l v5).length] 114),(14,.cells (AC.c (Z4y l v5)) 146),(Iz v6_1),(100002,.row 2 (Z4z l v5).length (AU Az.c (Z4z l v5)) 157)]⟩) ?_ ?_
 ·refine Aa (bif decide ((4:Int)<=(W64 (2+(AA (AC.mk l 0) 5).1))) then (bif decide ((4:Int)<=(W64 (2+(AA (AC.mk l 0) 5).1))) then decide ((0:Int)<(AA (Z4q l v5) 3).1) else false) else (bif decide ((4:Int)<=(W64 (2+(AA (AC.mk l 0) 5).1))) then false else false)) kr (fun h2 => ?_) (fun h2 => ?_)
  ·refine AB<|rb 117 (Z4v l v5) (.cells (AC.c (Z4u l v5)) 146) ⟨(Bx [(7,Z3W l),(11,tI (FN l v5).1)]),[(4,Z3U),(6,Z4J name v6_1 l v5),(14,Z4w l v5),(100000,Z46 v6_1),(100001,Z4t l v5)]⟩ (cWr (BS (Z4u l v5) 2 au5 au8))<|AH ?_
   refine DW D9 [134] [] [(118,CN 0),(121,CN 1),(126,CN 2),(129,CN 3)] [4,5,6,7] [4,6,14,134,100000] [Aw (CN 0).2.1,Aw (CN 1).2.1,Aw (CN 2).2.1,Aw (CN 3).2.1] ⟨(HW l),[(4,Z3U),(6,.cells [.s name,.own 100000 7 v6_1.length,.own 134 2 2] 114),(14,Z4w l v5),(134,.row 2 2 (As 2 2 [.i 1,.list true 2 2 (As 2 2 [.s (Af 0),.i (FN l v5).1,.s (Af 1),.i (FN l v5).1]),.i 1,.list true 2 2 (As 2 2 [.s (Af 2),.i (FN l v5).1,.s (Af 3),.i (FN l v5).1])]) 157),(100000,Z46 v6_1)]⟩ (.cons (Dy 0 au9) (.cons (Dy 1 au9) (.cons (Dy 2 au9) (.cons (Dy 3 au9) .nil)))) kr (.cons rfl (.cons rfl (.cons rfl (.cons rfl .nil))))<|AH ?_
   refine Cv.trans (BF (⟨(HW l),[(4,Z3U),(6,.cells [.s name,.own 100000 7 v6_1.length,.own 134 2 ([Az.mk 1 [Bm.mk (Af 0) (AA (Z4u l v5) 2).1,Bm.mk (Af 1) (AA (Z4u l v5) 2).1],Az.mk 1 [Bm.mk (Af 2) (AA (Z4u l v5) 2).1,Bm.mk (Af 3) (AA (Z4u l v5) 2).1]].length)] 114),(14,Z4w l v5),(134,Z4x l v5),(100000,Z46 v6_1)]⟩) lr (.cons ⟨rfl,.refl _⟩ (.cons ⟨rfl,.cells _ (rr2 (.cons (.own _ _ au0) .nil))⟩ (.cons ⟨rfl,.refl _⟩ (.cons ⟨rfl,Ai 157 (ES (c:=Az.c) (xs:=([Az.mk 1 [Bm.mk (Af 0) (AA (Z4u l v5) 2).1,Bm.mk (Af 1) (AA (Z4u l v5) 2).1],Az.mk 1 [Bm.mk (Af 2) (AA (Z4u l v5) 2).1,Bm.mk (Af 3) (AA (Z4u l v5) 2).1]]:List Az)) (y:=[[.i 1,.list true 2 2 (As 2 2 [.s (Af 0),.i (AA (Z4u l v5) 2).1,.s (Af 1),.i (AA (Z4u l v5) 2).1])],[.i 1,.list true 2 2 (As 2 2 [.s (Af 2),.i (AA (Z4u l v5) 2).1,.s (Af 3),.i (AA (Z4u l v5) 2).1])]]) (z:=[[.i 1,lst 2 Bm.c [Bm.mk (Af 0) (AA (Z4u l v5) 2).1,Bm.mk (Af 1) (AA (Z4u l v5) 2).1]],[.i 1,lst 2 Bm.c [Bm.mk (Af 2) (AA (Z4u l v5) 2).1,Bm.mk (Af 3) (AA (Z4u l v5) 2).1]]]) rfl kr kr (.cons (rr (.cons (Bk true (Ar (c:=Bm.c) (xs:=([Bm.mk (Af 0) (AA (Z4u l v5) 2).1,Bm.mk (Af 1) (AA (Z4u l v5) 2).1]:List Bm)) rfl kr)) .nil)) (.cons (rr (.cons (Bk true (Ar (c:=Bm.c) (xs:=([Bm.mk (Af 2) (AA (Z4u l v5) 2).1,Bm.mk (Af 3) (AA (Z4u l v5) 2).1]:List Bm)) rfl kr)) .nil)) .nil)))⟩ lr))))) (Cv.trans (vr 134 100002 hk0) (Cv.trans (ck (⟨(HW l),[(4,Z3U),(6,Z4K name v6_1 l v5),(14,Z4w l v5),(100000,Z46 v6_1),(100002,Z4x l v5)]⟩)) (A6 ?_)))
   first | rfl | (simp only [h2,Z4y,Z4z,cond_true,cond_false] <;> rfl)
  refine Ac<|AH ?_
  refine Cv.trans (vk [4,5,6,7] [4,6,14,100000,100001]) (Cv.trans (wr (⟨(HW l),[(4,Z3U),(6,.cells [.s name,.own 100000 7 v6_1.length,.own 100002 2 (Z4r l v5).length] 114),(14,.cells (AC.c (Z4u l v5)) 146),(100000,Z46 v6_1),(100002,Z4t l v5)]⟩) 100001 100002 hk0) (A6 ?_))
  first | rfl | (simp only [h2,Z4y,Z4z,cond_true,cond_false] <;> rfl)
 refine AB<|AB ?_
 refine Bz (⟨(Bx [(148,tB (bif bif decide (((W64 (2+(AA (AC.mk l 0) 5).1)):Int)=6) then decide ((0:Int)<(((Z4z l v5).length:Nat):Int)) else false then (bif bif decide (((W64 (2+(AA (AC.mk l 0) 5).1)):Int)=6) then decide ((0:Int)<(((Z4z l v5).length:Nat):Int)) else false then decide (((AA (Z4y l v5) 2).1:Int)=1) else false) else (bif bif decide (((W64 (2+(AA (AC.mk l 0) 5).1)):Int)=6) then decide ((0:Int)<(((Z4z l v5).length:Nat):Int)) else false then false else false)))]),[Co,(6,.cells [.s name,.own 100000 7 v6_1.length,.own 100002 2 (Z4z l v5).length] 114),(14,.cells (AC.c (Z4C l v5)) 146),(Iz v6_1),(100002,.row 2 (Z4z l v5).length (AU Az.c (Z4z l v5)) 157)]⟩) ?_ ?_
 ·refine R0 (bif decide (((W64 (2+(AA (AC.mk l 0) 5).1)):Int)=6) then decide ((0:Int)<(((Z4z l v5).length:Nat):Int)) else false) (fun h2 => ?_) (fun h2 => ?_)
  ·have g2:=QX h2
   refine Ey ?_
   refine IH D9 10 [] [] [] [4,5,6,144,145] [4,6,14,100000,100002] [((FT l)=true)->((FT l)=true),((FT l)=true)->((FT l)=true),((FT l)=true)->((FT l)=true),(FT l)=true->((FT l)=true)] ⟨(Bx [(144,tB (Ja l v5)),(145,.grd ((Ja l v5)=true) KS)]),(Ox name v6_1 l v5 [(100002,Z4B l v5)])⟩ .nil kr (.cons id (.cons id (.cons id (.cons id .nil)))) ?_
   refine NV D9 8 true ((bif decide (((W64 (2+(AA (AC.mk l 0) 5).1)):Int)=6) then decide ((0:Int)<(((Z4z l v5).length:Nat):Int)) else false)=true) [] [(146,(Z4A l v5))] [((bif decide (((W64 (2+(AA (AC.mk l 0) 5).1)):Int)=6) then decide ((0:Int)<(((Z4z l v5).length:Nat):Int)) else false)=true)->((bif decide (((W64 (2+(AA (AC.mk l 0) 5).1)):Int)=6) then decide ((0:Int)<(((Z4z l v5).length:Nat):Int)) else false)=true),Aw (Z4A l v5).2.1,Bu (.cells (AC.c (Z4y l v5)) 146)] ⟨(Bx [(144,tB (Ja l v5)),(145,.grd ((Ja l v5)=true) KS),(146,tI (AA (Z4y l v5) 2).1)]),[(4,Z3U),(6,Z4L name v6_1 l v5),(14,.cells (AC.c (AA (Z4y l v5) 2).2) 146),(100000,Z46 v6_1),(100002,Z4B l v5)]⟩ rfl kr h2 (.cons (cWr (BS (Z4y l v5) 2 au5 au8)) .nil) kr (.cons id (.cons rfl (.cons rfl .nil))) ?_
   refine Gl D9 [] [] [] [4,5,6,148] [4,6,14,100000,100002] [(bif decide (((W64 (2+(AA (AC.mk l 0) 5).1)):Int)=6) then decide ((0:Int)<(((Z4z l v5).length:Nat):Int)) else false)=true->((bif decide (((W64 (2+(AA (AC.mk l 0) 5).1)):Int)=6) then decide ((0:Int)<(((Z4z l v5).length:Nat):Int)) else false)=true)] ⟨(Bx [(148,tB (bif bif decide (((W64 (2+(HU l).1)):Int)=6) then decide ((0:Int)<(((Z4z l v5).length:Nat):Int)) else false then decide (((AA (Z4y l v5) 2).1:Int)=1) else false))]),[(4,Z3U),(6,Z4L name v6_1 l v5),(14,.cells (AC.c (AA (Z4y l v5) 2).2) 146),(100000,Z46 v6_1),(100002,Z4B l v5)]⟩ .nil kr (.cons id .nil)<|AH ?_
   refine A6 ?_
   first | rfl | (simp only [h2,Z4C,cond_true,cond_false] <;> rfl)
  refine Ey ?_
  refine IH D9 10 [] [] [] [4,5,6,144,145] [4,6,14,100000,100002] [((FT l)=true)->((FT l)=true),((FT l)=true)->((FT l)=true),((FT l)=true)->((FT l)=true),(FT l)=true->((FT l)=true)] ⟨(Bx [(144,tB (Ja l v5)),(145,.grd ((Ja l v5)=true) KS)]),(Ox name v6_1 l v5 [(100002,Z4B l v5)])⟩ .nil kr (.cons id (.cons id (.cons id (.cons id .nil)))) ?_
  refine NW 8 true ((bif decide (((W64 (2+(AA (AC.mk l 0) 5).1)):Int)=6) then decide ((0:Int)<(((Z4z l v5).length:Nat):Int)) else false)=true) ⟨(Bx [(144,tB (Ja l v5)),(145,.grd ((Ja l v5)=true) KS),(146,.grd ((Ja l v5)=true) (.one (.b false)))]),(Ox name v6_1 l v5 [(100002,Z4B l v5)])⟩ rfl kr (fun e=>by rw [h2] at e;cases e) kr kr ?_
  refine Gl D9 [] [] [] [4,5,6,148] [4,6,14,100000,100002] [¬ ((bif decide (((W64 (2+(AA (AC.mk l 0) 5).1)):Int)=6) then decide ((0:Int)<(((Z4z l v5).length:Nat):Int)) else false)=true),(bif decide (((W64 (2+(AA (AC.mk l 0) 5).1)):Int)=6) then decide ((0:Int)<(((Z4z l v5).length:Nat):Int)) else false)=true->((bif decide (((W64 (2+(AA (AC.mk l 0) 5).1)):Int)=6) then decide ((0:Int)<(((Z4z l v5).length:Nat):Int)) else false)=true)] ⟨(Bx [(148,tB (bif bif decide (((W64 (2+(HU l).1)):Int)=6) then decide ((0:Int)<(((Z4z l v5).length:Nat):Int)) else false then false else false))]),(Ox name v6_1 l v5 [(100002,Z4B l v5)])⟩ .nil kr (.cons (fun e=>by rw [h2] at e;cases e) (.cons id .nil))<|AH ?_
  refine A6 ?_
  first | rfl | (simp only [h2,Z4C,cond_true,cond_false] <;> rfl)
 refine Bz (⟨ME,[Co,(6,.cells [.s name,.own 100000 7 v6_1.length,.own 100003 2 (Z4F l v5).length] 114),(Iz v6_1),(100003,.row 2 (Z4F l v5).length (AU Az.c (Z4F l v5)) 157)]⟩) ?_ ?_
 ·refine Aa (bif bif decide (((W64 (2+(AA (AC.mk l 0) 5).1)):Int)=6) then decide ((0:Int)<(((Z4z l v5).length:Nat):Int)) else false then (bif bif decide (((W64 (2+(AA (AC.mk l 0) 5).1)):Int)=6) then decide ((0:Int)<(((Z4z l v5).length:Nat):Int)) else false then decide (((AA (Z4y l v5) 2).1:Int)=1) else false) else (bif bif decide (((W64 (2+(AA (AC.mk l 0) 5).1)):Int)=6) then decide ((0:Int)<(((Z4z l v5).length:Nat):Int)) else false then false else false)) kr (fun h2 => ?_) (fun h2 => ?_)
  ·refine dw [] [(152,(Z4D l v5)),(153,CN 5),(163,CN 4)] [Aw (Z4D l v5).2.1,Bu (.cells (AC.c (Z4C l v5)) 146),Aw (CN 5).2.1,0<=(0:Int)/\(0:Int)<(((Z4z l v5).length:Nat):Int),0<(Z4z l v5).length,0<=(0:Int)/\(0:Int)<((((Z4z l v5).getD 0 default).Legs.length:Nat):Int),Aw (CN 4).2.1,0<=(0:Int)/\(0:Int)<(((Z4z l v5).length:Nat):Int),0<(Z4z l v5).length,0<=(1:Int)/\(1:Int)<((((Z4z l v5).getD 0 default).Legs.length:Nat):Int),(Z4z l v5).length=(Z4z l v5).length,(Z4z l v5).length+1<=maxLen,((Z4z l v5).length+1)*32<=140737488355328] ⟨ME,[(4,Z3U),(6,.cells [.s name,.own 100000 7 v6_1.length,.own 176 2 ((Z4z l v5).length+1)] 114),(176,.row 2 ((Z4z l v5).length+1) (fun i_ j_=>if i_<(Z4z l v5).length then (AU Az.c (Z4z l v5)) i_ j_ else (As 2 1 [.i (AA (Z4C l v5) 3).1,.list true 2 2 (As 2 2 [.s (Af 5),.i (((Z4z l v5).getD 0 default).Legs.getD 0 default).Group,.s (Af 4),.i (((Z4z l v5).getD 0 default).Legs.getD 1 default).Group])]) (i_-(Z4z l v5).length) j_) 157),(100000,Z46 v6_1)]⟩ (.cons (cWr (BS (Z4C l v5) 3 au5 au8)) (.cons (Dy 5 au9) (.cons (Dy 4 au9) .nil))) (.cons rfl (.cons rfl (.cons rfl (.cons ⟨by decide,(Gm (by with_reducible assumption))⟩ (.cons (UA (Gm (by with_reducible assumption))) (.cons (UP (by decide) rfl rfl rfl (Gm (by with_reducible assumption))) (.cons rfl (.cons ⟨by decide,(Gm (by with_reducible assumption))⟩ (.cons (UA (Gm (by with_reducible assumption))) (.cons (UP (by decide) rfl rfl rfl (Gm (by with_reducible assumption))) (.cons rfl (.cons (Xs (OU rfl)) (.cons (Xt (OU rfl)) .nil)))))))))))))<|AH ?_
   refine Cv.trans (BF (⟨ME,[(4,Z3U),(6,.cells [.s name,.own 100000 7 v6_1.length,.own 176 2 ((Z4z l v5)++[Az.mk (AA (Z4C l v5) 3).1 [Bm.mk (Af 5) (((Z4z l v5).getD 0 default).Legs.getD 0 default).Group,Bm.mk (Af 4) (((Z4z l v5).getD 0 default).Legs.getD 1 default).Group]]).length] 114),(176,Z4E l v5),(100000,Z46 v6_1)]⟩) lr (.cons ⟨rfl,.refl _⟩ (.cons ⟨rfl,.cells _ (rr2 (.cons (.own _ _ au0) .nil))⟩ (.cons ⟨rfl,Ai 157 (BO (BA 2 Az.c (Z4z l v5)) (ES (c:=Az.c) (xs:=([Az.mk (AA (Z4C l v5) 3).1 [Bm.mk (Af 5) (((Z4z l v5).getD 0 default).Legs.getD 0 default).Group,Bm.mk (Af 4) (((Z4z l v5).getD 0 default).Legs.getD 1 default).Group]]:List Az)) (y:=[[.i (AA (Z4C l v5) 3).1,.list true 2 2 (As 2 2 [.s (Af 5),.i (((Z4z l v5).getD 0 default).Legs.getD 0 default).Group,.s (Af 4),.i (((Z4z l v5).getD 0 default).Legs.getD 1 default).Group])]]) (z:=[[.i (AA (Z4C l v5) 3).1,lst 2 Bm.c [Bm.mk (Af 5) (((Z4z l v5).getD 0 default).Legs.getD 0 default).Group,Bm.mk (Af 4) (((Z4z l v5).getD 0 default).Legs.getD 1 default).Group]]]) rfl kr kr (.cons (rr (.cons (Bk true (Ar (c:=Bm.c) (xs:=([Bm.mk (Af 5) (((Z4z l v5).getD 0 default).Legs.getD 0 default).Group,Bm.mk (Af 4) (((Z4z l v5).getD 0 default).Legs.getD 1 default).Group]:List Bm)) rfl kr)) .nil)) .nil)))⟩ lr)))) (Cv.trans (vr 176 100003 hk0) (Cv.trans (ck (⟨ME,[(4,Z3U),(6,Z4M name v6_1 l v5),(100000,Z46 v6_1),(100003,Z4E l v5)]⟩)) (A6 ?_)))
   first | rfl | (simp only [h2,Z4F,cond_true,cond_false] <;> rfl)
  refine Ac<|AH ?_
  refine Cv.trans (vk [4,6] [4,6,100000,100002]) (Cv.trans (wr (⟨ME,[(4,Z3U),(6,.cells [.s name,.own 100000 7 v6_1.length,.own 100003 2 (Z4z l v5).length] 114),(100000,Z46 v6_1),(100003,Z4B l v5)]⟩) 100002 100003 hk0) (A6 ?_))
  first | rfl | (simp only [h2,Z4F,cond_true,cond_false] <;> rfl)
 refine AB<|rn ⟨[(4,tP 4 0)],[(4,.cells [.s name,.own 100000 7 v6_1.length,.own 100003 2 (Z4F l v5).length] 114),(100000,Z46 v6_1),(100003,Z4G l v5)]⟩<|Ae ?_
 exact yl (Cv.trans (vf 100000 7 v6_1.length (AU A1.c v6_1) 118 hk0 (.cons ⟨rfl,rfl⟩ .nil)) (Cv.trans (vf 100003 2 (Z4F l v5).length (AU Az.c (Z4F l v5)) 157 hk0 (.cons ⟨rfl,rfl⟩ .nil)) (Cv.refl _))) (.av (.agg [.s name,lst 7 A1.c v6_1,lst 2 Az.c (Z4F l v5)])) (An (by rw [<- hF0];first | (simp only [Ct,h1,cond_true,cond_false] <;> rfl)))
theorem RN (l:(List Int)) (name:ByteArray) (hl:(l.length:Int)<=9223372036854775807):OKc (IG l name):=cPu<|ZJ l name hl
def IK (x0:AD) (x1:AD):AO:=AO.mk 1 x0 x1 (AD.mk 0 0)
def E7:CT:=(80,[.agg (AD.c x0),.agg (AD.c x1)],.val [] (.av (.agg (AO.c (IK x0 x1)))))
theorem Y9 (x0:AD) (x1:AD):PuP 80 (E7 x0 x1).2.1 (.av (.agg (AO.c (IK x0 x1)))):=by
 refine pwf Try.func80 fun W0 M0 => ?_
 refine AB<|rn ⟨KZ,(V4 x0 x1)⟩<|AB ?_
 refine rn ⟨[(4,tP 4 0)],[(4,.cells (O9 x0 x1) 133)]⟩<|Ae ?_
 exact xl (.av (.agg (O9 x0 x1))) (An (by rfl))
theorem Jm (x0:AD) (x1:AD):OKc (E7 x0 x1):=cPu<|Y9 x0 x1
def Z4N:Blk:=.cells [.i 0,vN,.i 0] 29
def Z4O:Blk:=.cells [.i 2,vN,.i 0] 29
def Z4P:Blk:=.cells [.i (W64 (r.X1-radius)),.i (W64 (r.Y0+radius)),.i (W64 (r.X1-radius)),.i (W64 (r.Y1-radius)),.i (W64 (r.X0+radius)),.i (W64 (r.Y1-radius)),.i (W64 (r.X0+radius)),.i (W64 (r.Y0+radius))] 179
def Z4Q:AO:=EV (AD.mk (W64 (r.X1-radius)) (W64 (r.Y0+radius))) radius 3 2
def Z4R:AO:=EV (AD.mk (W64 (r.X1-radius)) (W64 (r.Y1-radius))) radius 4 2
def Z4S:Blk:=.cells (AO.c (Z4R r radius)) 133
def Z4T:AO:=IK (Z4Q r radius).B (Z4R r radius).A
def Z4U:Blk:=.cells [.i 2,.own 77 7 ([Z4Q r radius,Z4T r radius].length),.i 0] 29
def Z4V:Blk:=.row 7 ([Z4Q r radius,Z4T r radius].length) (AU AO.c [Z4Q r radius,Z4T r radius]) 133
def Z4W:Blk:=.cells [.i 2,.own 100000 7 ([Z4Q r radius,Z4T r radius].length),.i 0] 29
def Z4X:AO:=EV (AD.mk (W64 (r.X0+radius)) (W64 (r.Y1-radius))) radius 5 2
def Z4Y:Blk:=.cells (AO.c (Z4X r radius)) 133
def Z4Z:AO:=IK (Z4R r radius).B (Z4X r radius).A
def Z50:Blk:=.cells [.i 2,.own 77 7 ([Z4Q r radius,Z4T r radius]++[Z4R r radius,Z4Z r radius]).length,.i 0] 29
def Z51:Blk:=.row 7 ([Z4Q r radius,Z4T r radius]++[Z4R r radius,Z4Z r radius]).length (AU AO.c ([Z4Q r radius,Z4T r radius]++[Z4R r radius,Z4Z r radius])) 133
def Z52:Blk:=.cells [.i 2,.own 100001 7 ([Z4Q r radius,Z4T r radius]++[Z4R r radius,Z4Z r radius]).length,.i 0] 29
def Z53:AO:=EV (AD.mk (W64 (r.X0+radius)) (W64 (r.Y0+radius))) radius 6 2
def Z54:Blk:=.cells (AO.c (Z53 r radius)) 133
def Z55:AO:=IK (Z4X r radius).B (Z53 r radius).A
def Z56:Blk:=.cells [.i 2,.own 77 7 (([Z4Q r radius,Z4T r radius]++[Z4R r radius,Z4Z r radius])++[Z4X r radius,Z55 r radius]).length,.i 0] 29
abbrev V6:=AU AO.c (([Z4Q r radius,Z4T r radius]++[Z4R r radius,Z4Z r radius])++[Z4X r radius,Z55 r radius])
def Z57:Blk:=.row 7 (([Z4Q r radius,Z4T r radius]++[Z4R r radius,Z4Z r radius])++[Z4X r radius,Z55 r radius]).length (V6 r radius) 133
def Z58:Blk:=.cells [.i 2,.own 100002 7 (([Z4Q r radius,Z4T r radius]++[Z4R r radius,Z4Z r radius])++[Z4X r radius,Z55 r radius]).length,.i 0] 29
def Z59:AO:=EV (AD.mk (W64 (r.X1-radius)) (W64 (r.Y0+radius))) radius 7 2
def Z5a:AO:=IK (Z53 r radius).B (Z59 r radius).A
def Z5b:Blk:=.cells [.i 2,.own 77 7 ((([Z4Q r radius,Z4T r radius]++[Z4R r radius,Z4Z r radius])++[Z4X r radius,Z55 r radius])++[Z53 r radius,Z5a r radius]).length,.i 0] 29
def Z5c:Blk:=.row 7 ((([Z4Q r radius,Z4T r radius]++[Z4R r radius,Z4Z r radius])++[Z4X r radius,Z55 r radius])++[Z53 r radius,Z5a r radius]).length (AU AO.c ((([Z4Q r radius,Z4T r radius]++[Z4R r radius,Z4Z r radius])++[Z4X r radius,Z55 r radius])++[Z53 r radius,Z5a r radius])) 133
def Z5d:Blk:=.cells [.i 2,.own 100003 7 ((([Z4Q r radius,Z4T r radius]++[Z4R r radius,Z4Z r radius])++[Z4X r radius,Z55 r radius])++[Z53 r radius,Z5a r radius]).length,.i 0] 29
def Fg (r:Al) (radius:Int):Ah:=Ah.mk 2 ((([Z4Q r radius,Z4T r radius]++[Z4R r radius,Z4Z r radius])++[Z4X r radius,Z55 r radius])++[Z53 r radius,Z5a r radius]) 0
def Kt:CT:=(55,[.agg (Al.c r),.one (.i radius)],.val [] (.av (.agg (Ah.c (Fg r radius)))))
abbrev DS (t_:List (Nat×Tv)):List (Nat×Tv):=(1,tI radius)::(4,tP 4 0)::(5,tP 5 0)::(6,tP 6 0)::t_
abbrev PF:List (Nat×Tv):=(DS radius [(7,tI 1)])
abbrev PE:List (Nat×Tv):=(DS radius [(7,tI 2)])
abbrev PD:List (Nat×Tv):=(DS radius [(7,tI 3)])
abbrev SF:List (Nat×Tv):=(DS radius [(7,tI 0)])
theorem VB (r:Al) (radius:Int):PuP 55 (Kt r radius).2.1 (.av (.agg (Ah.c (Fg r radius)))):=by
 refine pwf Try.func55 fun W0 M0 => ?_
 refine AB<|rn ⟨[(1,tI radius),(2,tP 2 0),(4,tP 4 0)],[(2,.cells (Al.c r) 76),(4,Z4N)]⟩<|AB ?_
 refine rn ⟨[(1,tI radius),(2,tP 2 0),(4,tP 4 0),(5,tP 5 0)],[(2,.cells (Al.c r) 76),(4,Z4N),(5,Z4O)]⟩<|AB ?_
 refine rn ⟨(DS radius []),[(4,Z4N),(5,Z4O),(6,Z4P r radius)]⟩ ?_
 refine AB<|AB ?_
 refine rn ⟨(SF radius),[(4,Z4N),(5,Z4O),(6,Z4P r radius)]⟩<|AX ?_
 refine Ex 5 ?_
 refine DF<|AB<|AB ?_
 refine rn ⟨(DS radius [(7,tI 0),(49,tB true)]),[(4,Z4N),(5,Z4O),(6,Z4P r radius)]⟩ ?_
 refine DX kr<|Ac ?_
 refine AH<|AB ?_
 refine AX<|AB ?_
 refine rc [(58,CA (AD.mk (W64 (r.X1-radius)) (W64 (r.Y0+radius))) radius 3 2)] [0<=(0:Int)/\(0:Int)<(4:Int),Aw (CA (AD.mk (W64 (r.X1-radius)) (W64 (r.Y0+radius))) radius 3 2).2.1] ⟨(DS radius [(7,tI 0),(8,tP 8 0)]),[(4,Z4N),(5,Z4O),(6,Z4P r radius),(8,.cells (AO.c (Z4Q r radius)) 133)]⟩ (.cons (Dc (AD.mk (W64 (r.X1-radius)) (W64 (r.Y0+radius))) radius 3 2) .nil) (.cons (by decide) (.cons rfl .nil))<|AH<|AB ?_
 refine rc [(67,CA (AD.mk (W64 (r.X1-radius)) (W64 (r.Y1-radius))) radius 4 2)] [(4:Int)≠0,0<=(1:Int)/\(1:Int)<(4:Int),Aw (CA (AD.mk (W64 (r.X1-radius)) (W64 (r.Y1-radius))) radius 4 2).2.1] ⟨(DS radius [(7,tI 0),(8,tP 8 0),(9,tP 9 0)]),[(4,Z4N),(5,Z4O),(6,Z4P r radius),(8,.cells (AO.c (Z4Q r radius)) 133),(9,Z4S r radius)]⟩ (.cons (Dc (AD.mk (W64 (r.X1-radius)) (W64 (r.Y1-radius))) radius 4 2) .nil) (.cons au15 (.cons (by decide) (.cons rfl .nil)))<|AH ?_
 refine dw [] [(75,E7 (Z4Q r radius).B (Z4R r radius).A)] [Aw (E7 (Z4Q r radius).B (Z4R r radius).A).2.1,2<=maxLen,2*56<=140737488355328] ⟨(SF radius),[(4,Z4N),(5,.cells [.i 2,.own 77 7 2,.i 0] 29),(6,Z4P r radius),(77,.row 7 2 (As 7 2 [.i (Z4Q r radius).Kind,.i (Z4Q r radius).A.X,.i (Z4Q r radius).A.Y,.i (Z4Q r radius).B.X,.i (Z4Q r radius).B.Y,.i (Z4Q r radius).C.X,.i (Z4Q r radius).C.Y,.i (Z4T r radius).Kind,.i (Z4T r radius).A.X,.i (Z4T r radius).A.Y,.i (Z4T r radius).B.X,.i (Z4T r radius).B.Y,.i (Z4T r radius).C.X,.i (Z4T r radius).C.Y]) 133)]⟩ (.cons (Jm (Z4Q r radius).B (Z4R r radius).A) .nil) (.cons rfl (.cons au3 (.cons au3 .nil)))<|Bd<|AH ?_
 refine BN (Cv.trans (BF (⟨(SF radius),[(4,Z4N),(5,Z4U r radius),(6,Z4P r radius),(77,Z4V r radius)]⟩) lr (.cons ⟨rfl,.refl _⟩ (.cons ⟨rfl,.cells _ (rr (.cons (.own _ _ au0) (rr .nil)))⟩ (.cons ⟨rfl,.refl _⟩ (.cons ⟨rfl,Ai 133 (Ar (c:=AO.c) (xs:=([Z4Q r radius,Z4T r radius]:List AO)) rfl kr)⟩ .nil))))) (Cv.refl _)) ?_
 refine rn ⟨(PF radius),[(4,Z4N),(5,Z4U r radius),(6,Z4P r radius),(77,Z4V r radius)]⟩ ?_
 refine DF ?_
 refine BN (Cv.trans (wr (⟨(PF radius),[(4,Z4N),(5,Z4W r radius),(6,Z4P r radius),(100000,Z4V r radius)]⟩) 77 100000 hk0) (Cv.refl _))<|AB<|AB ?_
 refine rn ⟨(DS radius [(7,tI 1),(49,tB true)]),[(4,Z4N),(5,Z4W r radius),(6,Z4P r radius),(100000,Z4V r radius)]⟩ ?_
 refine DX kr<|Ac ?_
 refine AH<|AB ?_
 refine AX<|AB ?_
 refine rc [(58,CA (AD.mk (W64 (r.X1-radius)) (W64 (r.Y1-radius))) radius 4 2)] [0<=(1:Int)/\(1:Int)<(4:Int),Aw (CA (AD.mk (W64 (r.X1-radius)) (W64 (r.Y1-radius))) radius 4 2).2.1] ⟨(DS radius [(7,tI 1),(8,tP 8 0)]),[(4,Z4N),(5,Z4W r radius),(6,Z4P r radius),(8,Z4S r radius),(100000,Z4V r radius)]⟩ (.cons (Dc (AD.mk (W64 (r.X1-radius)) (W64 (r.Y1-radius))) radius 4 2) .nil) (.cons (by decide) (.cons rfl .nil))<|AH<|AB ?_
 refine rc [(67,CA (AD.mk (W64 (r.X0+radius)) (W64 (r.Y1-radius))) radius 5 2)] [(4:Int)≠0,0<=(2:Int)/\(2:Int)<(4:Int),Aw (CA (AD.mk (W64 (r.X0+radius)) (W64 (r.Y1-radius))) radius 5 2).2.1] ⟨(DS radius [(7,tI 1),(8,tP 8 0),(9,tP 9 0)]),[(4,Z4N),(5,Z4W r radius),(6,Z4P r radius),(8,Z4S r radius),(9,Z4Y r radius),(100000,Z4V r radius)]⟩ (.cons (Dc (AD.mk (W64 (r.X0+radius)) (W64 (r.Y1-radius))) radius 5 2) .nil) (.cons au15 (.cons (by decide) (.cons rfl .nil)))<|AH ?_
 refine dw [] [(75,E7 (Z4R r radius).B (Z4X r radius).A)] [Aw (E7 (Z4R r radius).B (Z4X r radius).A).2.1,[Z4Q r radius,Z4T r radius].length=[Z4Q r radius,Z4T r radius].length,([Z4Q r radius,Z4T r radius].length)+2<=maxLen,(([Z4Q r radius,Z4T r radius].length)+2)*56<=140737488355328] ⟨(PF radius),[(4,Z4N),(5,.cells [.i 2,.own 77 7 (([Z4Q r radius,Z4T r radius].length)+2),.i 0] 29),(6,Z4P r radius),(77,.row 7 (([Z4Q r radius,Z4T r radius].length)+2) (fun i_ j_=>if i_<([Z4Q r radius,Z4T r radius].length) then (AU AO.c [Z4Q r radius,Z4T r radius]) i_ j_ else (As 7 2 [.i (Z4R r radius).Kind,.i (Z4R r radius).A.X,.i (Z4R r radius).A.Y,.i (Z4R r radius).B.X,.i (Z4R r radius).B.Y,.i (Z4R r radius).C.X,.i (Z4R r radius).C.Y,.i (Z4Z r radius).Kind,.i (Z4Z r radius).A.X,.i (Z4Z r radius).A.Y,.i (Z4Z r radius).B.X,.i (Z4Z r radius).B.Y,.i (Z4Z r radius).C.X,.i (Z4Z r radius).C.Y]) (i_-([Z4Q r radius,Z4T r radius].length)) j_) 133)]⟩ (.cons (Jm (Z4R r radius).B (Z4X r radius).A) .nil) (.cons rfl (.cons rfl (.cons au3 (.cons au3 .nil))))<|Bd<|AH ?_
 refine BN (Cv.trans (BF (⟨(PF radius),[(4,Z4N),(5,Z50 r radius),(6,Z4P r radius),(77,Z51 r radius)]⟩) lr (.cons ⟨rfl,.refl _⟩ (.cons ⟨rfl,.cells _ (rr (.cons (.own _ _ au0) (rr .nil)))⟩ (.cons ⟨rfl,.refl _⟩ (.cons ⟨rfl,Ai 133 (BO (BA 7 AO.c [Z4Q r radius,Z4T r radius]) (Ar (c:=AO.c) (xs:=([Z4R r radius,Z4Z r radius]:List AO)) rfl kr))⟩ .nil))))) (Cv.refl _)) ?_
 refine rn ⟨(PE radius),[(4,Z4N),(5,Z50 r radius),(6,Z4P r radius),(77,Z51 r radius)]⟩ ?_
 refine DF ?_
 refine BN (Cv.trans (wr (⟨(PE radius),[(4,Z4N),(5,Z52 r radius),(6,Z4P r radius),(100001,Z51 r radius)]⟩) 77 100001 hk0) (Cv.refl _))<|AB<|AB ?_
 refine rn ⟨(DS radius [(7,tI 2),(49,tB true)]),[(4,Z4N),(5,Z52 r radius),(6,Z4P r radius),(100001,Z51 r radius)]⟩ ?_
 refine DX kr<|Ac ?_
 refine AH<|AB ?_
 refine AX<|AB ?_
 refine rc [(58,CA (AD.mk (W64 (r.X0+radius)) (W64 (r.Y1-radius))) radius 5 2)] [0<=(2:Int)/\(2:Int)<(4:Int),Aw (CA (AD.mk (W64 (r.X0+radius)) (W64 (r.Y1-radius))) radius 5 2).2.1] ⟨(DS radius [(7,tI 2),(8,tP 8 0)]),[(4,Z4N),(5,Z52 r radius),(6,Z4P r radius),(8,Z4Y r radius),(100001,Z51 r radius)]⟩ (.cons (Dc (AD.mk (W64 (r.X0+radius)) (W64 (r.Y1-radius))) radius 5 2) .nil) (.cons (by decide) (.cons rfl .nil))<|AH<|AB ?_
 refine rc [(67,CA (AD.mk (W64 (r.X0+radius)) (W64 (r.Y0+radius))) radius 6 2)] [(4:Int)≠0,0<=(3:Int)/\(3:Int)<(4:Int),Aw (CA (AD.mk (W64 (r.X0+radius)) (W64 (r.Y0+radius))) radius 6 2).2.1] ⟨(DS radius [(7,tI 2),(8,tP 8 0),(9,tP 9 0)]),[(4,Z4N),(5,Z52 r radius),(6,Z4P r radius),(8,Z4Y r radius),(9,Z54 r radius),(100001,Z51 r radius)]⟩ (.cons (Dc (AD.mk (W64 (r.X0+radius)) (W64 (r.Y0+radius))) radius 6 2) .nil) (.cons au15 (.cons (by decide) (.cons rfl .nil)))<|AH ?_
 refine dw [] [(75,E7 (Z4X r radius).B (Z53 r radius).A)] [Aw (E7 (Z4X r radius).B (Z53 r radius).A).2.1,([Z4Q r radius,Z4T r radius]++[Z4R r radius,Z4Z r radius]).length=([Z4Q r radius,Z4T r radius]++[Z4R r radius,Z4Z r radius]).length,([Z4Q r radius,Z4T r radius]++[Z4R r radius,Z4Z r radius]).length+2<=maxLen,(([Z4Q r radius,Z4T r radius]++[Z4R r radius,Z4Z r radius]).length+2)*56<=140737488355328] ⟨(PE radius),[(4,Z4N),(5,.cells [.i 2,.own 77 7 (([Z4Q r radius,Z4T r radius]++[Z4R r radius,Z4Z r radius]).length+2),.i 0] 29),(6,Z4P r radius),(77,.row 7 (([Z4Q r radius,Z4T r radius]++[Z4R r radius,Z4Z r radius]).length+2) (fun i_ j_=>if i_<([Z4Q r radius,Z4T r radius]++[Z4R r radius,Z4Z r radius]).length then (AU AO.c ([Z4Q r radius,Z4T r radius]++[Z4R r radius,Z4Z r radius])) i_ j_ else (As 7 2 [.i (Z4X r radius).Kind,.i (Z4X r radius).A.X,.i (Z4X r radius).A.Y,.i (Z4X r radius).B.X,.i (Z4X r radius).B.Y,.i (Z4X r radius).C.X,.i (Z4X r radius).C.Y,.i (Z55 r radius).Kind,.i (Z55 r radius).A.X,.i (Z55 r radius).A.Y,.i (Z55 r radius).B.X,.i (Z55 r radius).B.Y,.i (Z55 r radius).C.X,.i (Z55 r radius).C.Y]) (i_-([Z4Q r radius,Z4T r radius]++[Z4R r radius,Z4Z r radius]).length) j_) 133)]⟩ (.cons (Jm (Z4X r radius).B (Z53 r radius).A) .nil) (.cons rfl (.cons rfl (.cons au3 (.cons au3 .nil))))<|Bd<|AH ?_
 refine BN (Cv.trans (BF (⟨(PE radius),[(4,Z4N),(5,Z56 r radius),(6,Z4P r radius),(77,Z57 r radius)]⟩) lr (.cons ⟨rfl,.refl _⟩ (.cons ⟨rfl,.cells _ (rr (.cons (.own _ _ au0) (rr .nil)))⟩ (.cons ⟨rfl,.refl _⟩ (.cons ⟨rfl,Ai 133 (BO (BA 7 AO.c ([Z4Q r radius,Z4T r radius]++[Z4R r radius,Z4Z r radius])) (Ar (c:=AO.c) (xs:=([Z4X r radius,Z55 r radius]:List AO)) rfl kr))⟩ .nil))))) (Cv.refl _)) ?_
 refine rn ⟨(PD radius),[(4,Z4N),(5,Z56 r radius),(6,Z4P r radius),(77,Z57 r radius)]⟩ ?_
 refine DF ?_
 refine BN (Cv.trans (wr (⟨(PD radius),[(4,Z4N),(5,Z58 r radius),(6,Z4P r radius),(100002,Z57 r radius)]⟩) 77 100002 hk0) (Cv.refl _))<|AB<|AB ?_
 refine rn ⟨(DS radius [(7,tI 3),(49,tB true)]),[(4,Z4N),(5,Z58 r radius),(6,Z4P r radius),(100002,Z57 r radius)]⟩ ?_
 refine DX kr<|Ac ?_
 refine AH<|AB ?_
 refine AX<|AB ?_
 refine rc [(58,CA (AD.mk (W64 (r.X0+radius)) (W64 (r.Y0+radius))) radius 6 2)] [0<=(3:Int)/\(3:Int)<(4:Int),Aw (CA (AD.mk (W64 (r.X0+radius)) (W64 (r.Y0+radius))) radius 6 2).2.1] ⟨(DS radius [(7,tI 3),(8,tP 8 0)]),[(4,Z4N),(5,Z58 r radius),(6,Z4P r radius),(8,Z54 r radius),(100002,Z57 r radius)]⟩ (.cons (Dc (AD.mk (W64 (r.X0+radius)) (W64 (r.Y0+radius))) radius 6 2) .nil) (.cons (by decide) (.cons rfl .nil))<|AH<|AB ?_
 refine rc [(67,CA (AD.mk (W64 (r.X1-radius)) (W64 (r.Y0+radius))) radius 7 2)] [(4:Int)≠0,0<=(0:Int)/\(0:Int)<(4:Int),Aw (CA (AD.mk (W64 (r.X1-radius)) (W64 (r.Y0+radius))) radius 7 2).2.1] ⟨(DS radius [(7,tI 3),(8,tP 8 0),(9,tP 9 0)]),[(4,Z4N),(5,Z58 r radius),(6,Z4P r radius),(8,Z54 r radius),(9,.cells (AO.c (Z59 r radius)) 133),(100002,Z57 r radius)]⟩ (.cons (Dc (AD.mk (W64 (r.X1-radius)) (W64 (r.Y0+radius))) radius 7 2) .nil) (.cons au15 (.cons (by decide) (.cons rfl .nil)))<|AH ?_
 refine dw [] [(75,E7 (Z53 r radius).B (Z59 r radius).A)] [Aw (E7 (Z53 r radius).B (Z59 r radius).A).2.1,(([Z4Q r radius,Z4T r radius]++[Z4R r radius,Z4Z r radius])++[Z4X r radius,Z55 r radius]).length=(([Z4Q r radius,Z4T r radius]++[Z4R r radius,Z4Z r radius])++[Z4X r radius,Z55 r radius]).length,(([Z4Q r radius,Z4T r radius]++[Z4R r radius,Z4Z r radius])++[Z4X r radius,Z55 r radius]).length+2<=maxLen,((([Z4Q r radius,Z4T r radius]++[Z4R r radius,Z4Z r radius])++[Z4X r radius,Z55 r radius]).length+2)*56<=140737488355328] ⟨(PD radius),[(4,Z4N),(5,.cells [.i 2,.own 77 7 ((([Z4Q r radius,Z4T r radius]++[Z4R r radius,Z4Z r radius])++[Z4X r radius,Z55 r radius]).length+2),.i 0] 29),(6,Z4P r radius),(77,.row 7 ((([Z4Q r radius,Z4T r radius]++[Z4R r radius,Z4Z r radius])++[Z4X r radius,Z55 r radius]).length+2) (fun i_ j_=>if i_<(([Z4Q r radius,Z4T r radius]++[Z4R r radius,Z4Z r radius])++[Z4X r radius,Z55 r radius]).length then (V6 r radius) i_ j_ else (As 7 2 [.i (Z53 r radius).Kind,.i (Z53 r radius).A.X,.i (Z53 r radius).A.Y,.i (Z53 r radius).B.X,.i (Z53 r radius).B.Y,.i (Z53 r radius).C.X,.i (Z53 r radius).C.Y,.i (Z5a r radius).Kind,.i (Z5a r radius).A.X,.i (Z5a r radius).A.Y,.i (Z5a r radius).B.X,.i (Z5a r radius).B.Y,.i (Z5a r radius).C.X,.i (Z5a r radius).C.Y]) (i_-(([Z4Q r radius,Z4T r radius]++[Z4R r radius,Z4Z r radius])++[Z4X r radius,Z55 r radius]).length) j_) 133)]⟩ (.cons (Jm (Z53 r radius).B (Z59 r radius).A) .nil) (.cons rfl (.cons rfl (.cons au3 (.cons au3 .nil))))<|Bd<|AH ?_
 refine BN (Cv.trans (BF (⟨(PD radius),[(4,Z4N),(5,Z5b r radius),(6,Z4P r radius),(77,Z5c r radius)]⟩) lr (.cons ⟨rfl,.refl _⟩ (.cons ⟨rfl,.cells _ (rr (.cons (.own _ _ au0) (rr .nil)))⟩ (.cons ⟨rfl,.refl _⟩ (.cons ⟨rfl,Ai 133 (BO (BA 7 AO.c (([Z4Q r radius,Z4T r radius]++[Z4R r radius,Z4Z r radius])++[Z4X r radius,Z55 r radius])) (Ar (c:=AO.c) (xs:=([Z53 r radius,Z5a r radius]:List AO)) rfl kr))⟩ .nil))))) (Cv.refl _)) ?_
 refine rn ⟨(DS radius [(7,tI 4)]),[(4,Z4N),(5,Z5b r radius),(6,Z4P r radius),(77,Z5c r radius)]⟩ ?_
 refine DF ?_
 refine BN (Cv.trans (wr (⟨(DS radius [(7,tI 4)]),[(4,Z4N),(5,Z5d r radius),(6,Z4P r radius),(100003,Z5c r radius)]⟩) 77 100003 hk0) (Cv.refl _))<|AB<|AB ?_
 refine rn ⟨(DS radius [(7,tI 4),(49,tB false)]),[(4,Z4N),(5,Z5d r radius),(6,Z4P r radius),(100003,Z5c r radius)]⟩ ?_
 refine Di kr<|BJ ?_
 refine A4<|A4 ?_
 refine BK<|AH<|AB ?_
 refine rn ⟨[(4,tP 4 0)],[(4,Z5d r radius),(100003,Z5c r radius)]⟩<|Ae ?_
 exact yl (Cv.trans (vf 100003 7 ((([Z4Q r radius,Z4T r radius]++[Z4R r radius,Z4Z r radius])++[Z4X r radius,Z55 r radius])++[Z53 r radius,Z5a r radius]).length (AU AO.c ((([Z4Q r radius,Z4T r radius]++[Z4R r radius,Z4Z r radius])++[Z4X r radius,Z55 r radius])++[Z53 r radius,Z5a r radius])) 133 hk0 (.cons ⟨rfl,rfl⟩ .nil)) (Cv.refl _)) (.av (.agg [.i 2,lst 7 AO.c ((([Z4Q r radius,Z4T r radius]++[Z4R r radius,Z4Z r radius])++[Z4X r radius,Z55 r radius])++[Z53 r radius,Z5a r radius]),.i 0])) (An (by rfl))
theorem Sx (r:Al) (radius:Int):OKc (Kt r radius):=cPu<|VB r radius
end
section
open Go.RowKit
theorem OI (l:List Int) (name:ByteArray):∀ (n:Nat) (v:List A1) (d:AC) (k:Int),0<=k->k<=W64 (2+(AA (AC.mk l 0) 5).1)->((W64 (2+(AA (AC.mk l 0) 5).1))-k).toNat<n ->
  (Ct l name n v d k).Name=name/\((Ct l name n v d k).Pads.length:Int)=v.length+(W64 (2+(AA (AC.mk l 0) 5).1)-k)
 | 0,v,d,k,_,_,h=>absurd h (Nat.not_lt_zero _)
 | n+1,v,d,k,h0,h1,h2=>by
  unfold Ct
  by_cases h:k<W64 (2+(AA (AC.mk l 0) 5).1)
  ·simp only [h,decide_true,cond_true]
   obtain ⟨e1,e2⟩:=OI l name n (v++[_]) _ (k+1) (by omega) (by omega) (by omega)
   refine ⟨e1,e2.trans ?_⟩
   simp only [List.length_append,List.length_cons,List.length_nil]
   omega
  simp only [h,decide_false,cond_false]
  refine ⟨by first | trivial | rfl,?_⟩
  show (v.length:Int)=_
  omega
theorem Ew (l:List Int) (name:ByteArray):(A0 l name).Name=name/\2<=((A0 l name).Pads.length:Int)/\((A0 l name).Pads.length:Int)<=6:=by
 have hn:=Cy (AC.mk l 0) 5 (by decide) (by decide)
 have hw:W64 (2+(AA (AC.mk l 0) 5).1)=2+(AA (AC.mk l 0) 5).1:=Ao (by omega) (by omega)
 obtain ⟨e1,e2⟩:=OI l name (((W64 (2+(AA (AC.mk l 0) 5).1))-0).toNat+1) [] (AA (AC.mk l 0) 5).2 0 (by omega) (by omega) (by omega)
 refine ⟨e1,?_⟩
 unfold A0
 rw [e2,hw]
 simp only [List.length_nil]
 omega
theorem OT {a c:AQ}:Bi [a,c] a.Name=(a,true):=by
 unfold Bi D3
 simp [Z0t]
theorem OR {a c:AQ} (h:¬ a.Name.toList=c.Name.toList):Bi [a,c] c.Name=(c,true):=by
 have hb:(a.Name.toList==c.Name.toList)=false:=by simp [h]
 unfold Bi D3
 simp [D3,Z0t,hb]
def Nb (types:List AQ) (xs:List AF):Prop:=∀ k:Int,0<=k->k<(xs.length:Int)->1<=((Bi types (xs.getD k.toNat default).Type').1.Pads.length:Int)/\((Bi types (xs.getD k.toNat default).Type').1.Pads.length:Int)<=6
theorem Tt {types:List AQ}:Nb types ([]:List AF):=fun k h0 h1=>absurd h1 (by simp only [List.length_nil];omega)
theorem Tu {types:List AQ} {xs:List AF} {p:AF} (h:Nb types xs) (hp:1<=((Bi types p.Type').1.Pads.length:Int)/\((Bi types p.Type').1.Pads.length:Int)<=6):Nb types (xs++[p]):=by
 intro k h0 h1
 simp only [List.length_append,List.length_cons,List.length_nil] at h1
 by_cases hk:k.toNat<xs.length
 ·rw [List.getD_eq_getElem?_getD,List.getElem?_append_left hk,<- List.getD_eq_getElem?_getD]
  exact h k h0 oM
 rw [List.getD_eq_getElem?_getD,List.getElem?_append_right oM,show k.toNat-xs.length=0 by omega]
 exact hp
theorem Ny (a c:List Int) (i:Int) (hi:0<=i/\i<2):1<=((Bi [A0 a { data := #[82] },A0 c { data := #[81] }] (([A0 a { data := #[82] },A0 c { data := #[81] }]:List AQ).getD i.toNat default).Name).1.Pads.length:Int)/\((Bi [A0 a { data := #[82] },A0 c { data := #[81] }] (([A0 a { data := #[82] },A0 c { data := #[81] }]:List AQ).getD i.toNat default).Name).1.Pads.length:Int)<=6:=by
 have ha:=Ew a { data := #[82] }
 have hc:=Ew c { data := #[81] }
 have h01:i=0\/i=1:=by omega
 rcases h01 with rfl | rfl
 ·show 1<=((Bi [A0 a { data := #[82] },A0 c { data := #[81] }] (A0 a { data := #[82] }).Name).1.Pads.length:Int)/\((Bi [A0 a { data := #[82] },A0 c { data := #[81] }] (A0 a { data := #[82] }).Name).1.Pads.length:Int)<=6
  rw [OT]
  exact ⟨by show 1<=((A0 a { data := #[82] }).Pads.length:Int);omega,ha.2.2⟩
 show 1<=((Bi [A0 a { data := #[82] },A0 c { data := #[81] }] (A0 c { data := #[81] }).Name).1.Pads.length:Int)/\((Bi [A0 a { data := #[82] },A0 c { data := #[81] }] (A0 c { data := #[81] }).Name).1.Pads.length:Int)<=6
 rw [OR (by rw [ha.1,hc.1];decide +kernel)]
 exact ⟨by show 1<=((A0 c { data := #[81] }).Pads.length:Int);omega,hc.2.2⟩
theorem VK {d:AC} (h:(AA d 5).1<3) (h0:¬ (AA d 5).1=0) (h1:¬ (AA d 5).1=1):(AA d 5).1=2:=by
 have:=Cy d 5 (by decide) (by decide)
 omega
theorem Wv {b:AG} {types:List AQ} (h:Nb types b.Parts):Lq b types:=fun k h0 h1=>(h k h0 h1).1
def C1 (v:List Ab) (m:Int):Prop:=(v.length:Int)<=m
theorem EI {α:Type} {c:Bool} {a b:List α} {m:Int} (ha:(a.length:Int)<=m) (hb:(b.length:Int)<=m):((bif c then a else b).length:Int)<=m:=by cases c <;> assumption
theorem EJ {α:Type} {a:List α} {x:α} {m:Int} (h:(a.length:Int)+1<=m):((a++[x]).length:Int)<=m:=by simp only [List.length_append,List.length_cons,List.length_nil];omega
theorem aU {d:AC} {a c:AQ}:0<=(AA d 2).1/\(AA d 2).1<((([a,c]:List AQ).length:Nat):Int):=Cy d 2 (by decide) (by decide)
theorem WX {v:Int} {a b c:ByteArray} (h0:0<=v) (h:v<3):0<=v/\v<((([a,b,c]:List ByteArray).length:Nat):Int):=⟨h0,h⟩
theorem bO {b B:AG} (h:J8 b B) (hb:(b.Parts.length:Int)<=1000000):(B.Parts.length:Int)<=1000000:=by rw [h.par];exact hb
theorem ZO {b B:AG} (h:J8 b B) (hb:1<=(b.Parts.length:Int)):1<=(B.Parts.length:Int):=by rw [h.par];exact hb
theorem bL {b B:AG} (h:J8 b B):(B.Tracks.length:Int)<=1000000:=by have:=h.trk;omega
theorem bK {b B:AG} (h:J8 b B):(B.Vias.length:Int)<=1000000:=by have:=h.via;omega
theorem bN {b B:AG} (h:J8 b B):(B.Pours.length:Int)<=1000000:=by have:=h.pou;omega
theorem bP {b B:AG} (h:J8 b B):(B.Keeps.length:Int)<=1000000:=by have:=h.kee;omega
theorem bM {b B:AG} (h:J8 b B):(B.Slots.length:Int)<=1000000:=by have:=h.slo;omega
variable (v6_4:List AF) (v31_1':List Ab) (v5'':AC) (v10:Int) (l:List (List Int)) (v31_1 v31_3' v31_3:List Ab) (v8:Int) (v31_5':List Ab) (v13:Int) (v31_5:List Ab) (v5 v5':AC)
def Z5e:Tv:=.av (oL l)
def Z5f:Blk:=.cells Nv 42
def Z5g:AQ:=A0 (AR l 0) ({ data := #[82] }:ByteArray)
def Z5h:AQ:=A0 (AR l 1) ({ data := #[81] }:ByteArray)
def Z5i:Tv:=.av (.one (lst 3 AQ.c [Z5g l,Z5h l]))
def Z5j:Blk:=.cells [lst 1 eIn (AR l 2),.i 0] 146
abbrev Ir:=Al.mk 0 0 400 400
def Z5k:Blk:=.cells [.i 2,.i (DB Ir).Kind,lst 7 AO.c (DB Ir).Edges,.i (DB Ir).R,vN,.own 31 2 3,vN,vN,vN,vN,vN,vN,vN,vN,vN] 42
def Z5l:Blk:=.rowx 2 3 (fun _ _=>default) 48 [(0,[.s ({ data := #[78,49] }:ByteArray),vN]),(1,[.s ({ data := #[78,50] }:ByteArray),vN]),(2,[.s ({ data := #[71,78,68] }:ByteArray),vN])]
abbrev Fp:=AA (AC.mk (AR l 2) 0) 3
def Z5m:CT:=(54,(ER:List Av).map (Bq 1000 25),wrI 25 (.cells [lst 1 eIn (AR l 2),.i 0] 146) (tI (Fp l).1) (.cells (AC.c (Fp l).2) 146))
def Z5n:Blk:=.cells (AC.c (Fp l).2) 146
def Z5o:Ah:=bif decide (((AA (AC.mk (AR l 2) 0) 3).1:Int)=0) then (Fg (Al.mk 0 0 400 400) 50) else (DB (Al.mk 0 0 400 400))
def Z5p:CT:=(54,(ER:List Av).map (Bq 1000 25),wrI 25 (.cells (AC.c (Fp l).2) 146) (tI (AA (Fp l).2 3).1) (.cells (AC.c (AA (Fp l).2 3).2) 146))
abbrev Z5q:AC:=(AA (AA (AC.mk (AR l 2) 0) 3).2 3).2
def Z5r:Tv:=tI (W64 (1+(AA (Fp l).2 3).1))
abbrev FM (t_:List Cl):List Cl:=(.i 2)::(.i (Z5o l).Kind)::(lst 7 AO.c (Z5o l).Edges)::(.i (Z5o l).R)::t_
def Z5s:Blk:=.cells (FM l [vN,.own 31 2 3,vN,vN,vN,vN,vN,vN,vN,vN,vN]) 42
def Z5t:Blk:=.cells [lst 1 eIn (AR l 3),.i 0] 146
def Z5u:Blk:=.row 7 ([]:List AF).length (AU AF.c ([]:List AF)) 59
def Z5v:Blk:=.cells (FM l [.own 100000 7 ([]:List AF).length,.own 31 2 3,vN,vN,vN,vN,vN,vN,vN,vN,vN]) 42
def Z5w (l:(List (List Int))) (v6_4:List AF):Blk:=.cells (FM l [.own 100000 7 v6_4.length,.own 31 2 3,vN,vN,vN,vN,vN,vN,vN,vN,vN]) 42
def Z5x:Blk:=.row 7 v6_4.length (AU AF.c v6_4) 59
def Z5y:CT:=(54,(GT:List Av).map (Bq 1000 25),wrI 25 (KM v5) (tI (AA v5 2).1) (KV v5))
abbrev FO:=AA (AA v5 2).2 4
def Z5z:CT:=(54,(IX:List Av).map (Bq 1000 25),wrI 25 (KV v5) (tI (FO v5).1) (.cells (AC.c (FO v5).2) 146))
def Z5A:CT:=(54,(ER:List Av).map (Bq 1000 25),wrI 25 (.cells (AC.c (FO v5).2) 146) (tI (AA (FO v5).2 3).1) (.cells (AC.c (AA (FO v5).2 3).2) 146))
abbrev Z5B:AC:=(AA (AA (AA v5 2).2 4).2 3).2
abbrev Fj:=AA (Z5B v5) 5
def Z5C:CT:=(54,(Iy:List Av).map (Bq 1000 25),wrI 25 (.cells (AC.c (Z5B v5)) 146) (tI (Fj v5).1) (.cells (AC.c (Fj v5).2) 146))
def Z5D:CT:=(54,(ER:List Av).map (Bq 1000 25),wrI 25 (.cells (AC.c (Fj v5).2) 146) (tI (AA (Fj v5).2 3).1) (.cells (AC.c (AA (Fj v5).2 3).2) 146))
abbrev Z5E:AC:=(AA (AA (Z5B v5) 5).2 3).2
def Z5F:CT:=(54,(ER:List Av).map (Bq 1000 25),wrI 25 (.cells (AC.c (Z5E v5)) 146) (tI (AA (Z5E v5) 3).1) (.cells (AC.c (AA (Z5E v5) 3).2) 146))
def Z5G:Blk:=.cells (AC.c (AA (Z5E v5) 3).2) 146
abbrev JX:Bool:=(decide (((AA (FO v5).2 3).1:Int)=0))
abbrev Vk:=AD.mk (W64 ((W64 (80+(W64 (100*v8))))+(W64 (5*(Fj v5).1)))) (W64 ((W64 (100+(W64 (80*(AA (Fj v5).2 3).1))))+(W64 (5*(AA (Z5E v5) 3).1))))
def Z5H (l:(List (List Int))) (v6_4:List AF) (v8:Int) (v5:AC):Blk:=.cells (FM l [.own 86 7 (v6_4++[AF.mk (W64 (1+v8)) (([({ data := #[82,49] }:ByteArray),({ data := #[82,50] }:ByteArray),({ data := #[120,47,82,49] }:ByteArray)]:List ByteArray).getD v8.toNat ⟨#[]⟩) ([Z5g l,Z5h l].getD (AA v5 2).1.toNat default).Name (Vk v8 v5) (FO v5).1 (JX v5)]).length,.own 31 2 3,vN,vN,vN,vN,vN,vN,vN,vN,vN]) 42
def Z5I (v6_4:List AF) (v8:Int) (l:(List (List Int))) (v5:AC):Blk:=.row 7 (v6_4++[AF.mk (W64 (1+v8)) (([({ data := #[82,49] }:ByteArray),({ data := #[82,50] }:ByteArray),({ data := #[120,47,82,49] }:ByteArray)]:List ByteArray).getD v8.toNat ⟨#[]⟩) ([Z5g l,Z5h l].getD (AA v5 2).1.toNat default).Name (Vk v8 v5) (FO v5).1 (JX v5)]).length (AU AF.c (v6_4++[AF.mk (W64 (1+v8)) (([({ data := #[82,49] }:ByteArray),({ data := #[82,50] }:ByteArray),({ data := #[120,47,82,49] }:ByteArray)]:List ByteArray).getD v8.toNat ⟨#[]⟩) ([Z5g l,Z5h l].getD (AA v5 2).1.toNat default).Name (Vk v8 v5) (FO v5).1 (JX v5)])) 59
def Z5J:Blk:=.row 2 ([]:List Ab).length (AU Ab.c ([]:List Ab)) 25
def Z5K:Blk:=.row 2 v31_1.length (AU Ab.c v31_1) 25
def Z5L:Blk:=.row 2 v31_3.length (AU Ab.c v31_3) 25
def Z5M:Blk:=.row 2 v31_5.length (AU Ab.c v31_5) 25
def Z5N (l:(List (List Int))) (v6_4:List AF):Blk:=.cells (FM l [lst 7 AF.c v6_4,.own 31 2 3,vN,vN,vN,vN,vN,vN,vN,vN,vN]) 42
def Z5O:Tv:=tB (decide ((v10:Int)<(W64 (1+(AA (Fp l).2 3).1))))
def Z5P (l:(List (List Int))) (v6_4:List AF) (v10:Int):AQ:=(Bi [Z5g l,Z5h l] (v6_4.getD v10.toNat default).Type').1
def Z5Q (l:(List (List Int))) (v6_4:List AF) (v10:Int):Blk:=.cells (AQ.c (Z5P l v6_4 v10)) 114
def Z5R:Blk:=.row 2 v31_1'.length (AU Ab.c v31_1') 25
def Z5S:Blk:=.row 2 v31_3'.length (AU Ab.c v31_3') 25
def Z5T:Blk:=.row 2 v31_5'.length (AU Ab.c v31_5') 25
def Z5U:CT:=(54,(Iy:List Av).map (Bq 1000 91),wrI 91 (.cells (AC.c v5'') 146) (tI (AA v5'' 5).1) (.cells (AC.c (AA v5'' 5).2) 146))
abbrev HO:=[Ab.mk (v6_4.getD v10.toNat default).Ref ((Z5P l v6_4 v10).Pads.getD v13.toNat default).Name]
def Z5V (v31_1':List Ab) (v6_4:List AF) (v10:Int) (l:(List (List Int))) (v13:Int):Blk:=.row 2 (v31_1'++(HO v6_4 v10 l v13)).length (AU Ab.c (v31_1'++(HO v6_4 v10 l v13))) 25
def Z5W (v31_3':List Ab) (v6_4:List AF) (v10:Int) (l:(List (List Int))) (v13:Int):Blk:=.row 2 (v31_3'++(HO v6_4 v10 l v13)).length (AU Ab.c (v31_3'++(HO v6_4 v10 l v13))) 25
def Z5X (v31_5':List Ab) (v6_4:List AF) (v10:Int) (l:(List (List Int))) (v13:Int):Blk:=.row 2 (v31_5'++(HO v6_4 v10 l v13)).length (AU Ab.c (v31_5'++(HO v6_4 v10 l v13))) 25
def Z5Y (v5'':AC) (v31_1':List Ab) (v6_4:List AF) (v10:Int) (l:(List (List Int))) (v13:Int):(List Ab):=bif decide (((AA v5'' 5).1:Int)<3) then (bif decide (((AA v5'' 5).1:Int)=0) then (v31_1'++[Ab.mk (v6_4.getD v10.toNat default).Ref ((Z5P l v6_4 v10).Pads.getD v13.toNat default).Name]) else v31_1') else v31_1'
def Z5Z (v5'':AC) (v31_3':List Ab) (v6_4:List AF) (v10:Int) (l:(List (List Int))) (v13:Int):(List Ab):=bif decide (((AA v5'' 5).1:Int)<3) then (bif decide (((AA v5'' 5).1:Int)=0) then v31_3' else (bif decide (((AA v5'' 5).1:Int)=1) then (v31_3'++[Ab.mk (v6_4.getD v10.toNat default).Ref ((Z5P l v6_4 v10).Pads.getD v13.toNat default).Name]) else v31_3')) else v31_3'
def Z60 (v5'':AC) (v31_5':List Ab) (v6_4:List AF) (v10:Int) (l:(List (List Int))) (v13:Int):(List Ab):=bif decide (((AA v5'' 5).1:Int)<3) then (bif decide (((AA v5'' 5).1:Int)=0) then v31_5' else (bif decide (((AA v5'' 5).1:Int)=1) then v31_5' else (v31_5'++[Ab.mk (v6_4.getD v10.toNat default).Ref ((Z5P l v6_4 v10).Pads.getD v13.toNat default).Name]))) else v31_5'
def Z61 (v5'':AC) (v31_1':List Ab) (v6_4:List AF) (v10:Int) (l:(List (List Int))) (v13:Int):Blk:=.row 2 (Z5Y v5'' v31_1' v6_4 v10 l v13).length (AU Ab.c (Z5Y v5'' v31_1' v6_4 v10 l v13)) 25
def Z62 (v5'':AC) (v31_3':List Ab) (v6_4:List AF) (v10:Int) (l:(List (List Int))) (v13:Int):Blk:=.row 2 (Z5Z v5'' v31_3' v6_4 v10 l v13).length (AU Ab.c (Z5Z v5'' v31_3' v6_4 v10 l v13)) 25
def Z63 (v5'':AC) (v31_5':List Ab) (v6_4:List AF) (v10:Int) (l:(List (List Int))) (v13:Int):Blk:=.row 2 (Z60 v5'' v31_5' v6_4 v10 l v13).length (AU Ab.c (Z60 v5'' v31_5' v6_4 v10 l v13)) 25
def Z64 (l:(List (List Int))) (v6_4:List AF) (v31_1:List Ab) (v31_3:List Ab) (v31_5:List Ab):AG:=BG (AG.mk 2 (Z5o l) v6_4 [A3.mk ({ data := #[78,49] }:ByteArray) v31_1,A3.mk ({ data := #[78,50] }:ByteArray) v31_3,A3.mk ({ data := #[71,78,68] }:ByteArray) v31_5] [] [] [] [] [] [] [] [] []) [Z5g l,Z5h l] l
abbrev Tk (l:List (List Int)) (v6_4:List AF) (v31_1:List Ab) (v31_3:List Ab) (v31_5:List Ab):List Cl:=[.i (Z64 l v6_4 v31_1 v31_3 v31_5).Layers,.i (Z64 l v6_4 v31_1 v31_3 v31_5).Outline.Kind,lst 7 AO.c (Z64 l v6_4 v31_1 v31_3 v31_5).Outline.Edges,.i (Z64 l v6_4 v31_1 v31_3 v31_5).Outline.R,lst 7 AF.c (Z64 l v6_4 v31_1 v31_3 v31_5).Parts,lst 2 A3.c (Z64 l v6_4 v31_1 v31_3 v31_5).Nets,lst 6 Aj.c (Z64 l v6_4 v31_1 v31_3 v31_5).Tracks,lst 8 Br.c (Z64 l v6_4 v31_1 v31_3 v31_5).Vias,lst 8 BB.c (Z64 l v6_4 v31_1 v31_3 v31_5).Pours,lst 5 BQ.c (Z64 l v6_4 v31_1 v31_3 v31_5).Keeps,lst 4 BX.c (Z64 l v6_4 v31_1 v31_3 v31_5).Slots,vN,vN,vN,vN]
def Z65 (l:(List (List Int))) (v6_4:List AF) (v31_1:List Ab) (v31_3:List Ab) (v31_5:List Ab):CT:=(56,([.one (.ptr 1000 0),.one (lst 3 AQ.c [Z5g l,Z5h l]),.one (lst 1 (fun x=>[lst 1 eIn x]) l)]:List Av).map (Bq 1000 6),wrI 6 (.cells (FM l [lst 7 AF.c v6_4,lst 2 A3.c [A3.mk ({ data := #[78,49] }:ByteArray) v31_1,A3.mk ({ data := #[78,50] }:ByteArray) v31_3,A3.mk ({ data := #[71,78,68] }:ByteArray) v31_5],vN,vN,vN,vN,vN,vN,vN,vN,vN]) 42) (.tup []) (.cells (Tk l v6_4 v31_1 v31_3 v31_5) 42))
def Z66 (l:(List (List Int))) (v6_4:List AF) (v31_1:List Ab) (v31_3:List Ab) (v31_5:List Ab):AG×AC:=Cb (AG.mk (Z64 l v6_4 v31_1 v31_3 v31_5).Layers (Z64 l v6_4 v31_1 v31_3 v31_5).Outline (Z64 l v6_4 v31_1 v31_3 v31_5).Parts (Z64 l v6_4 v31_1 v31_3 v31_5).Nets (Z64 l v6_4 v31_1 v31_3 v31_5).Tracks (Z64 l v6_4 v31_1 v31_3 v31_5).Vias (Z64 l v6_4 v31_1 v31_3 v31_5).Pours (Z64 l v6_4 v31_1 v31_3 v31_5).Keeps (Z64 l v6_4 v31_1 v31_3 v31_5).Slots [] [] [] []) (AC.mk (AR l 7) 0)
def Z67 (l:(List (List Int))) (v6_4:List AF) (v31_1:List Ab) (v31_3:List Ab) (v31_5:List Ab):CT:=(57,(ML:List Av).map (Eo 1000 6 1001 151),aS 6 151 (.cells (Tk l v6_4 v31_1 v31_3 v31_5) 42) (.cells [lst 1 eIn (AR l 7),.i 0] 146) (.tup []) (.cells (AG.c (Z66 l v6_4 v31_1 v31_3 v31_5).1) 42) (.cells (AC.c (Z66 l v6_4 v31_1 v31_3 v31_5).2) 146))
def Z68:Blk:=.rowx 2 3 (fun _ _=>default) 48 [(0,[.s ({ data := #[78,49] }:ByteArray),.own 100001 2 ([]:List Ab).length]),(1,[.s ({ data := #[78,50] }:ByteArray),.own 100002 2 ([]:List Ab).length]),(2,[.s ({ data := #[71,78,68] }:ByteArray),.own 100003 2 ([]:List Ab).length])]
def Z69:Blk:=.rowx 2 3 (fun _ _=>default) 48 [(0,[.s ({ data := #[78,49] }:ByteArray),.own 100001 2 v31_1.length]),(1,[.s ({ data := #[78,50] }:ByteArray),.own 100002 2 v31_3.length]),(2,[.s ({ data := #[71,78,68] }:ByteArray),.own 100003 2 v31_5.length])]
def Z6a:Blk:=.rowx 2 3 (fun _ _=>default) 48 [(0,[.s ({ data := #[78,49] }:ByteArray),.own 100001 2 v31_1'.length]),(1,[.s ({ data := #[78,50] }:ByteArray),.own 100002 2 v31_3'.length]),(2,[.s ({ data := #[71,78,68] }:ByteArray),.own 100003 2 v31_5'.length])]
def Z6b (v31_1':List Ab) (v6_4:List AF) (v10:Int) (l:(List (List Int))) (v13:Int) (v31_3':List Ab) (v31_5':List Ab):Blk:=.rowx 2 3 (fun _ _=>default) 48 [(0,[.s ({ data := #[78,49] }:ByteArray),.own 100004 2 (v31_1'++(HO v6_4 v10 l v13)).length]),(1,[.s ({ data := #[78,50] }:ByteArray),.own 100005 2 v31_3'.length]),(2,[.s ({ data := #[71,78,68] }:ByteArray),.own 100006 2 v31_5'.length])]
def Z6c (v31_1':List Ab) (v31_3':List Ab) (v6_4:List AF) (v10:Int) (l:(List (List Int))) (v13:Int) (v31_5':List Ab):Blk:=.rowx 2 3 (fun _ _=>default) 48 [(0,[.s ({ data := #[78,49] }:ByteArray),.own 100004 2 v31_1'.length]),(1,[.s ({ data := #[78,50] }:ByteArray),.own 100005 2 (v31_3'++(HO v6_4 v10 l v13)).length]),(2,[.s ({ data := #[71,78,68] }:ByteArray),.own 100006 2 v31_5'.length])]
def Z6d (v31_1':List Ab) (v31_3':List Ab) (v31_5':List Ab) (v6_4:List AF) (v10:Int) (l:(List (List Int))) (v13:Int):Blk:=.rowx 2 3 (fun _ _=>default) 48 [(0,[.s ({ data := #[78,49] }:ByteArray),.own 100004 2 v31_1'.length]),(1,[.s ({ data := #[78,50] }:ByteArray),.own 100005 2 v31_3'.length]),(2,[.s ({ data := #[71,78,68] }:ByteArray),.own 100006 2 (v31_5'++(HO v6_4 v10 l v13)).length])]
def C7 (l:(List (List Int))) (v6_4:List AF) (v5:AC) (v8:Int) (v31_1:List Ab) (v31_3:List Ab) (v31_5:List Ab) (v5':AC) (v10:Int) (K0:List AF->AC->Int->(AG×(List AQ))) (K1:List Ab->List Ab->List Ab->AC->Int->(AG×(List AQ))):Nat->List Ab->List Ab->List Ab->AC->Int->(AG×(List AQ))
 | 0,_,_,_,_,_=>default
 | n2+1,v31_1',v31_3',v31_5',v5'',v13=>bif decide ((v13:Int)<((Z5P l v6_4 v10).Pads.length:Int)) then ((C7 l v6_4 v5 v8 v31_1 v31_3 v31_5 v5' v10 K0 K1 n2) (Z5Y v5'' v31_1' v6_4 v10 l v13) (Z5Z v5'' v31_3' v6_4 v10 l v13) (Z60 v5'' v31_5' v6_4 v10 l v13) (AA v5'' 5).2 (v13+1)) else (K1 v31_1' v31_3' v31_5' v5'' (v10+1))
def Cs (l:(List (List Int))) (v6_4:List AF) (v5:AC) (v8:Int) (K0:List AF->AC->Int->(AG×(List AQ))):Nat->List Ab->List Ab->List Ab->AC->Int->(AG×(List AQ))
 | 0,_,_,_,_,_=>default
 | n1+1,v31_1,v31_3,v31_5,v5',v10=>bif decide ((v10:Int)<(W64 (1+(AA (AA (AC.mk (AR l 2) 0) 3).2 3).1))) then (C7 l v6_4 v5 v8 v31_1 v31_3 v31_5 v5' v10 K0 (Cs l v6_4 v5 v8 K0 n1) ((((Z5P l v6_4 v10).Pads.length:Int)-0).toNat+1) v31_1 v31_3 v31_5 v5' 0) else ((Z66 l v6_4 v31_1 v31_3 v31_5).1,[Z5g l,Z5h l])
def CL (l:(List (List Int))):Nat->List AF->AC->Int->(AG×(List AQ))
 | 0,_,_,_=>default
 | n0+1,v6_4,v5,v8=>bif decide ((v8:Int)<(W64 (1+(AA (AA (AC.mk (AR l 2) 0) 3).2 3).1))) then ((CL l n0) (v6_4++[AF.mk (W64 (1+v8)) (([({ data := #[82,49] }:ByteArray),({ data := #[82,50] }:ByteArray),({ data := #[120,47,82,49] }:ByteArray)]:List ByteArray).getD v8.toNat ⟨#[]⟩) ([Z5g l,Z5h l].getD (AA v5 2).1.toNat default).Name (AD.mk (W64 ((W64 (80+(W64 (100*v8))))+(W64 (5*(AA (Z5B v5) 5).1)))) (W64 ((W64 (100+(W64 (80*(AA (AA (Z5B v5) 5).2 3).1))))+(W64 (5*(AA (Z5E v5) 3).1))))) (AA (AA v5 2).2 4).1 (decide (((AA (AA (AA v5 2).2 4).2 3).1:Int)=0))]) (AA (Z5E v5) 3).2 (v8+1)) else (Cs l v6_4 v5 v8 (CL l n0) (((W64 (1+(AA (AA (AC.mk (AR l 2) 0) 3).2 3).1))-0).toNat+1) ([]:List Ab) ([]:List Ab) ([]:List Ab) (AC.mk (AR l 3) 0) 0)
def CY (l:(List (List Int))):(AG×(List AQ)):=CL l (((W64 (1+(AA (AA (AC.mk (AR l 2) 0) 3).2 3).1))-0).toNat+1) ([]:List AF) (Z5q l) 0
def Lo:CT:=(24,[.one (lst 1 (fun x=>[lst 1 eIn x]) l)],.val [] (.tup [.agg (AG.c (CY l).1),.one (lst 3 AQ.c (CY l).2)]))
abbrev GA:Nat×Blk:=(91,.cells (AC.c (AA v5'' 5).2) 146)
abbrev Hd:Nat×Blk:=(91,.cells (AC.c v5') 146)
abbrev SK:=As 2 1 [.s (v6_4.getD v10.toNat default).Ref,.s ((Z5P l v6_4 v10).Pads.getD v13.toNat default).Name]
abbrev MD:Nat×Blk:=(25,.cells (AC.c (Z5q l)) 146)
abbrev CR (t_:List (Nat×Tv)):List (Nat×Tv):=(0,Z5e l)::(2,tP 2 0)::(4,Z5i l)::(5,tP 91 0)::(6,tP 6 0)::(7,Z5r l)::t_
abbrev Dj (t_:List (Nat×Tv)):List (Nat×Tv):=(0,Z5e l)::(2,tP 2 0)::(4,Z5i l)::(5,tP 25 0)::t_
abbrev Dn (l:List (List Int)) (v6_4:List AF) (v10:Int) (t_:List (Nat×Blk)):List (Nat×Blk):=(2,Z5f)::(6,Z5w l v6_4)::(11,Z5Q l v6_4 v10)::t_
theorem au12 {p:Prop} (h:p:=by first | (with_reducible exact DD hll _) | with_reducible assumption | omega | decide | (simp only [List.length_cons,List.length_nil,List.length_append];omega) | (exact Wv (by assumption)) | ((refine And.intro ?_ ?_ <;> simp;done)) | ((simp only;exact bO (FZ _ _ _) (by show (v6_4.length:Int)≤_;omega))) | ((simp only;exact ZO (FZ _ _ _) (by show 1≤(v6_4.length:Int);omega))) | ((simp only;exact bL (FZ _ _ _))) | ((simp only;exact bK (FZ _ _ _))) | ((simp only;exact bN (FZ _ _ _))) | ((simp only;exact bP (FZ _ _ _))) | ((simp only;exact bM (FZ _ _ _))) | assumption):p:=h
theorem au13 {p:Prop} (h:p:=by first | exact H8 _ _ _ (by decide) (by decide) (by decide) | exact aU | exact WX (by omega) (by omega) | decide | omega):p:=h
theorem au18 {p:Prop} (h:p:=by first | (unfold C1 at *;unfold maxLen;omega) | (unfold C1 at *;omega) | (unfold maxLen;omega) | omega | (simp only [XK,XJ,XI];omega)):p:=h
set_option maxHeartbeats 4000000 in
theorem ZI (l:(List (List Int))) (hl:(l.length:Int)<=9223372036854775807) (hll:∀ x∈l,(x.length:Int)<=9223372036854775807):PuP 24 (Lo l).2.1 (.tup [.agg (AG.c (CY l).1),.one (lst 3 AQ.c (CY l).2)]):=by
 refine pwf Try.func24 fun W0 M0 => ?_
 have hmany:1<=W64 (1+(AA (AA (AC.mk (AR l 2) 0) 3).2 3).1):=by have:=Cy (AA (AC.mk (AR l 2) 0) 3).2 3 (by decide) (by decide);rw [Ao oM oM];omega
 refine AB<|rn ⟨[(0,Z5e l),(2,tP 2 0)],[(2,Z5f)]⟩<|AB ?_
 refine rc [(16,D0 l 0),(17,IG (AR l 0) ({ data := #[82] }:ByteArray)),(19,D0 l 1),(20,IG (AR l 1) ({ data := #[81] }:ByteArray))] [Aw (D0 l 0).2.1,Aw (IG (AR l 0) ({ data := #[82] }:ByteArray)).2.1,Aw (D0 l 1).2.1,Aw (IG (AR l 1) ({ data := #[81] }:ByteArray)).2.1] ⟨[(0,Z5e l),(2,tP 2 0),(4,.av (.one (.list true 3 2 (As 3 2 [.s (Z5g l).Name,lst 7 A1.c (Z5g l).Pads,lst 2 Az.c (Z5g l).Gates,.s (Z5h l).Name,lst 7 A1.c (Z5h l).Pads,lst 2 Az.c (Z5h l).Gates]))))],[(2,Z5f)]⟩ (.cons (FD l 0 au12) (.cons (RN (AR l 0) ({ data := #[82] }:ByteArray) au12) (.cons (FD l 1 au12) (.cons (RN (AR l 1) ({ data := #[81] }:ByteArray) au12) .nil)))) (.cons rfl (.cons rfl (.cons rfl (.cons rfl .nil))))<|AH ?_
 refine BN (Cv.trans (BF (⟨[(0,Z5e l),(2,tP 2 0),(4,Z5i l)],[(2,Z5f)]⟩) (.cons ⟨rfl,.refl _⟩ (.cons ⟨rfl,.refl _⟩ (.cons ⟨rfl,.av (.one (Bk true (Ar (c:=AQ.c) (xs:=([Z5g l,Z5h l]:List AQ)) rfl kr)))⟩ .nil))) lr) (Cv.refl _))<|AB ?_
 refine rs 23 (D0 l 2) ⟨(Dj l []),[(2,Z5f),(25,Z5j l)]⟩ (FD l 2 au12)<|AH<|AB ?_
 refine DW D9 [31] [] [(27,HG Ir)] [0,2,4,5,6] [2,6,25,31] [Aw (HG (Al.mk 0 0 400 400)).2.1] ⟨(Dj l [(6,tP 6 0)]),[(2,Z5f),(6,Z5k),(25,Z5j l),(31,.row 2 3 (As 2 3 [.s ({ data := #[78,49] }:ByteArray),vN,.s ({ data := #[78,50] }:ByteArray),vN,.s ({ data := #[71,78,68] }:ByteArray),vN]) 48)]⟩ (.cons (Lj (Al.mk 0 0 400 400)) .nil) kr (.cons rfl .nil)<|AH ?_
 refine BN (Cv.trans (YC (⟨(Dj l [(6,tP 6 0)]),[(2,Z5f),(6,Z5k),(25,Z5j l),(31,Z5l)]⟩) 31 2 3 (As 2 3 [.s ({ data := #[78,49] }:ByteArray),vN,.s ({ data := #[78,50] }:ByteArray),vN,.s ({ data := #[71,78,68] }:ByteArray),vN]) 48 kr kr kr) (Cv.refl _))<|AB<|AB ?_
 refine rb 34 (Z5m l) (.cells [lst 1 eIn (AR l 2),.i 0] 146) ⟨(Dj l [(6,tP 6 0),(35,tB (decide (((Fp l).1:Int)=0)))]),[(2,Z5f),(6,Z5k),(25,Z5n l),(31,Z5l)]⟩ (cWr (BS (AC.mk (AR l 2) 0) 3 au5 au8))<|AH ?_
 refine Bz (⟨[(0,.av (oL l)),(2,tP 2 0),(4,tO (lst 3 AQ.c [Z5g l,Z5h l])),(5,tP 25 0),(6,tP 6 0)],[(2,.cells Nv 42),(6,.cells [.i 2,.i (Z5o l).Kind,lst 7 AO.c (Z5o l).Edges,.i (Z5o l).R,vN,.own 31 2 3,vN,vN,vN,vN,vN,vN,vN,vN,vN] 42),(25,.cells (AC.c (Fp l).2) 146),(31,.rowx 2 3 (fun _ _=>default) 48 [(0,[.s ({ data := #[78,49] }:ByteArray),vN]),(1,[.s ({ data := #[78,50] }:ByteArray),vN]),(2,[.s ({ data := #[71,78,68] }:ByteArray),vN])])]⟩) ?_ ?_
 ·refine Aa _ rfl (fun h1 => ?_) (fun h1 => ?_)
  ·refine rs 37 (Kt (Al.mk 0 0 400 400) 50) ⟨(Dj l [(6,tP 6 0)]),[(2,Z5f),(6,.cells [.i 2,.i (Fg Ir 50).Kind,lst 7 AO.c (Fg Ir 50).Edges,.i (Fg Ir 50).R,vN,.own 31 2 3,vN,vN,vN,vN,vN,vN,vN,vN,vN] 42),(25,Z5n l),(31,Z5l)]⟩ (Sx (Al.mk 0 0 400 400) 50)<|AH ?_
   refine A6 ?_
   first | rfl | (simp only [h1,Z5o,cond_true,cond_false] <;> rfl)
  refine Ac<|AH ?_
  refine Cv.trans (ck (⟨(Dj l [(6,tP 6 0)]),[(2,Z5f),(6,Z5k),(25,Z5n l),(31,Z5l)]⟩)) (A6 ?_)
  first | rfl | (simp only [h1,Z5o,cond_true,cond_false] <;> rfl)
 refine AB<|rb 40 (Z5p l) (.cells (AC.c (AA (AC.mk (AR l 2) 0) 3).2) 146) ⟨(Dj l [(6,tP 6 0),(7,Z5r l)]),[(2,Z5f),(6,Z5s l),(MD l),(31,Z5l)]⟩ (cWr (BS (AA (AC.mk (AR l 2) 0) 3).2 3 au5 au8))<|AH ?_
 refine AB<|AB ?_
 refine rn ⟨(Dj l [(6,tP 6 0),(7,Z5r l),(8,tI 0)]),[(2,Z5f),(6,Z5s l),(MD l),(31,Z5l)]⟩<|AX ?_
 refine BN (Cv.trans (wg (⟨(Dj l [(6,tP 6 0),(7,Z5r l),(8,tI 0)]),[(100000,.row 7 0 (fun _ _=>default) 59),(2,Z5f),(6,.cells (FM l [.own 100000 7 0,.own 31 2 3,vN,vN,vN,vN,vN,vN,vN,vN,vN]) 42),(MD l),(31,Z5l)]⟩) 100000 7 (fun _ _=>default) 59 [] [(6,[4])] hk0) (Cv.trans (BF (⟨(Dj l [(6,tP 6 0),(7,Z5r l),(8,tI 0)]),[(100000,Z5u),(2,Z5f),(6,Z5v l),(MD l),(31,Z5l)]⟩) lr (.cons ⟨rfl,Ai 59 (B8 7 (fun _ _=>default) AF.c)⟩ (.cons ⟨rfl,.refl _⟩ (.cons ⟨rfl,.cells _ (rr4 (.cons (.own _ _ au0) (rr (rr (rr (rr (rr (rr (rr (rr (rr (rr .nil))))))))))))⟩ lr)))) (Cv.trans (ck (⟨(Dj l [(6,tP 6 0),(7,Z5r l),(8,tI 0)]),[(2,Z5f),(6,Z5v l),(MD l),(31,Z5l),(100000,Z5u)]⟩)) (Cv.refl _)))) ?_
 refine BH (ι:=Nat×List AF×AC×Int) (fun x=>⟨(Dj l [(6,tP 6 0),(7,Z5r l),(8,tI x.2.2.2)]),[(2,Z5f),(6,.cells (FM l [.own 100000 7 x.2.1.length,.own 31 2 3,vN,vN,vN,vN,vN,vN,vN,vN,vN]) 42),(25,.cells (AC.c x.2.2.1) 146),(31,Z5l),(100000,.row 7 x.2.1.length (AU AF.c x.2.1) 59)]⟩) (fun x=>((W64 (1+(AA (AA (AC.mk (AR l 2) 0) 3).2 3).1))-x.2.2.2).toNat<x.1/\((x.2.1.length:Int)=x.2.2.2/\Nb [A0 (AR l 0) ({ data := #[82] }:ByteArray),A0 (AR l 1) ({ data := #[81] }:ByteArray)] x.2.1/\Bf x.2.2.1/\0<=x.2.2.2/\(x.2.2.2<=(W64 (1+(AA (AA (AC.mk (AR l 2) 0) 3).2 3).1))\/x.2.2.2=0)/\(x.2.1.length:Int)<=0+1*(x.2.2.2-0))/\CL l x.1 x.2.1 x.2.2.1 x.2.2.2=CY l) (fun x=>x.1) ?_ (((W64 (1+(AA (AA (AC.mk (AR l 2) 0) 3).2 3).1))-0).toNat+1,([]:List AF),Z5q l,0) ⟨Nat.lt_succ_self _,⟨ax0,(by show Nb [A0 (AR l 0) ({ data := #[82] }:ByteArray),A0 (AR l 1) ({ data := #[81] }:ByteArray)] ([]:List AF);first | exact Tt | exact Tu (by assumption) (Ny _ _ _ (Cy _ 2 (by decide) (by decide))) | assumption),(by show Bf (Z5q l);repeat (first | with_reducible assumption | exact Ca (DD hll _) | with_reducible refine BR ?_ | with_reducible refine D6 ?_ | with_reducible refine DQ ?_ | with_reducible refine C6 ?_  | with_reducible refine Ci ?_ ?_)),ax0,ax0,ax0⟩,(by simp only [CY,cond_true,cond_false])⟩
 rintro ⟨n0,v6_4,v5,v8⟩ ⟨hm0,hinv0,hF0⟩
 try dsimp only at hm0 hinv0 hF0
 cases n0 with | zero=>exact nz hm0 | succ n0 => ?_
 have hi0_1:=hinv0.2.1
 have hi0_2:=hinv0.2.2.1
 refine AB<|AB ?_
 refine rn ⟨(Dj l [(6,tP 6 0),(7,Z5r l),(8,tI v8),(44,tB (decide ((v8:Int)<(W64 (1+(AA (AA (AC.mk (AR l 2) 0) 3).2 3).1)))))]),[(2,Z5f),(6,Z5w l v6_4),(25,.cells (AC.c v5) 146),(31,Z5l),(100000,Z5x v6_4)]⟩ ?_
 refine Aa (decide ((v8:Int)<(W64 (1+(AA (AA (AC.mk (AR l 2) 0) 3).2 3).1)))) kr (fun h1 => ?_) (fun h1 => ?_)
 ·have g1:=oT h1
  have k1:=QB g1 (by decide) (by decide) (by decide) (by decide)
  have kk1:=M8 g1 (by decide) (by decide) (by decide) (by decide)
  refine Ac<|AH ?_
  refine AB<|AX<|AB ?_
  refine dw [] [(55,(Z5y v5)),(60,(Z5z v5)),(62,(Z5A v5))] [0<=(v8:Int)/\(v8:Int)<((3:Nat):Int),Aw (Z5y v5).2.1,Bu (KM v5),0<=((AA v5 2).1:Int)/\((AA v5 2).1:Int)<(([Z5g l,Z5h l].length:Nat):Int),Aw (Z5z v5).2.1,Bu (KV v5),Aw (Z5A v5).2.1,Bu (.cells (AC.c (AA (AA v5 2).2 4).2) 146)] ⟨(Dj l [(6,tP 6 0),(7,Z5r l),(8,tI v8),(9,tP 9 0)]),[(2,Z5f),(6,Z5w l v6_4),(9,.cells [.i (W64 (1+v8)),.s (([({ data := #[82,49] }:ByteArray),({ data := #[82,50] }:ByteArray),({ data := #[120,47,82,49] }:ByteArray)]:List ByteArray).getD v8.toNat ⟨#[]⟩),.s ([Z5g l,Z5h l].getD (AA v5 2).1.toNat default).Name,.i 0,.i 0,.i (FO v5).1,.b (JX v5)] 59),(25,.cells (AC.c (Z5B v5)) 146),(31,Z5l),(100000,Z5x v6_4)]⟩ (.cons (cWr (BS v5 2 au5 au8)) (.cons (cWr (BS (AA v5 2).2 4 au5 au8)) (.cons (cWr (BS (AA (AA v5 2).2 4).2 3 au5 au8)) .nil))) (.cons au13 (.cons rfl (.cons rfl (.cons au13 (.cons rfl (.cons rfl (.cons rfl (.cons rfl .nil))))))))<|AH<|AB ?_
  refine rc [(69,(Z5C v5)),(73,(Z5D v5)),(77,(Z5F v5))] [Aw (Z5C v5).2.1,Bu (.cells (AC.c (Z5B v5)) 146),Aw (Z5D v5).2.1,Bu (.cells (AC.c (AA (Z5B v5) 5).2) 146),Aw (Z5F v5).2.1,Bu (.cells (AC.c (Z5E v5)) 146)] ⟨(Dj l [(6,tP 6 0),(7,Z5r l),(8,tI v8),(9,tP 9 0)]),[(2,Z5f),(6,Z5w l v6_4),(9,.cells [.i (W64 (1+v8)),.s (([({ data := #[82,49] }:ByteArray),({ data := #[82,50] }:ByteArray),({ data := #[120,47,82,49] }:ByteArray)]:List ByteArray).getD v8.toNat ⟨#[]⟩),.s ([Z5g l,Z5h l].getD (AA v5 2).1.toNat default).Name,.i (W64 ((W64 (80+(W64 (100*v8))))+(W64 (5*(Fj v5).1)))),.i (W64 ((W64 (100+(W64 (80*(AA (Fj v5).2 3).1))))+(W64 (5*(AA (Z5E v5) 3).1)))),.i (FO v5).1,.b (JX v5)] 59),(25,Z5G v5),(31,Z5l),(100000,Z5x v6_4)]⟩ (.cons (cWr (BS (Z5B v5) 5 au5 au8)) (.cons (cWr (BS (AA (Z5B v5) 5).2 3 au5 au8)) (.cons (cWr (BS (Z5E v5) 3 au5 au8)) .nil))) (.cons rfl (.cons rfl (.cons rfl (.cons rfl (.cons rfl (.cons rfl .nil))))))<|AH ?_
  refine rc [] [v6_4.length=v6_4.length,v6_4.length+1<=maxLen,(v6_4.length+1)*72<=140737488355328] ⟨(Dj l [(6,tP 6 0),(7,Z5r l),(8,tI v8)]),[(2,Z5f),(6,.cells (FM l [.own 86 7 (v6_4.length+1),.own 31 2 3,vN,vN,vN,vN,vN,vN,vN,vN,vN]) 42),(25,Z5G v5),(31,Z5l),(86,.row 7 (v6_4.length+1) (fun i_ j_=>if i_<v6_4.length then (AU AF.c v6_4) i_ j_ else (As 7 1 [.i (W64 (1+v8)),.s (([({ data := #[82,49] }:ByteArray),({ data := #[82,50] }:ByteArray),({ data := #[120,47,82,49] }:ByteArray)]:List ByteArray).getD v8.toNat ⟨#[]⟩),.s ([Z5g l,Z5h l].getD (AA v5 2).1.toNat default).Name,.i (W64 ((W64 (80+(W64 (100*v8))))+(W64 (5*(Fj v5).1)))),.i (W64 ((W64 (100+(W64 (80*(AA (Fj v5).2 3).1))))+(W64 (5*(AA (Z5E v5) 3).1)))),.i (FO v5).1,.b (JX v5)]) (i_-v6_4.length) j_) 59)]⟩ .nil (.cons rfl (.cons au18 (.cons au18 .nil)))<|Bd<|AH ?_
  refine BN (Cv.trans (BF (⟨(Dj l [(6,tP 6 0),(7,Z5r l),(8,tI v8)]),[(2,Z5f),(6,Z5H l v6_4 v8 v5),(25,Z5G v5),(31,Z5l),(86,Z5I v6_4 v8 l v5)]⟩) lr (.cons ⟨rfl,.refl _⟩ (.cons ⟨rfl,.cells _ (rr4 (.cons (.own _ _ au0) (rr (rr (rr (rr (rr (rr (rr (rr (rr (rr .nil))))))))))))⟩ (.cons ⟨rfl,.refl _⟩ (.cons ⟨rfl,.refl _⟩ (.cons ⟨rfl,Ai 59 (BO (BA 7 AF.c v6_4) (Ar (c:=AF.c) (xs:=([AF.mk (W64 (1+v8)) (([({ data := #[82,49] }:ByteArray),({ data := #[82,50] }:ByteArray),({ data := #[120,47,82,49] }:ByteArray)]:List ByteArray).getD v8.toNat ⟨#[]⟩) ([Z5g l,Z5h l].getD (AA v5 2).1.toNat default).Name (AD.mk (W64 ((W64 (80+(W64 (100*v8))))+(W64 (5*(AA (Z5B v5) 5).1)))) (W64 ((W64 (100+(W64 (80*(AA (AA (Z5B v5) 5).2 3).1))))+(W64 (5*(AA (Z5E v5) 3).1))))) (AA (AA v5 2).2 4).1 (JX v5)]:List AF)) rfl kr))⟩ .nil)))))) (Cv.refl _)) ?_
  refine rg ⟨(Dj l [(6,tP 6 0),(7,Z5r l),(8,tI (W64 (v8+1)))]),[(2,Z5f),(6,Z5H l v6_4 v8 v5),(25,Z5G v5),(31,Z5l),(86,Z5I v6_4 v8 l v5)]⟩ ?_
  (try rw [(show W64 (v8+1)=v8+1 from Ao oM au6)])
  refine AH ?_
  refine ⟨(n0,v6_4++[AF.mk (W64 (1+v8)) (([({ data := #[82,49] }:ByteArray),({ data := #[82,50] }:ByteArray),({ data := #[120,47,82,49] }:ByteArray)]:List ByteArray).getD v8.toNat ⟨#[]⟩) ([Z5g l,Z5h l].getD (AA v5 2).1.toNat default).Name (AD.mk (W64 ((W64 (80+(W64 (100*v8))))+(W64 (5*(AA (Z5B v5) 5).1)))) (W64 ((W64 (100+(W64 (80*(AA (AA (Z5B v5) 5).2 3).1))))+(W64 (5*(AA (Z5E v5) 3).1))))) (AA (AA v5 2).2 4).1 (JX v5)],(AA (Z5E v5) 3).2,v8+1),⟨?_,?_,(by rw [<- hF0];simp only [CL,h1,cond_true,cond_false])⟩,Nat.lt_succ_self _,Cv.trans (vr 86 100000 hk0) (A6 kr)⟩
  ·show ((W64 (1+(AA (AA (AC.mk (AR l 2) 0) 3).2 3).1))-(v8+1)).toNat<n0;omega
  exact ⟨ax0,(by show Nb [A0 (AR l 0) ({ data := #[82] }:ByteArray),A0 (AR l 1) ({ data := #[81] }:ByteArray)] (v6_4++[AF.mk (W64 (1+v8)) (([({ data := #[82,49] }:ByteArray),({ data := #[82,50] }:ByteArray),({ data := #[120,47,82,49] }:ByteArray)]:List ByteArray).getD v8.toNat ⟨#[]⟩) ([Z5g l,Z5h l].getD (AA v5 2).1.toNat default).Name (AD.mk (W64 ((W64 (80+(W64 (100*v8))))+(W64 (5*(AA (Z5B v5) 5).1)))) (W64 ((W64 (100+(W64 (80*(AA (AA (Z5B v5) 5).2 3).1))))+(W64 (5*(AA (Z5E v5) 3).1))))) (AA (AA v5 2).2 4).1 (JX v5)]);first | exact Tt | exact Tu (by assumption) (Ny _ _ _ (Cy _ 2 (by decide) (by decide))) | assumption),(by show Bf ((AA (Z5E v5) 3).2);repeat (first | with_reducible assumption | exact Ca (DD hll _) | with_reducible refine BR ?_ | with_reducible refine D6 ?_ | with_reducible refine DQ ?_ | with_reducible refine C6 ?_  | with_reducible refine Ci ?_ ?_)),ax0,ax0,ax0⟩
 have g1:=oF h1
 have k1:=QL g1 (by decide) (by decide) (by decide) (by decide)
 refine BJ<|A4 ?_
 refine A4<|BK ?_
 refine AH<|AB ?_
 refine rs 89 (D0 l 3) ⟨(CR l []),[(2,Z5f),(6,Z5w l v6_4),(31,Z5l),(91,Z5t l),(100000,Z5x v6_4)]⟩ (FD l 3 au12)<|AH ?_
 refine AB<|AB ?_
 refine rn ⟨(CR l [(10,tI 0)]),[(2,Z5f),(6,Z5w l v6_4),(31,Z5l),(91,Z5t l),(100000,Z5x v6_4)]⟩<|AX ?_
 refine BN (Cv.trans (vg 100001 2 (fun _ _=>default) 25 [] [(31,[1])] hk0) (Cv.trans (vg 100002 2 (fun _ _=>default) 25 [] [(31,[3])] hk0) (Cv.trans (wg (⟨(CR l [(10,tI 0)]),[(100003,.row 2 0 (fun _ _=>default) 25),(100002,.row 2 0 (fun _ _=>default) 25),(100001,.row 2 0 (fun _ _=>default) 25),(2,Z5f),(6,Z5w l v6_4),(31,.rowx 2 3 (fun _ _=>default) 48 [(0,[.s ({ data := #[78,49] }:ByteArray),.own 100001 2 0]),(1,[.s ({ data := #[78,50] }:ByteArray),.own 100002 2 0]),(2,[.s ({ data := #[71,78,68] }:ByteArray),.own 100003 2 0])]),(91,Z5t l),(100000,Z5x v6_4)]⟩) 100003 2 (fun _ _=>default) 25 [] [(31,[5])] hk0) (Cv.trans (BF (⟨(CR l [(10,tI 0)]),[(100003,Z5J),(100002,Z5J),(100001,Z5J),(2,Z5f),(6,Z5w l v6_4),(31,Z68),(91,Z5t l),(100000,Z5x v6_4)]⟩) lr (.cons ⟨rfl,Ai 25 (B8 2 (fun _ _=>default) Ab.c)⟩ (.cons ⟨rfl,Ai 25 (B8 2 (fun _ _=>default) Ab.c)⟩ (.cons ⟨rfl,Ai 25 (B8 2 (fun _ _=>default) Ab.c)⟩ (.cons ⟨rfl,.refl _⟩ (.cons ⟨rfl,.refl _⟩ (.cons ⟨rfl,.rowx _ _ _ _ (.cons ⟨rfl,(rr (.cons (.own _ _ au0) .nil))⟩ (.cons ⟨rfl,(rr (.cons (.own _ _ au0) .nil))⟩ (.cons ⟨rfl,(rr (.cons (.own _ _ au0) .nil))⟩ .nil)))⟩ lr))))))) (Cv.trans (ck (⟨(CR l [(10,tI 0)]),[(2,Z5f),(6,Z5w l v6_4),(31,Z68),(91,Z5t l),(100000,Z5x v6_4),(100001,Z5J),(100002,Z5J),(100003,Z5J)]⟩)) (Cv.refl _)))))) ?_
 refine BH (ι:=Nat×List Ab×List Ab×List Ab×AC×Int) (fun x=>⟨(CR l [(10,tI x.2.2.2.2.2)]),[(2,Z5f),(6,Z5w l v6_4),(31,.rowx 2 3 (fun _ _=>default) 48 [(0,[.s ({ data := #[78,49] }:ByteArray),.own 100001 2 x.2.1.length]),(1,[.s ({ data := #[78,50] }:ByteArray),.own 100002 2 x.2.2.1.length]),(2,[.s ({ data := #[71,78,68] }:ByteArray),.own 100003 2 x.2.2.2.1.length])]),(91,.cells (AC.c x.2.2.2.2.1) 146),(100000,Z5x v6_4),(100001,.row 2 x.2.1.length (AU Ab.c x.2.1) 25),(100002,.row 2 x.2.2.1.length (AU Ab.c x.2.2.1) 25),(100003,.row 2 x.2.2.2.1.length (AU Ab.c x.2.2.2.1) 25)]⟩) (fun x=>((W64 (1+(AA (AA (AC.mk (AR l 2) 0) 3).2 3).1))-x.2.2.2.2.2).toNat<x.1/\(C1 x.2.1 (6*x.2.2.2.2.2)/\C1 x.2.2.1 (6*x.2.2.2.2.2)/\C1 x.2.2.2.1 (6*x.2.2.2.2.2)/\Bf x.2.2.2.2.1/\0<=x.2.2.2.2.2/\(x.2.2.2.2.2<=(W64 (1+(AA (AA (AC.mk (AR l 2) 0) 3).2 3).1))\/x.2.2.2.2.2=0))/\Cs l v6_4 v5 v8 (CL l n0) x.1 x.2.1 x.2.2.1 x.2.2.2.1 x.2.2.2.2.1 x.2.2.2.2.2=CY l) (fun x=>x.1) ?_ (((W64 (1+(AA (AA (AC.mk (AR l 2) 0) 3).2 3).1))-0).toNat+1,([]:List Ab),([]:List Ab),([]:List Ab),AC.mk (AR l 3) 0,0) ⟨Nat.lt_succ_self _,⟨(by show C1 ([]:List Ab) (6*0);unfold C1 at *;repeat (first | omega | exact EJ oM | refine EI ?_ ?_ | (simp;done))),(by show C1 ([]:List Ab) (6*0);unfold C1 at *;repeat (first | omega | exact EJ oM | refine EI ?_ ?_ | (simp;done))),(by show C1 ([]:List Ab) (6*0);unfold C1 at *;repeat (first | omega | exact EJ oM | refine EI ?_ ?_ | (simp;done))),(by show Bf (AC.mk (AR l 3) 0);repeat (first | with_reducible assumption | exact Ca (DD hll _) | with_reducible refine BR ?_ | with_reducible refine D6 ?_ | with_reducible refine DQ ?_ | with_reducible refine C6 ?_  | with_reducible refine Ci ?_ ?_)),ax0,ax0⟩,(by rw [<- hF0];simp only [CL,h1,cond_true,cond_false])⟩
 rintro ⟨n1,v31_1,v31_3,v31_5,v5',v10⟩ ⟨hm1,hinv1,hF1⟩
 try dsimp only at hm1 hinv1 hF1
 cases n1 with | zero=>exact nz hm1 | succ n1 => ?_
 have hi1_0:=hinv1.1
 have hi1_1:=hinv1.2.1
 have hi1_2:=hinv1.2.2.1
 have hi1_3:=hinv1.2.2.2.1
 refine AB<|AB ?_
 refine rn ⟨(CR l [(10,tI v10),(94,Z5O v10 l)]),[(2,Z5f),(6,Z5w l v6_4),(31,Z69 v31_1 v31_3 v31_5),(Hd v5'),(100000,Z5x v6_4),(100001,Z5K v31_1),(100002,Z5L v31_3),(100003,Z5M v31_5)]⟩ ?_
 refine Aa (decide ((v10:Int)<(W64 (1+(AA (AA (AC.mk (AR l 2) 0) 3).2 3).1)))) kr (fun h2 => ?_) (fun h2 => ?_)
 ·have g2:=oT h2
  have k2:=QB g2 (by decide) (by decide) (by decide) (by decide)
  have kk2:=M8 g2 (by decide) (by decide) (by decide) (by decide)
  refine Ac<|AH ?_
  refine AB<|AX<|AB ?_
  refine rc [(105,NT [Z5g l,Z5h l] (v6_4.getD v10.toNat default).Type')] [0<=(v10:Int)/\(v10:Int)<((v6_4.length:Nat):Int),v10.toNat<v6_4.length,Aw (NT [Z5g l,Z5h l] (v6_4.getD v10.toNat default).Type').2.1] ⟨(CR l [(10,tI v10),(11,tP 11 0)]),(Dn l v6_4 v10 [(31,Z69 v31_1 v31_3 v31_5),(Hd v5'),(100000,Z5x v6_4),(100001,Z5K v31_1),(100002,Z5L v31_3),(100003,Z5M v31_5)])⟩ (.cons (T3 [Z5g l,Z5h l] (v6_4.getD v10.toNat default).Type' au12) .nil) (.cons au13 (.cons au13 (.cons rfl .nil)))<|AH<|AB ?_
  refine rn ⟨(CR l [(10,tI v10),(11,tP 11 0),(13,tI 0)]),(Dn l v6_4 v10 [(31,Z69 v31_1 v31_3 v31_5),(Hd v5'),(100000,Z5x v6_4),(100001,Z5K v31_1),(100002,Z5L v31_3),(100003,Z5M v31_5)])⟩<|AX ?_
  refine BH (ι:=Nat×List Ab×List Ab×List Ab×AC×Int) (fun x=>⟨(CR l [(10,tI v10),(11,tP 11 0),(13,tI x.2.2.2.2.2)]),(Dn l v6_4 v10 [(31,.rowx 2 3 (fun _ _=>default) 48 [(0,[.s ({ data := #[78,49] }:ByteArray),.own 100001 2 x.2.1.length]),(1,[.s ({ data := #[78,50] }:ByteArray),.own 100002 2 x.2.2.1.length]),(2,[.s ({ data := #[71,78,68] }:ByteArray),.own 100003 2 x.2.2.2.1.length])]),(91,.cells (AC.c x.2.2.2.2.1) 146),(100000,Z5x v6_4),(100001,.row 2 x.2.1.length (AU Ab.c x.2.1) 25),(100002,.row 2 x.2.2.1.length (AU Ab.c x.2.2.1) 25),(100003,.row 2 x.2.2.2.1.length (AU Ab.c x.2.2.2.1) 25)])⟩) (fun x=>(((Z5P l v6_4 v10).Pads.length:Int)-x.2.2.2.2.2).toNat<x.1/\(C1 x.2.1 (6*v10+x.2.2.2.2.2)/\C1 x.2.2.1 (6*v10+x.2.2.2.2.2)/\C1 x.2.2.2.1 (6*v10+x.2.2.2.2.2)/\Bf x.2.2.2.2.1/\0<=x.2.2.2.2.2/\(x.2.2.2.2.2<=((Z5P l v6_4 v10).Pads.length:Int)\/x.2.2.2.2.2=0))/\C7 l v6_4 v5 v8 v31_1 v31_3 v31_5 v5' v10 (CL l n0) (Cs l v6_4 v5 v8 (CL l n0) n1) x.1 x.2.1 x.2.2.1 x.2.2.2.1 x.2.2.2.2.1 x.2.2.2.2.2=CY l) (fun x=>x.1) ?_ ((((Z5P l v6_4 v10).Pads.length:Int)-0).toNat+1,v31_1,v31_3,v31_5,v5',0) ⟨Nat.lt_succ_self _,⟨(by show C1 v31_1 (6*v10+0);unfold C1 at *;repeat (first | omega | exact EJ oM | refine EI ?_ ?_ | (simp;done))),(by show C1 v31_3 (6*v10+0);unfold C1 at *;repeat (first | omega | exact EJ oM | refine EI ?_ ?_ | (simp;done))),(by show C1 v31_5 (6*v10+0);unfold C1 at *;repeat (first | omega | exact EJ oM | refine EI ?_ ?_ | (simp;done))),(by show Bf v5';repeat (first | with_reducible assumption | exact Ca (DD hll _) | with_reducible refine BR ?_ | with_reducible refine D6 ?_ | with_reducible refine DQ ?_ | with_reducible refine C6 ?_  | with_reducible refine Ci ?_ ?_)),ax0,ax0⟩,(by rw [<- hF1];simp only [Cs,h2,cond_true,cond_false])⟩
  rintro ⟨n2,v31_1',v31_3',v31_5',v5'',v13⟩ ⟨hm2,hinv2,hF2⟩
  try dsimp only at hm2 hinv2 hF2
  cases n2 with | zero=>exact nz hm2 | succ n2 => ?_
  have hi2_0:=hinv2.1
  have hi2_1:=hinv2.2.1
  have hi2_2:=hinv2.2.2.1
  have hi2_3:=hinv2.2.2.2.1
  have hp6:((Z5P l v6_4 v10).Pads.length:Int)<=6:=(hi0_1 v10 oM oM).2
  refine AB<|AB ?_
  refine rn ⟨(CR l [(10,tI v10),(11,tP 11 0),(13,tI v13),(112,tB (decide ((v13:Int)<((Z5P l v6_4 v10).Pads.length:Int))))]),(Dn l v6_4 v10 [(31,Z6a v31_1' v31_3' v31_5'),(91,.cells (AC.c v5'') 146),(100000,Z5x v6_4),(100001,Z5R v31_1'),(100002,Z5S v31_3'),(100003,Z5T v31_5')])⟩ ?_
  refine Aa _ rfl (fun h3 => ?_) (fun h3 => ?_)
  ·have g3:=oT h3
   refine Ac<|AH<|AB ?_
   refine Bz (⟨[(0,.av (oL l)),(2,tP 2 0),(4,tO (lst 3 AQ.c [Z5g l,Z5h l])),(5,tP 91 0),(6,tP 6 0),(7,tI (W64 (1+(AA (Fp l).2 3).1))),(10,tI v10),(11,tP 11 0),(13,tI v13)],[(2,.cells Nv 42),(6,.cells [.i 2,.i (Z5o l).Kind,lst 7 AO.c (Z5o l).Edges,.i (Z5o l).R,.own 100000 7 v6_4.length,.own 31 2 3,vN,vN,vN,vN,vN,vN,vN,vN,vN] 42),(11,.cells (AQ.c (Z5P l v6_4 v10)) 114),(31,.rowx 2 3 (fun _ _=>default) 48 [(0,[.s ({ data := #[78,49] }:ByteArray),.own 100004 2 (Z5Y v5'' v31_1' v6_4 v10 l v13).length]),(1,[.s ({ data := #[78,50] }:ByteArray),.own 100005 2 (Z5Z v5'' v31_3' v6_4 v10 l v13).length]),(2,[.s ({ data := #[71,78,68] }:ByteArray),.own 100006 2 (Z60 v5'' v31_5' v6_4 v10 l v13).length])]),(GA v5''),(100000,.row 7 v6_4.length (AU AF.c v6_4) 59),(100004,.row 2 (Z5Y v5'' v31_1' v6_4 v10 l v13).length (AU Ab.c (Z5Y v5'' v31_1' v6_4 v10 l v13)) 25),(100005,.row 2 (Z5Z v5'' v31_3' v6_4 v10 l v13).length (AU Ab.c (Z5Z v5'' v31_3' v6_4 v10 l v13)) 25),(100006,.row 2 (Z60 v5'' v31_5' v6_4 v10 l v13).length (AU Ab.c (Z60 v5'' v31_5' v6_4 v10 l v13)) 25)]⟩) ?_ ?_
   ·refine AX<|AB ?_
    refine rb 116 (Z5U v5'') (.cells (AC.c v5'') 146) ⟨(CR l [(10,tI v10),(11,tP 11 0),(13,tI v13),(14,tI (AA v5'' 5).1)]),(Dn l v6_4 v10 [(31,Z6a v31_1' v31_3' v31_5'),(GA v5''),(100000,Z5x v6_4),(100001,Z5R v31_1'),(100002,Z5S v31_3'),(100003,Z5T v31_5')])⟩ (cWr (BS v5'' 5 au5 au8))<|AH<|AB ?_
    refine rn ⟨(CR l [(10,tI v10),(11,tP 11 0),(13,tI v13),(14,tI (AA v5'' 5).1),(118,tB (decide (((AA v5'' 5).1:Int)<3)))]),(Dn l v6_4 v10 [(31,Z6a v31_1' v31_3' v31_5'),(GA v5''),(100000,Z5x v6_4),(100001,Z5R v31_1'),(100002,Z5S v31_3'),(100003,Z5T v31_5')])⟩ ?_
    refine Aa _ rfl (fun h4 => ?_) (fun h4 => ?_)
    ·have g4:=oT h4
     refine R0 (decide (((AA v5'' 5).1:Int)=0)) (fun h5 => ?_) (fun h5 => ?_)
     ·have g5:=oT h5
      (try rw [g5])
      refine dw [] [] [0<=(0:Int)/\(0:Int)<((3:Nat):Int),0<=(v10:Int)/\(v10:Int)<((v6_4.length:Nat):Int),v10.toNat<v6_4.length,0<=(v13:Int)/\(v13:Int)<(((Z5P l v6_4 v10).Pads.length:Nat):Int),v31_1'.length=v31_1'.length,v31_1'.length+1<=maxLen,(v31_1'.length+1)*32<=140737488355328,0<=(0:Int)/\(0:Int)<((3:Nat):Int)] ⟨(CR l [(10,tI v10),(11,tP 11 0),(13,tI v13)]),(Dn l v6_4 v10 [(31,.rowx 2 3 (fun _ _=>default) 48 [(0,[.s ({ data := #[78,49] }:ByteArray),.own 142 2 (v31_1'.length+1)]),(1,[.s ({ data := #[78,50] }:ByteArray),.own 100002 2 v31_3'.length]),(2,[.s ({ data := #[71,78,68] }:ByteArray),.own 100003 2 v31_5'.length])]),(GA v5''),(142,.row 2 (v31_1'.length+1) (fun i_ j_=>if i_<v31_1'.length then (AU Ab.c v31_1') i_ j_ else (SK v6_4 v10 l v13) (i_-v31_1'.length) j_) 25),(100000,Z5x v6_4),(100002,Z5S v31_3'),(100003,Z5T v31_5')])⟩ .nil (.cons au13 (.cons au13 (.cons au13 (.cons au13 (.cons rfl (.cons au18 (.cons au18 (.cons au13 .nil))))))))<|Bd<|AH ?_
      refine Cv.trans (BF (⟨(CR l [(10,tI v10),(11,tP 11 0),(13,tI v13)]),(Dn l v6_4 v10 [(31,.rowx 2 3 (fun _ _=>default) 48 [(0,[.s ({ data := #[78,49] }:ByteArray),.own 142 2 (v31_1'++(HO v6_4 v10 l v13)).length]),(1,[.s ({ data := #[78,50] }:ByteArray),.own 100002 2 v31_3'.length]),(2,[.s ({ data := #[71,78,68] }:ByteArray),.own 100003 2 v31_5'.length])]),(GA v5''),(142,Z5V v31_1' v6_4 v10 l v13),(100000,Z5x v6_4),(100002,Z5S v31_3'),(100003,Z5T v31_5')])⟩) lr (.cons ⟨rfl,.refl _⟩ (.cons ⟨rfl,.refl _⟩ (.cons ⟨rfl,.refl _⟩ (.cons ⟨rfl,.rowx _ _ _ _ (.cons ⟨rfl,(rr (.cons (.own _ _ au0) .nil))⟩ (.cons ⟨rfl,(rr2 .nil)⟩ (.cons ⟨rfl,(rr2 .nil)⟩ .nil)))⟩ (.cons ⟨rfl,.refl _⟩ (.cons ⟨rfl,Ai 25 (BO (BA 2 Ab.c v31_1') (Ar (c:=Ab.c) (xs:=([Ab.mk (v6_4.getD v10.toNat default).Ref ((Z5P l v6_4 v10).Pads.getD v13.toNat default).Name]:List Ab)) rfl kr))⟩ lr))))))) (Cv.trans (vr 142 100004 hk0) (Cv.trans (vr 100002 100005 hk0) (Cv.trans (vr 100003 100006 hk0) (Cv.trans (ck (⟨(CR l [(10,tI v10),(11,tP 11 0),(13,tI v13)]),(Dn l v6_4 v10 [(31,Z6b v31_1' v6_4 v10 l v13 v31_3' v31_5'),(GA v5''),(100000,Z5x v6_4),(100004,Z5V v31_1' v6_4 v10 l v13),(100005,Z5S v31_3'),(100006,Z5T v31_5')])⟩)) (A6 ?_)))))
      first | rfl | (simp only [h4,h5,Z5Y,Z5Z,Z60,cond_true,cond_false] <;> rfl)
     have g5:=oF h5
     refine R0 (decide (((AA v5'' 5).1:Int)=1)) (fun h6 => ?_) (fun h6 => ?_)
     ·have g6:=oT h6
      (try rw [g6])
      refine dw [] [] [0<=(1:Int)/\(1:Int)<((3:Nat):Int),0<=(v10:Int)/\(v10:Int)<((v6_4.length:Nat):Int),v10.toNat<v6_4.length,0<=(v13:Int)/\(v13:Int)<(((Z5P l v6_4 v10).Pads.length:Nat):Int),v31_3'.length=v31_3'.length,v31_3'.length+1<=maxLen,(v31_3'.length+1)*32<=140737488355328,0<=(1:Int)/\(1:Int)<((3:Nat):Int)] ⟨(CR l [(10,tI v10),(11,tP 11 0),(13,tI v13)]),(Dn l v6_4 v10 [(31,.rowx 2 3 (fun _ _=>default) 48 [(0,[.s ({ data := #[78,49] }:ByteArray),.own 100001 2 v31_1'.length]),(1,[.s ({ data := #[78,50] }:ByteArray),.own 142 2 (v31_3'.length+1)]),(2,[.s ({ data := #[71,78,68] }:ByteArray),.own 100003 2 v31_5'.length])]),(GA v5''),(142,.row 2 (v31_3'.length+1) (fun i_ j_=>if i_<v31_3'.length then (AU Ab.c v31_3') i_ j_ else (SK v6_4 v10 l v13) (i_-v31_3'.length) j_) 25),(100000,Z5x v6_4),(100001,Z5R v31_1'),(100003,Z5T v31_5')])⟩ .nil (.cons au13 (.cons au13 (.cons au13 (.cons au13 (.cons rfl (.cons au18 (.cons au18 (.cons au13 .nil))))))))<|Bd<|AH ?_
      refine Cv.trans (BF (⟨(CR l [(10,tI v10),(11,tP 11 0),(13,tI v13)]),(Dn l v6_4 v10 [(31,.rowx 2 3 (fun _ _=>default) 48 [(0,[.s ({ data := #[78,49] }:ByteArray),.own 100001 2 v31_1'.length]),(1,[.s ({ data := #[78,50] }:ByteArray),.own 142 2 (v31_3'++(HO v6_4 v10 l v13)).length]),(2,[.s ({ data := #[71,78,68] }:ByteArray),.own 100003 2 v31_5'.length])]),(GA v5''),(142,Z5W v31_3' v6_4 v10 l v13),(100000,Z5x v6_4),(100001,Z5R v31_1'),(100003,Z5T v31_5')])⟩) lr (.cons ⟨rfl,.refl _⟩ (.cons ⟨rfl,.refl _⟩ (.cons ⟨rfl,.refl _⟩ (.cons ⟨rfl,.rowx _ _ _ _ (.cons ⟨rfl,(rr2 .nil)⟩ (.cons ⟨rfl,(rr (.cons (.own _ _ au0) .nil))⟩ (.cons ⟨rfl,(rr2 .nil)⟩ .nil)))⟩ (.cons ⟨rfl,.refl _⟩ (.cons ⟨rfl,Ai 25 (BO (BA 2 Ab.c v31_3') (Ar (c:=Ab.c) (xs:=([Ab.mk (v6_4.getD v10.toNat default).Ref ((Z5P l v6_4 v10).Pads.getD v13.toNat default).Name]:List Ab)) rfl kr))⟩ lr))))))) (Cv.trans (vr 100001 100004 hk0) (Cv.trans (vr 142 100005 hk0) (Cv.trans (vr 100003 100006 hk0) (Cv.trans (ck (⟨(CR l [(10,tI v10),(11,tP 11 0),(13,tI v13)]),(Dn l v6_4 v10 [(31,Z6c v31_1' v31_3' v6_4 v10 l v13 v31_5'),(GA v5''),(100000,Z5x v6_4),(100004,Z5R v31_1'),(100005,Z5W v31_3' v6_4 v10 l v13),(100006,Z5T v31_5')])⟩)) (A6 ?_)))))
      first | rfl | (simp only [h4,h5,h6,Z5Y,Z5Z,Z60,cond_true,cond_false] <;> rfl)
     have g6:=oF h6
     have g7:((AA v5'' 5).1:Int)=2:=VK (by with_reducible assumption) (by with_reducible assumption) (by with_reducible assumption)
     (try rw [g7])
     refine dw [] [] [0<=(2:Int)/\(2:Int)<((3:Nat):Int),0<=(v10:Int)/\(v10:Int)<((v6_4.length:Nat):Int),v10.toNat<v6_4.length,0<=(v13:Int)/\(v13:Int)<(((Z5P l v6_4 v10).Pads.length:Nat):Int),v31_5'.length=v31_5'.length,v31_5'.length+1<=maxLen,(v31_5'.length+1)*32<=140737488355328,0<=(2:Int)/\(2:Int)<((3:Nat):Int)] ⟨(CR l [(10,tI v10),(11,tP 11 0),(13,tI v13)]),(Dn l v6_4 v10 [(31,.rowx 2 3 (fun _ _=>default) 48 [(0,[.s ({ data := #[78,49] }:ByteArray),.own 100001 2 v31_1'.length]),(1,[.s ({ data := #[78,50] }:ByteArray),.own 100002 2 v31_3'.length]),(2,[.s ({ data := #[71,78,68] }:ByteArray),.own 142 2 (v31_5'.length+1)])]),(GA v5''),(142,.row 2 (v31_5'.length+1) (fun i_ j_=>if i_<v31_5'.length then (AU Ab.c v31_5') i_ j_ else (SK v6_4 v10 l v13) (i_-v31_5'.length) j_) 25),(100000,Z5x v6_4),(100001,Z5R v31_1'),(100002,Z5S v31_3')])⟩ .nil (.cons au13 (.cons au13 (.cons au13 (.cons au13 (.cons rfl (.cons au18 (.cons au18 (.cons au13 .nil))))))))<|Bd<|AH ?_
     refine Cv.trans (BF (⟨(CR l [(10,tI v10),(11,tP 11 0),(13,tI v13)]),(Dn l v6_4 v10 [(31,.rowx 2 3 (fun _ _=>default) 48 [(0,[.s ({ data := #[78,49] }:ByteArray),.own 100001 2 v31_1'.length]),(1,[.s ({ data := #[78,50] }:ByteArray),.own 100002 2 v31_3'.length]),(2,[.s ({ data := #[71,78,68] }:ByteArray),.own 142 2 (v31_5'++(HO v6_4 v10 l v13)).length])]),(GA v5''),(142,Z5X v31_5' v6_4 v10 l v13),(100000,Z5x v6_4),(100001,Z5R v31_1'),(100002,Z5S v31_3')])⟩) lr (.cons ⟨rfl,.refl _⟩ (.cons ⟨rfl,.refl _⟩ (.cons ⟨rfl,.refl _⟩ (.cons ⟨rfl,.rowx _ _ _ _ (.cons ⟨rfl,(rr2 .nil)⟩ (.cons ⟨rfl,(rr2 .nil)⟩ (.cons ⟨rfl,(rr (.cons (.own _ _ au0) .nil))⟩ .nil)))⟩ (.cons ⟨rfl,.refl _⟩ (.cons ⟨rfl,Ai 25 (BO (BA 2 Ab.c v31_5') (Ar (c:=Ab.c) (xs:=([Ab.mk (v6_4.getD v10.toNat default).Ref ((Z5P l v6_4 v10).Pads.getD v13.toNat default).Name]:List Ab)) rfl kr))⟩ lr))))))) (Cv.trans (vr 100001 100004 hk0) (Cv.trans (vr 100002 100005 hk0) (Cv.trans (vr 142 100006 hk0) (Cv.trans (ck (⟨(CR l [(10,tI v10),(11,tP 11 0),(13,tI v13)]),(Dn l v6_4 v10 [(31,Z6d v31_1' v31_3' v31_5' v6_4 v10 l v13),(GA v5''),(100000,Z5x v6_4),(100004,Z5R v31_1'),(100005,Z5S v31_3'),(100006,Z5X v31_5' v6_4 v10 l v13)])⟩)) (A6 ?_)))))
     first | rfl | (simp only [h4,h5,h6,Z5Y,Z5Z,Z60,cond_true,cond_false] <;> rfl)
    refine Ac<|Bd<|AH ?_
    refine Cv.trans (vk [0,2,4,5,6,7,10,11,13] [2,6,11,31,91,100000,100001,100002,100003]) (Cv.trans (vr 100001 100004 hk0) (Cv.trans (vr 100002 100005 hk0) (Cv.trans (wr (⟨(CR l [(10,tI v10),(11,tP 11 0),(13,tI v13)]),(Dn l v6_4 v10 [(31,.rowx 2 3 (fun _ _=>default) 48 [(0,[.s ({ data := #[78,49] }:ByteArray),.own 100004 2 v31_1'.length]),(1,[.s ({ data := #[78,50] }:ByteArray),.own 100005 2 v31_3'.length]),(2,[.s ({ data := #[71,78,68] }:ByteArray),.own 100006 2 v31_5'.length])]),(GA v5''),(100000,Z5x v6_4),(100004,Z5R v31_1'),(100005,Z5S v31_3'),(100006,Z5T v31_5')])⟩) 100003 100006 hk0) (A6 ?_))))
    first | rfl | (simp only [h4,Z5Y,Z5Z,Z60,cond_true,cond_false] <;> rfl)
   refine rg ⟨(CR l [(10,tI v10),(11,tP 11 0),(13,tI (W64 (v13+1)))]),(Dn l v6_4 v10 [(31,.rowx 2 3 (fun _ _=>default) 48 [(0,[.s ({ data := #[78,49] }:ByteArray),.own 100004 2 (Z5Y v5'' v31_1' v6_4 v10 l v13).length]),(1,[.s ({ data := #[78,50] }:ByteArray),.own 100005 2 (Z5Z v5'' v31_3' v6_4 v10 l v13).length]),(2,[.s ({ data := #[71,78,68] }:ByteArray),.own 100006 2 (Z60 v5'' v31_5' v6_4 v10 l v13).length])]),(GA v5''),(100000,Z5x v6_4),(100004,Z61 v5'' v31_1' v6_4 v10 l v13),(100005,Z62 v5'' v31_3' v6_4 v10 l v13),(100006,Z63 v5'' v31_5' v6_4 v10 l v13)])⟩ ?_
   (try rw [(show W64 (v13+1)=v13+1 from Ao oM au6)])
   refine AH ?_
   refine ⟨(n2,Z5Y v5'' v31_1' v6_4 v10 l v13,Z5Z v5'' v31_3' v6_4 v10 l v13,Z60 v5'' v31_5' v6_4 v10 l v13,(AA v5'' 5).2,v13+1),⟨?_,?_,(by rw [<- hF2];simp only [C7,h3,cond_true,cond_false])⟩,Nat.lt_succ_self _,Cv.trans (vr 100004 100001 hk0) (Cv.trans (vr 100005 100002 hk0) (Cv.trans (vr 100006 100003 hk0) (A6 kr)))⟩
   ·show (((Z5P l v6_4 v10).Pads.length:Int)-(v13+1)).toNat<n2;omega
   exact ⟨(by show C1 (Z5Y v5'' v31_1' v6_4 v10 l v13) (6*v10+(v13+1));unfold C1 at *;repeat (first | omega | exact EJ oM | refine EI ?_ ?_ | (simp;done))),(by show C1 (Z5Z v5'' v31_3' v6_4 v10 l v13) (6*v10+(v13+1));unfold C1 at *;repeat (first | omega | exact EJ oM | refine EI ?_ ?_ | (simp;done))),(by show C1 (Z60 v5'' v31_5' v6_4 v10 l v13) (6*v10+(v13+1));unfold C1 at *;repeat (first | omega | exact EJ oM | refine EI ?_ ?_ | (simp;done))),(by show Bf ((AA v5'' 5).2);repeat (first | with_reducible assumption | exact Ca (DD hll _) | with_reducible refine BR ?_ | with_reducible refine D6 ?_ | with_reducible refine DQ ?_ | with_reducible refine C6 ?_  | with_reducible refine Ci ?_ ?_)),ax0,ax0⟩
  have g3:=oF h3
  refine BJ<|A4 ?_
  refine A4<|BK ?_
  refine Bd<|AH ?_
  refine rg ⟨(CR l [(10,tI (W64 (v10+1)))]),[(2,Z5f),(6,Z5w l v6_4),(31,Z6a v31_1' v31_3' v31_5'),(91,.cells (AC.c v5'') 146),(100000,Z5x v6_4),(100001,Z5R v31_1'),(100002,Z5S v31_3'),(100003,Z5T v31_5')]⟩ ?_
  (try rw [(show W64 (v10+1)=v10+1 from Ao oM au6)])
  refine AH ?_
  refine ⟨(n1,v31_1',v31_3',v31_5',v5'',v10+1),⟨?_,?_,(by rw [<- hF2];simp only [C7,h3,cond_true,cond_false])⟩,Nat.lt_succ_self _,A6 kr⟩
  ·show ((W64 (1+(AA (AA (AC.mk (AR l 2) 0) 3).2 3).1))-(v10+1)).toNat<n1;omega
  exact ⟨(by show C1 v31_1' (6*(v10+1));unfold C1 at *;repeat (first | omega | exact EJ oM | refine EI ?_ ?_ | (simp;done))),(by show C1 v31_3' (6*(v10+1));unfold C1 at *;repeat (first | omega | exact EJ oM | refine EI ?_ ?_ | (simp;done))),(by show C1 v31_5' (6*(v10+1));unfold C1 at *;repeat (first | omega | exact EJ oM | refine EI ?_ ?_ | (simp;done))),(by show Bf v5'';repeat (first | with_reducible assumption | exact Ca (DD hll _) | with_reducible refine BR ?_ | with_reducible refine D6 ?_ | with_reducible refine DQ ?_ | with_reducible refine C6 ?_  | with_reducible refine Ci ?_ ?_)),ax0,ax0⟩
 have g2:=oF h2
 have k2:=QL g2 (by decide) (by decide) (by decide) (by decide)
 refine BJ<|A4 ?_
 refine A4<|BK ?_
 refine AH<|AB ?_
 refine BN (Cv.trans (wf (⟨(CR l [(10,tI v10),(94,Z5O v10 l)]),[(2,Z5f),(6,Z5N l v6_4),(31,Z69 v31_1 v31_3 v31_5),(Hd v5'),(100001,Z5K v31_1),(100002,Z5L v31_3),(100003,Z5M v31_5)]⟩) 100000 7 v6_4.length (AU AF.c v6_4) 59 hk0 (.cons ⟨rfl,rfl⟩ .nil)) (Cv.refl _)) ?_
 refine BN (Cv.trans (vf 100001 2 v31_1.length (AU Ab.c v31_1) 25 hk0 (.cons ⟨rfl,rfl⟩ .nil)) (Cv.trans (vf 100002 2 v31_3.length (AU Ab.c v31_3) 25 hk0 (.cons ⟨rfl,rfl⟩ .nil)) (Cv.trans (wf (⟨(CR l [(10,tI v10),(94,Z5O v10 l)]),[(2,Z5f),(6,Z5N l v6_4),(31,.rowx 2 3 (fun _ _=>default) 48 [(0,[.s ({ data := #[78,49] }:ByteArray),lst 2 Ab.c v31_1]),(1,[.s ({ data := #[78,50] }:ByteArray),lst 2 Ab.c v31_3]),(2,[.s ({ data := #[71,78,68] }:ByteArray),lst 2 Ab.c v31_5])]),(Hd v5')]⟩) 100003 2 v31_5.length (AU Ab.c v31_5) 25 hk0 (.cons ⟨rfl,rfl⟩ .nil)) (Cv.trans (YE (⟨(CR l [(10,tI v10),(94,Z5O v10 l)]),[(2,Z5f),(6,Z5N l v6_4),(31,.row 2 3 (As 2 3 [.s ({ data := #[78,49] }:ByteArray),lst 2 Ab.c v31_1,.s ({ data := #[78,50] }:ByteArray),lst 2 Ab.c v31_3,.s ({ data := #[71,78,68] }:ByteArray),lst 2 Ab.c v31_5]) 48),(Hd v5')]⟩) 31 2 3 (fun _ _=>default) 48 [[.s ({ data := #[78,49] }:ByteArray),lst 2 Ab.c v31_1],[.s ({ data := #[78,50] }:ByteArray),lst 2 Ab.c v31_3],[.s ({ data := #[71,78,68] }:ByteArray),lst 2 Ab.c v31_5]] kr kr kr kr) (Cv.trans (BF (⟨(CR l [(10,tI v10),(94,Z5O v10 l)]),[(2,Z5f),(6,.cells (FM l [lst 7 AF.c v6_4,.own 31 2 ([A3.mk ({ data := #[78,49] }:ByteArray) v31_1,A3.mk ({ data := #[78,50] }:ByteArray) v31_3,A3.mk ({ data := #[71,78,68] }:ByteArray) v31_5].length),vN,vN,vN,vN,vN,vN,vN,vN,vN]) 42),(31,.row 2 ([A3.mk ({ data := #[78,49] }:ByteArray) v31_1,A3.mk ({ data := #[78,50] }:ByteArray) v31_3,A3.mk ({ data := #[71,78,68] }:ByteArray) v31_5].length) (AU A3.c [A3.mk ({ data := #[78,49] }:ByteArray) v31_1,A3.mk ({ data := #[78,50] }:ByteArray) v31_3,A3.mk ({ data := #[71,78,68] }:ByteArray) v31_5]) 48),(Hd v5')]⟩) lr (.cons ⟨rfl,.refl _⟩ (.cons ⟨rfl,.cells _ (rr5 (.cons (.own _ _ au0) (rr (rr (rr (rr (rr (rr (rr (rr (rr .nil)))))))))))⟩ (.cons ⟨rfl,Ai 48 (Ar (c:=A3.c) (xs:=([A3.mk ({ data := #[78,49] }:ByteArray) v31_1,A3.mk ({ data := #[78,50] }:ByteArray) v31_3,A3.mk ({ data := #[71,78,68] }:ByteArray) v31_5]:List A3)) rfl kr)⟩ lr)))) (Cv.trans (wf (⟨(CR l [(10,tI v10),(94,Z5O v10 l)]),[(2,Z5f),(6,.cells (FM l [lst 7 AF.c v6_4,lst 2 A3.c [A3.mk ({ data := #[78,49] }:ByteArray) v31_1,A3.mk ({ data := #[78,50] }:ByteArray) v31_3,A3.mk ({ data := #[71,78,68] }:ByteArray) v31_5],vN,vN,vN,vN,vN,vN,vN,vN,vN]) 42),(Hd v5')]⟩) 31 2 ([A3.mk ({ data := #[78,49] }:ByteArray) v31_1,A3.mk ({ data := #[78,50] }:ByteArray) v31_3,A3.mk ({ data := #[71,78,68] }:ByteArray) v31_5].length) (AU A3.c [A3.mk ({ data := #[78,49] }:ByteArray) v31_1,A3.mk ({ data := #[78,50] }:ByteArray) v31_3,A3.mk ({ data := #[71,78,68] }:ByteArray) v31_5]) 48 hk0 (.cons ⟨rfl,rfl⟩ .nil)) (Cv.refl _))))))) ?_
 refine rb 147 (Z65 l v6_4 v31_1 v31_3 v31_5) (.cells (FM l [lst 7 AF.c v6_4,lst 2 A3.c [A3.mk ({ data := #[78,49] }:ByteArray) v31_1,A3.mk ({ data := #[78,50] }:ByteArray) v31_3,A3.mk ({ data := #[71,78,68] }:ByteArray) v31_5],vN,vN,vN,vN,vN,vN,vN,vN,vN]) 42) ⟨[(0,Z5e l),(2,tP 2 0),(4,Z5i l),(6,tP 6 0)],[(2,Z5f),(6,.cells (Tk l v6_4 v31_1 v31_3 v31_5) 42)]⟩ (cWr (Sh (AG.mk 2 (Z5o l) v6_4 [A3.mk ({ data := #[78,49] }:ByteArray) v31_1,A3.mk ({ data := #[78,50] }:ByteArray) v31_3,A3.mk ({ data := #[71,78,68] }:ByteArray) v31_5] [] [] [] [] [] [] [] [] []) [Z5g l,Z5h l] l au12 au12 au12 au12 au12 au12))<|AH<|AB ?_
 refine rc [(149,D0 l 7),(152,(Z67 l v6_4 v31_1 v31_3 v31_5))] [Aw (D0 l 7).2.1,Aw (Z67 l v6_4 v31_1 v31_3 v31_5).2.1,QY [.cells (Tk l v6_4 v31_1 v31_3 v31_5) 42,.cells [lst 1 eIn (AR l 7),.i 0] 146]] ⟨[(2,tP 2 0),(4,Z5i l),(6,tP 6 0)],[(2,Z5f),(6,.cells (AG.c (Z66 l v6_4 v31_1 v31_3 v31_5).1) 42)]⟩ (.cons (FD l 7 au12) (.cons (TR (fun _ _=>kr) kr rfl rfl kr kr (Wq (AG.mk (Z64 l v6_4 v31_1 v31_3 v31_5).Layers (Z64 l v6_4 v31_1 v31_3 v31_5).Outline (Z64 l v6_4 v31_1 v31_3 v31_5).Parts (Z64 l v6_4 v31_1 v31_3 v31_5).Nets (Z64 l v6_4 v31_1 v31_3 v31_5).Tracks (Z64 l v6_4 v31_1 v31_3 v31_5).Vias (Z64 l v6_4 v31_1 v31_3 v31_5).Pours (Z64 l v6_4 v31_1 v31_3 v31_5).Keeps (Z64 l v6_4 v31_1 v31_3 v31_5).Slots [] [] [] []) (AC.mk (AR l 7) 0) au5 au12 au12 au12 au12 au12 au12 au12)) .nil)) (.cons rfl (.cons rfl (.cons rfl .nil)))<|AH<|AB ?_
 refine rn ⟨[(2,tP 2 0),(3,Z5i l)],[(2,.cells (AG.c (Z66 l v6_4 v31_1 v31_3 v31_5).1) 42)]⟩<|Ae ?_
 exact xl (.tup [.agg (AG.c (Z66 l v6_4 v31_1 v31_3 v31_5).1),.one (lst 3 AQ.c [Z5g l,Z5h l])]) (An (by rw [<- hF1];first | (simp only [Cs,h2,cond_true,cond_false] <;> rfl)))
theorem XD (l:(List (List Int))) (hl:(l.length:Int)<=9223372036854775807) (hll:∀ x∈l,(x.length:Int)<=9223372036854775807):OKc (Lo l):=cPu<|ZI l hl hll
end
abbrev nN1:ByteArray:={ data := #[78,49] }
abbrev nN2:ByteArray:={ data := #[78,50] }
abbrev ZX:ByteArray:={ data := #[71,78,68] }
structure Gq (B:AG):Prop where
 lay:B.Layers=2
 par:1<=(B.Parts.length:Int)/\(B.Parts.length:Int)<=3
 net:∃ p q r,B.Nets=[A3.mk nN1 p,A3.mk nN2 q,A3.mk ZX r]
 trk:(B.Tracks.length:Int)<=6
 edg:∀ t∈B.Tracks,(t.Shape.Edges.length:Int)<=2
 via:(B.Vias.length:Int)<=3
 pou:(B.Pours.length:Int)<=3
 kee:(B.Keeps.length:Int)<=1
 slo:(B.Slots.length:Int)<=1
theorem bY {α:Type} {c:Bool} {a b:AG×α} (h:Gq a.1) (k:Gq b.1):Gq (bif c then a else b).1:=by cases c <;> assumption
theorem Yq {b:AG} {d:AC} (h:Gq b):Gq (Cb b d).1:=by
 unfold Cb
 obtain ⟨h1,h2,h3,h4,h5,h6,h7,h8,h9⟩:=h
 exact bY ⟨h1,h2,h3,h4,h5,h6,h7,h8,h9⟩ ⟨h1,h2,h3,h4,h5,h6,h7,h8,h9⟩
theorem bW {b:AG} {types:List AQ} {l:List (List Int)} {x y z w:List Unit} (h1:b.Layers=2) (h2:1<=(b.Parts.length:Int)/\(b.Parts.length:Int)<=3) (h3:∃ p q r,b.Nets=[A3.mk nN1 p,A3.mk nN2 q,A3.mk ZX r]) {c:List BI} {ru:List Ap} {wa:List Am} {ma:List BT} :
  Gq (AG.mk (BG b types l).Layers (BG b types l).Outline (BG b types l).Parts (BG b types l).Nets (BG b types l).Tracks (BG b types l).Vias (BG b types l).Pours (BG b types l).Keeps (BG b types l).Slots c ru wa ma):=by
 obtain ⟨k1,k2,k3,k4,k5,k6,k7,k8,k9,k10⟩:=FZ b types l
 exact ⟨k1.trans h1,by show 1<=((BG b types l).Parts.length:Int)/\((BG b types l).Parts.length:Int)<=3;rw [k3];exact h2,by rw [<- k4] at h3;exact h3,k5,k6,k7,k8,k9,k10⟩
theorem UF (l:List (List Int)) (v6_4:List AF) (v5:AC) (v8:Int) (a1 a3 a5:List Ab) (d1:AC) (v10:Int) (K0:List AF->AC->Int->(AG×(List AQ))) (K1:List Ab->List Ab->List Ab->AC->Int->(AG×(List AQ))) (hK:∀ a b c d,Gq (K1 a b c d (v10+1)).1):∀ (n:Nat) (x y z:List Ab) (d:AC) (k:Int),0<=k->(((Bi [A0 (AR l 0) ({ data := #[82] }:ByteArray),A0 (AR l 1) ({ data := #[81] }:ByteArray)] (v6_4.getD v10.toNat default).Type').1.Pads.length:Int)-k).toNat<n->Gq (C7 l v6_4 v5 v8 a1 a3 a5 d1 v10 K0 K1 n x y z d k).1
 | 0,x,y,z,d,k,_,h=>absurd h (Nat.not_lt_zero _)
 | n+1,x,y,z,d,k,k0,h=>by
  unfold C7
  show Gq (bif decide ((k:Int)<((Bi [A0 (AR l 0) ({ data := #[82] }:ByteArray),A0 (AR l 1) ({ data := #[81] }:ByteArray)] (v6_4.getD v10.toNat default).Type').1.Pads.length:Int)) then (_:AG×List AQ) else _).1
  by_cases hc:(k:Int)<((Bi [A0 (AR l 0) ({ data := #[82] }:ByteArray),A0 (AR l 1) ({ data := #[81] }:ByteArray)] (v6_4.getD v10.toNat default).Type').1.Pads.length:Int)
  ·rw [decide_eq_true hc]
   exact UF l v6_4 v5 v8 a1 a3 a5 d1 v10 K0 K1 hK n _ _ _ _ _ (by omega) (by omega)
  rw [decide_eq_false hc]
  exact hK _ _ _ _
theorem UG (l:List (List Int)) (v6_4:List AF) (v5:AC) (v8:Int) (K0:List AF->AC->Int->(AG×(List AQ))) (hp:1<=(v6_4.length:Int)/\(v6_4.length:Int)<=3):∀ (n:Nat) (x y z:List Ab) (d:AC) (k:Int),0<=k->(W64 (1+(AA (AA (AC.mk (AR l 2) 0) 3).2 3).1)-k).toNat<n->Gq (Cs l v6_4 v5 v8 K0 n x y z d k).1
 | 0,x,y,z,d,k,_,h=>absurd h (Nat.not_lt_zero _)
 | n+1,x,y,z,d,k,k0,h=>by
  unfold Cs
  by_cases hc:k<W64 (1+(AA (AA (AC.mk (AR l 2) 0) 3).2 3).1)
  ·simp only [hc,decide_true,cond_true]
   exact UF l v6_4 v5 v8 x y z d k K0 _ (fun a b c e=>UG l v6_4 v5 v8 K0 hp n a b c e (k+1) (by omega) (by omega)) _ _ _ _ _ 0 (by omega) (Nat.lt_succ_self _)
  simp only [hc,decide_false,cond_false]
  exact Yq (bW (x:=[]) (y:=[]) (z:=[]) (w:=[]) rfl hp ⟨_,_,_,rfl⟩)
theorem UH (l:List (List Int)):∀ (n:Nat) (v:List AF) (d:AC) (k:Int),0<=k->(v.length:Int)=k->k<=W64 (1+(AA (AA (AC.mk (AR l 2) 0) 3).2 3).1)->(W64 (1+(AA (AA (AC.mk (AR l 2) 0) 3).2 3).1)-k).toNat<n->Gq (CL l n v d k).1
 | 0,v,d,k,_,_,_,h=>absurd h (Nat.not_lt_zero _)
 | n+1,v,d,k,k0,kv,k1,h=>by
  have hmany:1<=W64 (1+(AA (AA (AC.mk (AR l 2) 0) 3).2 3).1)/\W64 (1+(AA (AA (AC.mk (AR l 2) 0) 3).2 3).1)<=3:=by
   have:=Cy (AA (AC.mk (AR l 2) 0) 3).2 3 (by decide) (by decide)
   rw [Ao (by omega) (by omega)];omega
  unfold CL
  by_cases hc:k<W64 (1+(AA (AA (AC.mk (AR l 2) 0) 3).2 3).1)
  ·simp only [hc,decide_true,cond_true]
   exact UH l n _ _ _ (by omega) (by simp only [List.length_append,List.length_cons,List.length_nil];omega) (by omega) (by omega)
  simp only [hc,decide_false,cond_false]
  exact UG l v d k _ (by omega) _ _ _ _ _ 0 (by omega) (Nat.lt_succ_self _)
theorem cB (l:List (List Int)):Gq (CY l).1:=by
 have hmany:1<=W64 (1+(AA (AA (AC.mk (AR l 2) 0) 3).2 3).1):=by
  have:=Cy (AA (AC.mk (AR l 2) 0) 3).2 3 (by decide) (by decide)
  rw [Ao (by omega) (by omega)];omega
 unfold CY
 exact UH l _ _ _ 0 (by omega) rfl (by omega) (Nat.lt_succ_self _)
section
open Go.RowKit
def Aq (op:Int) (tx:ByteArray) (n:Int) (bx:Al):BL:=BL.mk op tx n bx (OpL.mk 0 (fun _ _=>default))
abbrev EX:Nat×Blk:=(2,.cells SL 105)
variable (xop:Int) (xtx:ByteArray) (op xn:Int) (tx:ByteArray) (yop n:Int) (xbx:Al) (ytx:ByteArray) (yn:Int) (bx:Al) (c:BL) (f:Nat->Nat->Cl) (ybx:Al)
abbrev C2 (t_:List Cl):List Cl:=(.i op)::(.s tx)::(.i n)::(.i bx.X0)::(.i bx.Y0)::(.i bx.X1)::(.i bx.Y1)::t_
abbrev GB:Nat×Blk:=(1,.cells (C2 op tx n bx [vN]) 105)
abbrev Tj:List Cl:=(C2 op tx n bx [vN])
theorem Pu  (op:Int) (tx:ByteArray) (n:Int) (bx:Al):FG Try.prog 40 [.agg [.i op,.s tx,.i n,.i bx.X0,.i bx.Y0,.i bx.X1,.i bx.Y1,vN]] (.av (.agg (BL.c (Aq op tx n bx)))):=by
 refine pwf Try.func40 fun W0 M0 => ?_
 refine AB<|rn ⟨HL,[(GB op tx n bx),EX]⟩<|AB ?_
 refine rn ⟨[(1,tP 1 0),(2,tP 2 0),KR],[(GB op tx n bx),EX]⟩<|AB ?_
 refine rn ⟨[(1,tP 1 0),(2,tP 2 0),KR],[(GB op tx n bx),EX]⟩ ?_
 refine AB<|AB ?_
 refine rn ⟨[(1,tP 1 0),(2,tP 2 0),KR,(4,tI 0)],[(GB op tx n bx),EX]⟩<|AX ?_
 refine Ex 1 ?_
 refine DF<|AB<|AB ?_
 refine rn ⟨[(1,tP 1 0),(2,tP 2 0),KR,(4,tI 0),(11,tB false)],[(GB op tx n bx),EX]⟩ ?_
 refine Di kr<|BJ ?_
 refine A4<|A4 ?_
 refine BK<|AH<|AB ?_
 refine rn ⟨[(2,tP 2 0)],[(2,.cells (Tj op tx n bx) 105)]⟩<|Ae ?_
 exact xl (.av (.agg (Tj op tx n bx))) (DI (y:=.av (.agg (C2 op tx n bx [opL (OpL.mk 0 (fun _ _=>default))]))) (.av (.agg (rr5 (rr2 (.cons (.nil _ _) .nil))))) (by rfl))
abbrev Ti:List Cl:=[.i xop,.s xtx,.i xn,.i xbx.X0,.i xbx.Y0,.i xbx.X1,.i xbx.Y1,vN]
def Z6e:CT:=(40,[.agg (Ti xop xtx xn xbx)],.val [] (.av (.agg (BL.c (Aq xop xtx xn xbx)))))
def Zz (xop:Int) (xtx:ByteArray) (xn:Int) (xbx:Al) (op:Int) (tx:ByteArray) (n:Int) (bx:Al):BL:=BL.mk op tx n bx (OpL.mk ([Aq xop xtx xn xbx].length) (AU BL.c [Aq xop xtx xn xbx]))
abbrev JZ:Nat×Tv:=(3,.av (.one (.list false 8 1 (As 8 1 [.i xop,.s xtx,.i xn,.i xbx.X0,.i xbx.Y0,.i xbx.X1,.i xbx.Y1,vN]))))
abbrev Pd (op:Int) (tx:ByteArray) (n:Int) (bx:Al) (xop:Int) (xtx:ByteArray) (xn:Int) (xbx:Al):List (Nat×Blk):=[(1,.cells (C2 op tx n bx [.own 100000 8 ([Aq xop xtx xn xbx].length)]) 105),EX,(100000,.row 8 ([Aq xop xtx xn xbx].length) (AU BL.c [Aq xop xtx xn xbx]) 105)]
abbrev Pb (op:Int) (tx:ByteArray) (n:Int) (bx:Al) (xop:Int) (xtx:ByteArray) (xn:Int) (xbx:Al):List (Nat×Blk):=[(1,.cells (C2 op tx n bx [.own 22 8 ([Aq xop xtx xn xbx].length)]) 105),EX,(22,.row 8 ([Aq xop xtx xn xbx].length) (AU BL.c [Aq xop xtx xn xbx]) 105)]
theorem ZE  (xop:Int) (xtx:ByteArray) (xn:Int) (xbx:Al) (op:Int) (tx:ByteArray) (n:Int) (bx:Al):FG Try.prog 40 [.agg [.i op,.s tx,.i n,.i bx.X0,.i bx.Y0,.i bx.X1,.i bx.Y1,.list false 8 1 (As 8 1 [.i xop,.s xtx,.i xn,.i xbx.X0,.i xbx.Y0,.i xbx.X1,.i xbx.Y1,vN])]] (.av (.agg (BL.c (Zz xop xtx xn xbx op tx n bx)))):=by
 refine pwf Try.func40 fun W0 M0 => ?_
 refine AB<|rn ⟨HL,[(1,.cells (C2 op tx n bx [.list false 8 1 (As 8 1 (Ti xop xtx xn xbx))]) 105),EX]⟩<|AB ?_
 refine rn ⟨[(1,tP 1 0),(2,tP 2 0),(JZ xop xtx xn xbx)],[(1,.cells (C2 op tx n bx [.list false 8 1 (As 8 1 (Ti xop xtx xn xbx))]) 105),EX]⟩<|AB ?_
 refine rn ⟨[(1,tP 1 0),(2,tP 2 0),(JZ xop xtx xn xbx)],[(GB op tx n bx),EX]⟩ ?_
 refine AB<|AB ?_
 refine rn ⟨[(1,tP 1 0),(2,tP 2 0),(JZ xop xtx xn xbx),(4,tI 0)],[(GB op tx n bx),EX]⟩<|AX ?_
 refine Ex 2 ?_
 refine DF<|AB<|AB ?_
 refine rn ⟨[(1,tP 1 0),(2,tP 2 0),(JZ xop xtx xn xbx),(4,tI 0),(11,tB true)],[(GB op tx n bx),EX]⟩ ?_
 refine DX kr<|Ac ?_
 refine AH<|AB<|AX ?_
 refine dw [] [(20,(Z6e xop xtx xn xbx))] [0<=(0:Int)/\(0:Int)<((1:Nat):Int),Aw (Z6e xop xtx xn xbx).2.1,1<=maxLen,1*88<=140737488355328] ⟨[(1,tP 1 0),(2,tP 2 0),(JZ xop xtx xn xbx),(4,tI 0)],[(1,.cells (C2 op tx n bx [.own 22 8 1]) 105),EX,(22,.row 8 1 (As 8 1 (BL.c (Aq xop xtx xn xbx))) 105)]⟩ (.cons (cPu<|Pu xop xtx xn xbx) .nil) (.cons au1 (.cons rfl (.cons au3 (.cons au3 .nil))))<|Bd<|AH ?_
 refine BN (Cv.trans (BF (⟨[(1,tP 1 0),(2,tP 2 0),(JZ xop xtx xn xbx),(4,tI 0)],(Pb op tx n bx xop xtx xn xbx)⟩) lr (.cons ⟨rfl,.cells _ (rr5 (rr2 (.cons (.own _ _ au0) .nil)))⟩ (.cons ⟨rfl,.refl _⟩ (.cons ⟨rfl,Ai 105 (Ar (c:=BL.c) (xs:=([Aq xop xtx xn xbx]:List BL)) rfl kr)⟩ .nil)))) (Cv.refl _)) ?_
 refine rn ⟨[(1,tP 1 0),(2,tP 2 0),(JZ xop xtx xn xbx),(4,tI 1)],(Pb op tx n bx xop xtx xn xbx)⟩ ?_
 refine DF ?_
 refine BN (Cv.trans (wr (⟨[(1,tP 1 0),(2,tP 2 0),(JZ xop xtx xn xbx),(4,tI 1)],(Pd op tx n bx xop xtx xn xbx)⟩) 22 100000 hk0) (Cv.refl _))<|AB<|AB ?_
 refine rn ⟨[(1,tP 1 0),(2,tP 2 0),(JZ xop xtx xn xbx),(4,tI 1),(11,tB false)],(Pd op tx n bx xop xtx xn xbx)⟩ ?_
 refine Di kr<|BJ ?_
 refine A4<|A4 ?_
 refine BK<|AH<|AB ?_
 refine rn ⟨[(2,tP 2 0)],[(2,.cells (C2 op tx n bx [.own 100000 8 ([Aq xop xtx xn xbx].length)]) 105),(100000,.row 8 ([Aq xop xtx xn xbx].length) (AU BL.c [Aq xop xtx xn xbx]) 105)]⟩<|Ae ?_
 exact yl (Cv.trans (vf 100000 8 ([Aq xop xtx xn xbx].length) (AU BL.c [Aq xop xtx xn xbx]) 105 hk0 (.cons ⟨rfl,rfl⟩ .nil)) (Cv.refl _)) (.av (.agg (C2 op tx n bx [lst 8 BL.c [Aq xop xtx xn xbx]]))) (An (by rfl))
def Z6f:CT:=(40,[.agg (Ti xop xtx xn xbx)],.val [] (.av (.agg (BL.c (Aq xop xtx xn xbx)))))
def Z6g:CT:=(40,[.agg [.i yop,.s ytx,.i yn,.i ybx.X0,.i ybx.Y0,.i ybx.X1,.i ybx.Y1,vN]],.val [] (.av (.agg (BL.c (Aq yop ytx yn ybx)))))
def Zy (xop:Int) (xtx:ByteArray) (xn:Int) (xbx:Al) (yop:Int) (ytx:ByteArray) (yn:Int) (ybx:Al) (op:Int) (tx:ByteArray) (n:Int) (bx:Al):BL:=BL.mk op tx n bx (OpL.mk ([Aq xop xtx xn xbx]++[Aq yop ytx yn ybx]).length (AU BL.c ([Aq xop xtx xn xbx]++[Aq yop ytx yn ybx])))
abbrev SH (xop:Int) (xtx:ByteArray) (xn:Int) (xbx:Al) (yop:Int) (ytx:ByteArray) (yn:Int) (ybx:Al):List Cl:=[.i xop,.s xtx,.i xn,.i xbx.X0,.i xbx.Y0,.i xbx.X1,.i xbx.Y1,vN,.i yop,.s ytx,.i yn,.i ybx.X0,.i ybx.Y0,.i ybx.X1,.i ybx.Y1,vN]
abbrev zzc11 (xop:Int) (xtx:ByteArray) (xn:Int) (xbx:Al) (yop:Int) (ytx:ByteArray) (yn:Int) (ybx:Al):Nat×Tv:=(3,.av (.one (.list false 8 2 (As 8 2 (SH xop xtx xn xbx yop ytx yn ybx)))))
abbrev EZ (xop:Int) (xtx:ByteArray) (xn:Int) (xbx:Al) (yop:Int) (ytx:ByteArray) (yn:Int) (ybx:Al) (t_:List (Nat×Tv)):List (Nat×Tv):=(1,tP 1 0)::(2,tP 2 0)::(zzc11 xop xtx xn xbx yop ytx yn ybx)::t_
theorem ZD  (xop:Int) (xtx:ByteArray) (xn:Int) (xbx:Al) (yop:Int) (ytx:ByteArray) (yn:Int) (ybx:Al) (op:Int) (tx:ByteArray) (n:Int) (bx:Al):FG Try.prog 40 [.agg [.i op,.s tx,.i n,.i bx.X0,.i bx.Y0,.i bx.X1,.i bx.Y1,.list false 8 2 (As 8 2 [.i xop,.s xtx,.i xn,.i xbx.X0,.i xbx.Y0,.i xbx.X1,.i xbx.Y1,vN,.i yop,.s ytx,.i yn,.i ybx.X0,.i ybx.Y0,.i ybx.X1,.i ybx.Y1,vN])]] (.av (.agg (BL.c (Zy xop xtx xn xbx yop ytx yn ybx op tx n bx)))):=by
 refine pwf Try.func40 fun W0 M0 => ?_
 refine AB<|rn ⟨HL,[(1,.cells (C2 op tx n bx [.list false 8 2 (As 8 2 (SH xop xtx xn xbx yop ytx yn ybx))]) 105),EX]⟩<|AB ?_
 refine rn ⟨(EZ xop xtx xn xbx yop ytx yn ybx []),[(1,.cells (C2 op tx n bx [.list false 8 2 (As 8 2 (SH xop xtx xn xbx yop ytx yn ybx))]) 105),EX]⟩<|AB ?_
 refine rn ⟨(EZ xop xtx xn xbx yop ytx yn ybx []),[(GB op tx n bx),EX]⟩ ?_
 refine AB<|AB ?_
 refine rn ⟨(EZ xop xtx xn xbx yop ytx yn ybx [(4,tI 0)]),[(GB op tx n bx),EX]⟩<|AX ?_
 refine Ex 3 ?_
 refine DF<|AB<|AB ?_
 refine rn ⟨(EZ xop xtx xn xbx yop ytx yn ybx [(4,tI 0),(11,tB true)]),[(GB op tx n bx),EX]⟩ ?_
 refine DX kr<|Ac ?_
 refine AH<|AB<|AX ?_
 refine dw [] [(20,(Z6f xop xtx xn xbx))] [0<=(0:Int)/\(0:Int)<((2:Nat):Int),Aw (Z6f xop xtx xn xbx).2.1,1<=maxLen,1*88<=140737488355328] ⟨(EZ xop xtx xn xbx yop ytx yn ybx [(4,tI 0)]),[(1,.cells (C2 op tx n bx [.own 22 8 1]) 105),EX,(22,.row 8 1 (As 8 1 (BL.c (Aq xop xtx xn xbx))) 105)]⟩ (.cons (cPu<|Pu xop xtx xn xbx) .nil) (.cons au1 (.cons rfl (.cons au3 (.cons au3 .nil))))<|Bd<|AH ?_
 refine BN (Cv.trans (BF (⟨(EZ xop xtx xn xbx yop ytx yn ybx [(4,tI 0)]),(Pb op tx n bx xop xtx xn xbx)⟩) lr (.cons ⟨rfl,.cells _ (rr5 (rr2 (.cons (.own _ _ au0) .nil)))⟩ (.cons ⟨rfl,.refl _⟩ (.cons ⟨rfl,Ai 105 (Ar (c:=BL.c) (xs:=([Aq xop xtx xn xbx]:List BL)) rfl kr)⟩ .nil)))) (Cv.refl _)) ?_
 refine rn ⟨(EZ xop xtx xn xbx yop ytx yn ybx [(4,tI 1)]),(Pb op tx n bx xop xtx xn xbx)⟩ ?_
 refine DF ?_
 refine BN (Cv.trans (wr (⟨(EZ xop xtx xn xbx yop ytx yn ybx [(4,tI 1)]),(Pd op tx n bx xop xtx xn xbx)⟩) 22 100000 hk0) (Cv.refl _))<|AB<|AB ?_
 refine rn ⟨(EZ xop xtx xn xbx yop ytx yn ybx [(4,tI 1),(11,tB true)]),(Pd op tx n bx xop xtx xn xbx)⟩ ?_
 refine DX kr<|Ac ?_
 refine AH<|AB<|AX ?_
 refine dw [] [(20,(Z6g yop ytx yn ybx))] [0<=(1:Int)/\(1:Int)<((2:Nat):Int),Aw (Z6g yop ytx yn ybx).2.1,[Aq xop xtx xn xbx].length=[Aq xop xtx xn xbx].length,([Aq xop xtx xn xbx].length)+1<=maxLen,(([Aq xop xtx xn xbx].length)+1)*88<=140737488355328] ⟨(EZ xop xtx xn xbx yop ytx yn ybx [(4,tI 1)]),[(1,.cells (C2 op tx n bx [.own 22 8 (([Aq xop xtx xn xbx].length)+1)]) 105),EX,(22,.row 8 (([Aq xop xtx xn xbx].length)+1) (fun i_ j_=>if i_<([Aq xop xtx xn xbx].length) then (AU BL.c [Aq xop xtx xn xbx]) i_ j_ else (As 8 1 (BL.c (Aq yop ytx yn ybx))) (i_-([Aq xop xtx xn xbx].length)) j_) 105)]⟩ (.cons (cPu<|Pu yop ytx yn ybx) .nil) (.cons au1 (.cons rfl (.cons rfl (.cons au3 (.cons au3 .nil)))))<|Bd<|AH ?_
 refine BN (Cv.trans (BF (⟨(EZ xop xtx xn xbx yop ytx yn ybx [(4,tI 1)]),[(1,.cells (C2 op tx n bx [.own 22 8 ([Aq xop xtx xn xbx]++[Aq yop ytx yn ybx]).length]) 105),EX,(22,.row 8 ([Aq xop xtx xn xbx]++[Aq yop ytx yn ybx]).length (AU BL.c ([Aq xop xtx xn xbx]++[Aq yop ytx yn ybx])) 105)]⟩) lr (.cons ⟨rfl,.cells _ (rr5 (rr2 (.cons (.own _ _ au0) .nil)))⟩ (.cons ⟨rfl,.refl _⟩ (.cons ⟨rfl,Ai 105 (BO (BA 8 BL.c [Aq xop xtx xn xbx]) (Ar (c:=BL.c) (xs:=([Aq yop ytx yn ybx]:List BL)) rfl kr))⟩ .nil)))) (Cv.refl _)) ?_
 refine rn ⟨(EZ xop xtx xn xbx yop ytx yn ybx [(4,tI 2)]),[(1,.cells (C2 op tx n bx [.own 22 8 ([Aq xop xtx xn xbx]++[Aq yop ytx yn ybx]).length]) 105),EX,(22,.row 8 ([Aq xop xtx xn xbx]++[Aq yop ytx yn ybx]).length (AU BL.c ([Aq xop xtx xn xbx]++[Aq yop ytx yn ybx])) 105)]⟩ ?_
 refine DF ?_
 refine BN (Cv.trans (wr (⟨(EZ xop xtx xn xbx yop ytx yn ybx [(4,tI 2)]),[(1,.cells (C2 op tx n bx [.own 100001 8 ([Aq xop xtx xn xbx]++[Aq yop ytx yn ybx]).length]) 105),EX,(100001,.row 8 ([Aq xop xtx xn xbx]++[Aq yop ytx yn ybx]).length (AU BL.c ([Aq xop xtx xn xbx]++[Aq yop ytx yn ybx])) 105)]⟩) 22 100001 hk0) (Cv.refl _))<|AB<|AB ?_
 refine rn ⟨(EZ xop xtx xn xbx yop ytx yn ybx [(4,tI 2),(11,tB false)]),[(1,.cells (C2 op tx n bx [.own 100001 8 ([Aq xop xtx xn xbx]++[Aq yop ytx yn ybx]).length]) 105),EX,(100001,.row 8 ([Aq xop xtx xn xbx]++[Aq yop ytx yn ybx]).length (AU BL.c ([Aq xop xtx xn xbx]++[Aq yop ytx yn ybx])) 105)]⟩ ?_
 refine Di kr<|BJ ?_
 refine A4<|A4 ?_
 refine BK<|AH<|AB ?_
 refine rn ⟨[(2,tP 2 0)],[(2,.cells (C2 op tx n bx [.own 100001 8 ([Aq xop xtx xn xbx]++[Aq yop ytx yn ybx]).length]) 105),(100001,.row 8 ([Aq xop xtx xn xbx]++[Aq yop ytx yn ybx]).length (AU BL.c ([Aq xop xtx xn xbx]++[Aq yop ytx yn ybx])) 105)]⟩<|Ae ?_
 exact yl (Cv.trans (vf 100001 8 ([Aq xop xtx xn xbx]++[Aq yop ytx yn ybx]).length (AU BL.c ([Aq xop xtx xn xbx]++[Aq yop ytx yn ybx])) 105 hk0 (.cons ⟨rfl,rfl⟩ .nil)) (Cv.refl _)) (.av (.agg (C2 op tx n bx [lst 8 BL.c ([Aq xop xtx xn xbx]++[Aq yop ytx yn ybx])]))) (An (by rfl))
def Zx (f:Nat->Nat->Cl) (op:Int) (tx:ByteArray) (n:Int) (bx:Al):BL:=BL.mk op tx n bx (OpL.mk 0 (fun _ _=>default))
abbrev O3:Nat×Tv:=(3,.av (.one (.list false 8 0 f)))
theorem ZC  (f:Nat->Nat->Cl) (op:Int) (tx:ByteArray) (n:Int) (bx:Al):FG Try.prog 40 [.agg [.i op,.s tx,.i n,.i bx.X0,.i bx.Y0,.i bx.X1,.i bx.Y1,.list false 8 0 f]] (.av (.agg (BL.c (Zx f op tx n bx)))):=by
 refine pwf Try.func40 fun W0 M0 => ?_
 refine AB<|rn ⟨HL,[(1,.cells (C2 op tx n bx [.list false 8 0 f]) 105),EX]⟩<|AB ?_
 refine rn ⟨[(1,tP 1 0),(2,tP 2 0),(O3 f)],[(1,.cells (C2 op tx n bx [.list false 8 0 f]) 105),EX]⟩<|AB ?_
 refine rn ⟨[(1,tP 1 0),(2,tP 2 0),(O3 f)],[(GB op tx n bx),EX]⟩ ?_
 refine AB<|AB ?_
 refine rn ⟨[(1,tP 1 0),(2,tP 2 0),(O3 f),(4,tI 0)],[(GB op tx n bx),EX]⟩<|AX ?_
 refine Ex 1 ?_
 refine DF<|AB<|AB ?_
 refine rn ⟨[(1,tP 1 0),(2,tP 2 0),(O3 f),(4,tI 0),(11,tB false)],[(GB op tx n bx),EX]⟩ ?_
 refine Di kr<|BJ ?_
 refine A4<|A4 ?_
 refine BK<|AH<|AB ?_
 refine rn ⟨[(2,tP 2 0)],[(2,.cells (Tj op tx n bx) 105)]⟩<|Ae ?_
 exact xl (.av (.agg (Tj op tx n bx))) (DI (y:=.av (.agg (C2 op tx n bx [opL (OpL.mk 0 (fun _ _=>default))]))) (.av (.agg (rr5 (rr2 (.cons (.nil _ _) .nil))))) (by rfl))
def clI:Cl->Int
 | .val (.int _ n)=>n
 | _=>0
def clS:Cl->ByteArray
 | .val (.string s)=>s
 | _=>⟨#[]⟩
def Bt (c:BL):Prop:=(∃ f,c.L=OpL.mk 0 f)\/(∃ (xop:Int) (xtx:ByteArray) (xn:Int) (xbx:Al),c.L=OpL.mk 1 (As 8 1 [.i xop,.s xtx,.i xn,.i xbx.X0,.i xbx.Y0,.i xbx.X1,.i xbx.Y1,vN]))\/∃ (xop:Int) (xtx:ByteArray) (xn:Int) (xbx:Al) (yop:Int) (ytx:ByteArray) (yn:Int) (ybx:Al),c.L=OpL.mk 2 (As 8 2 [.i xop,.s xtx,.i xn,.i xbx.X0,.i xbx.Y0,.i xbx.X1,.i xbx.Y1,vN,.i yop,.s ytx,.i yn,.i ybx.X0,.i ybx.Y0,.i ybx.X1,.i ybx.Y1,vN])
def Oi (f:Nat->Cl):BL:=Aq (clI (f 0)) (clS (f 1)) (clI (f 2)) (Al.mk (clI (f 3)) (clI (f 4)) (clI (f 5)) (clI (f 6)))
def copyL:OpL->OpL
 | ⟨0,_⟩=>OpL.mk 0 (fun _ _=>default)
 | ⟨1,f⟩=>OpL.mk ([Oi (f 0)].length) (AU BL.c [Oi (f 0)])
 | ⟨_+2,f⟩=>OpL.mk ([Oi (f 0)]++[Oi (f 1)]).length (AU BL.c ([Oi (f 0)]++[Oi (f 1)]))
def IL (c:BL):BL:=BL.mk c.Op c.Text c.N c.Box (copyL c.L)
def IE:CT:=(40,[.agg (BL.c c)],.val [] (.av (.agg (BL.c (IL c)))))
theorem U6 (c:BL) (h:Bt c):PuP 40 (IE c).2.1 (.av (.agg (BL.c (IL c)))):=by
 obtain ⟨op,tx,n,bx,l⟩:=c
 rcases h with ⟨f,e⟩ | ⟨xop,xtx,xn,xbx,e⟩ | ⟨xop,xtx,xn,xbx,yop,ytx,yn,ybx,e⟩
 ·have e:l=OpL.mk 0 f:=e
  subst e
  exact ZC f op tx n bx
 ·have e:l=OpL.mk 1 _:=e
  subst e
  exact ZE xop xtx xn xbx op tx n bx
 have e:l=OpL.mk 2 _:=e
 subst e
 exact ZD xop xtx xn xbx yop ytx yn ybx op tx n bx
theorem Mt (c:BL) (h:Bt c):OKc (IE c):=cPu<|U6 c h
def QZ (b:AG):Prop:=∀ r∈b.Rules,Bt r.A/\Bt r.B
theorem Je {b:AG} (h:QZ b) (k:Nat):Bt (b.Rules.getD k default).A/\Bt (b.Rules.getD k default).B:=E5 (p:=fun r:Ap=>Bt r.A/\Bt r.B) ⟨.inl ⟨_,rfl⟩,.inl ⟨_,rfl⟩⟩ h k
end
theorem frA {T:Type} (len:T->Nat) (l:T->List (Option Cl)) (row:T->Nat->Nat->Cl) {sz n:Nat} {ty:TypeId} {x y:T} {s':AS} (h:x=y) (hg:get s'.h n=some (.row sz (len x) (row x) ty)) :
  ∃ m,TvE (.av (.agg (Nl sz (len x) n (l x)))) (.av (.agg (Nl sz (len y) m (l y))))/\∃ b,get s'.h m=some b/\GS b (.row sz (len y) (row y) ty):=by subst h;exact ⟨n,.refl _,_,hg,.refl _⟩
section
open Go.RowKit
structure Qi (b:AG):Prop where
 lParts:(b.Parts.length:Int)<=1000000
 lNets:(b.Nets.length:Int)<=1000000
 lTracks:(b.Tracks.length:Int)<=1000000
 lVias:(b.Vias.length:Int)<=1000000
 lPours:(b.Pours.length:Int)<=1000000
 lKeeps:(b.Keeps.length:Int)<=1000000
 lSlots:(b.Slots.length:Int)<=1000000
 lClasses:(b.Classes.length:Int)<=1000000
 lWaivers:(b.Waivers.length:Int)<=1000000
 lMatches:(b.Matches.length:Int)<=1000000
 lRules:(b.Rules.length:Int)<=1000000
 out:(b.Outline.Edges.length:Int)<=1000000
 pin:∀ k,((b.Nets.getD k default).Pins.length:Int)<=1000000
 ted:∀ k,((b.Tracks.getD k default).Shape.Edges.length:Int)<=1000000
 rec':∀ k,((b.Pours.getD k default).Rects.length:Int)<=1000000
 ked:∀ k,((b.Keeps.getD k default).Shape.Edges.length:Int)<=1000000
 sed:∀ k,((b.Slots.getD k default).Shape.Edges.length:Int)<=1000000
 cnt:∀ k,((b.Classes.getD k default).Nets.length:Int)<=1000000
 mnt:∀ k,((b.Matches.getD k default).Nets.length:Int)<=1000000
 rok:QZ b
def Z6h:Blk:=.cells Nv 42
variable (b:AG) (v3_5:List A3) (v3_6:List Aj) (v3_8:List BB) (v3_9:List BQ) (v3_10:List BX) (v3_11:List BI) (v3_12:List Ap) (v16:Int) (v3_14:List BT) (v11 v13 v14 v4 v5 v7 v9:Int)
abbrev Jb:=Cz b.Outline
abbrev Ep (t_:List Cl):List Cl:=(.i b.Layers)::(.i (Jb b).Kind)::(lst 7 AO.c (Jb b).Edges)::(.i (Jb b).R)::(.own 26 7 b.Parts.length)::t_
def Z6i:Blk:=.cells (Ep b [vN,vN,lst 8 Br.c b.Vias,vN,vN,vN,vN,vN,lst 3 Am.c b.Waivers,vN]) 42
def Z6j:Blk:=.row 7 b.Parts.length (AU AF.c b.Parts) 59
def Z6k:Blk:=.row 2 ([]:List A3).length (AU A3.c ([]:List A3)) 48
def Z6l:Blk:=.cells (Ep b [.own 100000 2 ([]:List A3).length,vN,lst 8 Br.c b.Vias,vN,vN,vN,vN,vN,lst 3 Am.c b.Waivers,vN]) 42
def Z6m:Blk:=.cells (Ep b [.own 100000 2 v3_5.length,vN,lst 8 Br.c b.Vias,vN,vN,vN,vN,vN,lst 3 Am.c b.Waivers,vN]) 42
def Z6n:Blk:=.cells (Ep b [.own 61 2 (v3_5++[b.Nets.getD v4.toNat default]).length,vN,lst 8 Br.c b.Vias,vN,vN,vN,vN,vN,lst 3 Am.c b.Waivers,vN]) 42
def Z6o (v3_5:List A3) (b:AG) (v4:Int):Blk:=.row 2 (v3_5++[b.Nets.getD v4.toNat default]).length (AU A3.c (v3_5++[b.Nets.getD v4.toNat default])) 48
def Z6p:Blk:=.row 6 ([]:List Aj).length (AU Aj.c ([]:List Aj)) 85
def Z6q:Blk:=.cells (Ep b [.own 100000 2 v3_5.length,.own 100001 6 ([]:List Aj).length,lst 8 Br.c b.Vias,vN,vN,vN,vN,vN,lst 3 Am.c b.Waivers,vN]) 42
abbrev Bg (t_:List Cl):List Cl:=(.i b.Layers)::(.i (Jb b).Kind)::(lst 7 AO.c (Jb b).Edges)::(.i (Jb b).R)::(.own 26 7 b.Parts.length)::(.own 100000 2 v3_5.length)::(.own 100001 6 v3_6.length)::(lst 8 Br.c b.Vias)::t_
def Z6r:Blk:=.cells (Bg b v3_5 v3_6 [vN,vN,vN,vN,vN,lst 3 Am.c b.Waivers,vN]) 42
def Z6s:Blk:=.row 6 v3_6.length (AU Aj.c v3_6) 85
def Z6t:Ah:=Cz (b.Tracks.getD v5.toNat default).Shape
abbrev PK:=[Aj.mk (HN b v5).Id (HN b v5).Net (HN b v5).Layer (Z6t b v5)]
def Z6u:Blk:=.cells (Ep b [.own 100000 2 v3_5.length,.own 83 6 (v3_6++(PK b v5)).length,lst 8 Br.c b.Vias,vN,vN,vN,vN,vN,lst 3 Am.c b.Waivers,vN]) 42
def Z6v (v3_6:List Aj) (b:AG) (v5:Int):Blk:=.row 6 (v3_6++(PK b v5)).length (AU Aj.c (v3_6++(PK b v5))) 85
def Z6w:Blk:=.cells (Ep b [.own 100000 2 v3_5.length,.own 100001 6 (v3_6++(PK b v5)).length,lst 8 Br.c b.Vias,vN,vN,vN,vN,vN,lst 3 Am.c b.Waivers,vN]) 42
def Z6x:Blk:=.row 8 ([]:List BB).length (AU BB.c ([]:List BB)) 90
def Z6y:Blk:=.cells (Bg b v3_5 v3_6 [.own 100002 8 ([]:List BB).length,vN,vN,vN,vN,lst 3 Am.c b.Waivers,vN]) 42
def Z6z:Blk:=.cells (Bg b v3_5 v3_6 [.own 100002 8 v3_8.length,vN,vN,vN,vN,lst 3 Am.c b.Waivers,vN]) 42
def Z6A:Blk:=.row 8 v3_8.length (AU BB.c v3_8) 90
def Z6B:Blk:=.cells (Bg b v3_5 v3_6 [.own 106 8 (v3_8++[b.Pours.getD v7.toNat default]).length,vN,vN,vN,vN,lst 3 Am.c b.Waivers,vN]) 42
def Z6C (v3_8:List BB) (b:AG) (v7:Int):Blk:=.row 8 (v3_8++[b.Pours.getD v7.toNat default]).length (AU BB.c (v3_8++[b.Pours.getD v7.toNat default])) 90
def Z6D:Blk:=.cells (Bg b v3_5 v3_6 [.own 100002 8 (v3_8++[b.Pours.getD v7.toNat default]).length,vN,vN,vN,vN,lst 3 Am.c b.Waivers,vN]) 42
def Z6E:Blk:=.row 5 ([]:List BQ).length (AU BQ.c ([]:List BQ)) 93
def Z6F:Blk:=.cells (Bg b v3_5 v3_6 [.own 100002 8 v3_8.length,.own 100003 5 ([]:List BQ).length,vN,vN,vN,lst 3 Am.c b.Waivers,vN]) 42
abbrev Ij (t_:List Cl):List Cl:=(.own 100002 8 v3_8.length)::(.own 100003 5 v3_9.length)::t_
def Z6G:Blk:=.cells (Bg b v3_5 v3_6 (Ij v3_8 v3_9 [vN,vN,vN,lst 3 Am.c b.Waivers,vN])) 42
def Z6H:Blk:=.row 5 v3_9.length (AU BQ.c v3_9) 93
def Z6I:Ah:=Cz (b.Keeps.getD v9.toNat default).Shape
abbrev Qk:=b.Keeps.getD v9.toNat default
abbrev O8:=[BQ.mk (Qk b v9).Id (Qk b v9).Layer (Z6I b v9)]
def Z6J:Blk:=.cells (Bg b v3_5 v3_6 [.own 100002 8 v3_8.length,.own 128 5 (v3_9++(O8 b v9)).length,vN,vN,vN,lst 3 Am.c b.Waivers,vN]) 42
def Z6K (v3_9:List BQ) (b:AG) (v9:Int):Blk:=.row 5 (v3_9++(O8 b v9)).length (AU BQ.c (v3_9++(O8 b v9))) 93
def Z6L:Blk:=.cells (Bg b v3_5 v3_6 [.own 100002 8 v3_8.length,.own 100003 5 (v3_9++(O8 b v9)).length,vN,vN,vN,lst 3 Am.c b.Waivers,vN]) 42
def Z6M:Blk:=.row 4 ([]:List BX).length (AU BX.c ([]:List BX)) 95
def Z6N:Blk:=.cells (Bg b v3_5 v3_6 (Ij v3_8 v3_9 [.own 100004 4 ([]:List BX).length,vN,vN,lst 3 Am.c b.Waivers,vN])) 42
abbrev DA (t_:List Cl):List Cl:=(.own 100002 8 v3_8.length)::(.own 100003 5 v3_9.length)::(.own 100004 4 v3_10.length)::t_
def Z6O:Blk:=.cells (Bg b v3_5 v3_6 (DA v3_8 v3_9 v3_10 [vN,vN,lst 3 Am.c b.Waivers,vN])) 42
def Z6P:Blk:=.row 4 v3_10.length (AU BX.c v3_10) 95
def Z6Q:Ah:=Cz (b.Slots.getD v11.toNat default).Shape
abbrev PC:=[BX.mk (b.Slots.getD v11.toNat default).Id (Z6Q b v11)]
def Z6R:Blk:=.cells (Bg b v3_5 v3_6 (Ij v3_8 v3_9 [.own 150 4 (v3_10++(PC b v11)).length,vN,vN,lst 3 Am.c b.Waivers,vN])) 42
def Z6S (v3_10:List BX) (b:AG) (v11:Int):Blk:=.row 4 (v3_10++(PC b v11)).length (AU BX.c (v3_10++(PC b v11))) 95
def Z6T:Blk:=.cells (Bg b v3_5 v3_6 (Ij v3_8 v3_9 [.own 100004 4 (v3_10++(PC b v11)).length,vN,vN,lst 3 Am.c b.Waivers,vN])) 42
def Z6U:Blk:=.row 2 ([]:List BI).length (AU BI.c ([]:List BI)) 98
def Z6V:Blk:=.cells (Bg b v3_5 v3_6 (DA v3_8 v3_9 v3_10 [.own 100005 2 ([]:List BI).length,vN,lst 3 Am.c b.Waivers,vN])) 42
abbrev HX (v3_11:List BI) (b:AG) (t_:List Cl):List Cl:=(.own 100005 2 v3_11.length)::vN::(lst 3 Am.c b.Waivers)::t_
def Z6W:Blk:=.cells (Bg b v3_5 v3_6 (DA v3_8 v3_9 v3_10 (HX v3_11 b [vN]))) 42
def Z6X:Blk:=.row 2 v3_11.length (AU BI.c v3_11) 98
def Z6Y:Blk:=.cells (Bg b v3_5 v3_6 (DA v3_8 v3_9 v3_10 [.own 177 2 (v3_11++[b.Classes.getD v13.toNat default]).length,vN,lst 3 Am.c b.Waivers,vN])) 42
def Z6Z (v3_11:List BI) (b:AG) (v13:Int):Blk:=.row 2 (v3_11++[b.Classes.getD v13.toNat default]).length (AU BI.c (v3_11++[b.Classes.getD v13.toNat default])) 98
def Z70:Blk:=.cells (Bg b v3_5 v3_6 (DA v3_8 v3_9 v3_10 [.own 100005 2 (v3_11++[b.Classes.getD v13.toNat default]).length,vN,lst 3 Am.c b.Waivers,vN])) 42
def Z71:Blk:=.row 3 ([]:List BT).length (AU BT.c ([]:List BT)) 100
def Z72:Blk:=.cells (Bg b v3_5 v3_6 (DA v3_8 v3_9 v3_10 (HX v3_11 b [.own 100006 3 ([]:List BT).length]))) 42
def Z73:Blk:=.cells (Bg b v3_5 v3_6 (DA v3_8 v3_9 v3_10 (HX v3_11 b [.own 100006 3 v3_14.length]))) 42
def Z74:Blk:=.row 3 v3_14.length (AU BT.c v3_14) 100
def Z75:Blk:=.cells (Bg b v3_5 v3_6 (DA v3_8 v3_9 v3_10 (HX v3_11 b [.own 200 3 (v3_14++[b.Matches.getD v14.toNat default]).length]))) 42
def Z76 (v3_14:List BT) (b:AG) (v14:Int):Blk:=.row 3 (v3_14++[b.Matches.getD v14.toNat default]).length (AU BT.c (v3_14++[b.Matches.getD v14.toNat default])) 100
def Z77:Blk:=.cells (Bg b v3_5 v3_6 (DA v3_8 v3_9 v3_10 (HX v3_11 b [.own 100006 3 (v3_14++[b.Matches.getD v14.toNat default]).length]))) 42
def Z78:Blk:=.row 20 ([]:List Ap).length (AU Ap.c ([]:List Ap)) 107
def Z79:Blk:=.cells (Bg b v3_5 v3_6 (DA v3_8 v3_9 v3_10 [.own 100005 2 v3_11.length,.own 100007 20 ([]:List Ap).length,lst 3 Am.c b.Waivers,.own 100006 3 v3_14.length])) 42
def Z7a:Blk:=.cells (Bg b v3_5 v3_6 (DA v3_8 v3_9 v3_10 [.own 100005 2 v3_11.length,.own 100007 20 v3_12.length,lst 3 Am.c b.Waivers,.own 100006 3 v3_14.length])) 42
def Z7b:Blk:=.row 20 v3_12.length (AU Ap.c v3_12) 107
def Z7c:BL:=IL (b.Rules.getD v16.toNat default).A
def Z7d:BL:=IL (b.Rules.getD v16.toNat default).B
abbrev Em:=b.Rules.getD v16.toNat default
abbrev PX:=[Ap.mk (Em b v16).Name (Em b v16).Priority (Em b v16).What (Z7c b v16) (Z7d b v16) (Em b v16).Value]
def Z7e:Blk:=.cells (Bg b v3_5 v3_6 (DA v3_8 v3_9 v3_10 [.own 100005 2 v3_11.length,.own 226 20 (v3_12++(PX b v16)).length,lst 3 Am.c b.Waivers,.own 100006 3 v3_14.length])) 42
def Z7f (v3_12:List Ap) (b:AG) (v16:Int):Blk:=.row 20 (v3_12++(PX b v16)).length (AU Ap.c (v3_12++(PX b v16))) 107
def Z7g:Blk:=.cells (Bg b v3_5 v3_6 (DA v3_8 v3_9 v3_10 [.own 100005 2 v3_11.length,.own 100007 20 (v3_12++(PX b v16)).length,lst 3 Am.c b.Waivers,.own 100006 3 v3_14.length])) 42
def EQ (b:AG) (v3_5:List A3) (v4:Int) (v3_6:List Aj) (v5:Int) (v3_8:List BB) (v7:Int) (v3_9:List BQ) (v9:Int) (v3_10:List BX) (v11:Int) (v3_11:List BI) (v13:Int) (v3_14:List BT) (v14:Int) (K0:List A3->Int->AG) (K1:List Aj->Int->AG) (K2:List BB->Int->AG) (K3:List BQ->Int->AG) (K4:List BX->Int->AG) (K5:List BI->Int->AG) (K6:List BT->Int->AG):Nat->List Ap->Int->AG
 | 0,_,_=>default
 | n7+1,v3_12,v16=>bif decide ((v16:Int)<(b.Rules.length:Int)) then ((EQ b v3_5 v4 v3_6 v5 v3_8 v7 v3_9 v9 v3_10 v11 v3_11 v13 v3_14 v14 K0 K1 K2 K3 K4 K5 K6 n7) (v3_12++[Ap.mk (b.Rules.getD v16.toNat default).Name (b.Rules.getD v16.toNat default).Priority (b.Rules.getD v16.toNat default).What (Z7c b v16) (Z7d b v16) (b.Rules.getD v16.toNat default).Value]) (v16+1)) else (AG.mk b.Layers (Cz b.Outline) b.Parts v3_5 v3_6 b.Vias v3_8 v3_9 v3_10 v3_11 v3_12 b.Waivers v3_14)
def Dh (b:AG) (v3_5:List A3) (v4:Int) (v3_6:List Aj) (v5:Int) (v3_8:List BB) (v7:Int) (v3_9:List BQ) (v9:Int) (v3_10:List BX) (v11:Int) (v3_11:List BI) (v13:Int) (K0:List A3->Int->AG) (K1:List Aj->Int->AG) (K2:List BB->Int->AG) (K3:List BQ->Int->AG) (K4:List BX->Int->AG) (K5:List BI->Int->AG):Nat->List BT->Int->AG
 | 0,_,_=>default
 | n6+1,v3_14,v14=>bif decide ((v14:Int)<(b.Matches.length:Int)) then ((Dh b v3_5 v4 v3_6 v5 v3_8 v7 v3_9 v9 v3_10 v11 v3_11 v13 K0 K1 K2 K3 K4 K5 n6) (v3_14++[b.Matches.getD v14.toNat default]) (v14+1)) else (EQ b v3_5 v4 v3_6 v5 v3_8 v7 v3_9 v9 v3_10 v11 v3_11 v13 v3_14 v14 K0 K1 K2 K3 K4 K5 (Dh b v3_5 v4 v3_6 v5 v3_8 v7 v3_9 v9 v3_10 v11 v3_11 v13 K0 K1 K2 K3 K4 K5 n6) (((b.Rules.length:Int)-0).toNat+1) ([]:List Ap) 0)
def C8 (b:AG) (v3_5:List A3) (v4:Int) (v3_6:List Aj) (v5:Int) (v3_8:List BB) (v7:Int) (v3_9:List BQ) (v9:Int) (v3_10:List BX) (v11:Int) (K0:List A3->Int->AG) (K1:List Aj->Int->AG) (K2:List BB->Int->AG) (K3:List BQ->Int->AG) (K4:List BX->Int->AG):Nat->List BI->Int->AG
 | 0,_,_=>default
 | n5+1,v3_11,v13=>bif decide ((v13:Int)<(b.Classes.length:Int)) then ((C8 b v3_5 v4 v3_6 v5 v3_8 v7 v3_9 v9 v3_10 v11 K0 K1 K2 K3 K4 n5) (v3_11++[b.Classes.getD v13.toNat default]) (v13+1)) else (Dh b v3_5 v4 v3_6 v5 v3_8 v7 v3_9 v9 v3_10 v11 v3_11 v13 K0 K1 K2 K3 K4 (C8 b v3_5 v4 v3_6 v5 v3_8 v7 v3_9 v9 v3_10 v11 K0 K1 K2 K3 K4 n5) (((b.Matches.length:Int)-0).toNat+1) ([]:List BT) 0)
def CM (b:AG) (v3_5:List A3) (v4:Int) (v3_6:List Aj) (v5:Int) (v3_8:List BB) (v7:Int) (v3_9:List BQ) (v9:Int) (K0:List A3->Int->AG) (K1:List Aj->Int->AG) (K2:List BB->Int->AG) (K3:List BQ->Int->AG):Nat->List BX->Int->AG
 | 0,_,_=>default
 | n4+1,v3_10,v11=>bif decide ((v11:Int)<(b.Slots.length:Int)) then ((CM b v3_5 v4 v3_6 v5 v3_8 v7 v3_9 v9 K0 K1 K2 K3 n4) (v3_10++[BX.mk (b.Slots.getD v11.toNat default).Id (Z6Q b v11)]) (v11+1)) else (C8 b v3_5 v4 v3_6 v5 v3_8 v7 v3_9 v9 v3_10 v11 K0 K1 K2 K3 (CM b v3_5 v4 v3_6 v5 v3_8 v7 v3_9 v9 K0 K1 K2 K3 n4) (((b.Classes.length:Int)-0).toNat+1) ([]:List BI) 0)
def Ba (b:AG) (v3_5:List A3) (v4:Int) (v3_6:List Aj) (v5:Int) (v3_8:List BB) (v7:Int) (K0:List A3->Int->AG) (K1:List Aj->Int->AG) (K2:List BB->Int->AG):Nat->List BQ->Int->AG
 | 0,_,_=>default
 | n3+1,v3_9,v9=>bif decide ((v9:Int)<(b.Keeps.length:Int)) then ((Ba b v3_5 v4 v3_6 v5 v3_8 v7 K0 K1 K2 n3) (v3_9++[BQ.mk (b.Keeps.getD v9.toNat default).Id (b.Keeps.getD v9.toNat default).Layer (Z6I b v9)]) (v9+1)) else (CM b v3_5 v4 v3_6 v5 v3_8 v7 v3_9 v9 K0 K1 K2 (Ba b v3_5 v4 v3_6 v5 v3_8 v7 K0 K1 K2 n3) (((b.Slots.length:Int)-0).toNat+1) ([]:List BX) 0)
def Ay (b:AG) (v3_5:List A3) (v4:Int) (v3_6:List Aj) (v5:Int) (K0:List A3->Int->AG) (K1:List Aj->Int->AG):Nat->List BB->Int->AG
 | 0,_,_=>default
 | n2+1,v3_8,v7=>bif decide ((v7:Int)<(b.Pours.length:Int)) then ((Ay b v3_5 v4 v3_6 v5 K0 K1 n2) (v3_8++[b.Pours.getD v7.toNat default]) (v7+1)) else (Ba b v3_5 v4 v3_6 v5 v3_8 v7 K0 K1 (Ay b v3_5 v4 v3_6 v5 K0 K1 n2) (((b.Keeps.length:Int)-0).toNat+1) ([]:List BQ) 0)
def AZ (b:AG) (v3_5:List A3) (v4:Int) (K0:List A3->Int->AG):Nat->List Aj->Int->AG
 | 0,_,_=>default
 | n1+1,v3_6,v5=>bif decide ((v5:Int)<(b.Tracks.length:Int)) then ((AZ b v3_5 v4 K0 n1) (v3_6++[Aj.mk (b.Tracks.getD v5.toNat default).Id (b.Tracks.getD v5.toNat default).Net (b.Tracks.getD v5.toNat default).Layer (Z6t b v5)]) (v5+1)) else (Ay b v3_5 v4 v3_6 v5 K0 (AZ b v3_5 v4 K0 n1) (((b.Pours.length:Int)-0).toNat+1) ([]:List BB) 0)
def AK (b:AG):Nat->List A3->Int->AG
 | 0,_,_=>default
 | n0+1,v3_5,v4=>bif decide ((v4:Int)<(b.Nets.length:Int)) then ((AK b n0) (v3_5++[b.Nets.getD v4.toNat default]) (v4+1)) else (AZ b v3_5 v4 (AK b n0) (((b.Tracks.length:Int)-0).toNat+1) ([]:List Aj) 0)
def Jn (x:AG):List (Option Cl):=[some (.i x.Layers),some (.i x.Outline.Kind),some (lst 7 AO.c x.Outline.Edges),some (.i x.Outline.R),none,some (lst 2 A3.c x.Nets),some (lst 6 Aj.c x.Tracks),some (lst 8 Br.c x.Vias),some (lst 8 BB.c x.Pours),some (lst 5 BQ.c x.Keeps),some (lst 4 BX.c x.Slots),some (lst 2 BI.c x.Classes),some (lst 20 Ap.c x.Rules),some (lst 3 Am.c x.Waivers),some (lst 3 BT.c x.Matches)]
def AL (b:AG):AG:=AK b (((b.Nets.length:Int)-0).toNat+1) ([]:List A3) 0
abbrev Bw:Nat×Blk:=(100000,.row 2 v3_5.length (AU A3.c v3_5) 48)
abbrev BD:Nat×Blk:=(1,.cells (AG.c b) 42)
abbrev Vr (t_:List Cl):List Cl:=(.s (Em b v16).Name)::(.i (Em b v16).Priority)::(.i (Em b v16).What)::(.i (Z7c b v16).Op)::(.s (Z7c b v16).Text)::(.i (Z7c b v16).N)::(.i (Z7c b v16).Box.X0)::(.i (Z7c b v16).Box.Y0)::(.i (Z7c b v16).Box.X1)::(.i (Z7c b v16).Box.Y1)::(opL (Z7c b v16).L)::t_
abbrev WR:List Cl:=(Vr b v16 [.i (Z7d b v16).Op,.s (Z7d b v16).Text,.i (Z7d b v16).N,.i (Z7d b v16).Box.X0,.i (Z7d b v16).Box.Y0,.i (Z7d b v16).Box.X1,.i (Z7d b v16).Box.Y1,opL (Z7d b v16).L,.i (Em b v16).Value])
abbrev PO:List (Nat×Tv):=(A8 [(11,tI 0)])
abbrev PN:List (Nat×Tv):=(A8 [(13,tI 0)])
abbrev PM:List (Nat×Tv):=(A8 [(14,tI 0)])
abbrev PL:List (Nat×Tv):=(A8 [(16,tI 0)])
abbrev PJ:List (Nat×Tv):=(A8 [(4,tI 0)])
abbrev PI:List (Nat×Tv):=(A8 [(5,tI 0)])
abbrev PH:List (Nat×Tv):=(A8 [(7,tI 0)])
abbrev PG:List (Nat×Tv):=(A8 [(9,tI 0)])
abbrev SJ:List (Nat×Tv):=(A8 [(16,tI v16),(17,tP 17 0)])
abbrev WB:List Cl:=[.i (HN b v5).Id,.s (HN b v5).Net,.i (HN b v5).Layer,.i (Z6t b v5).Kind,lst 7 AO.c (Z6t b v5).Edges,.i (Z6t b v5).R]
abbrev V8:List Cl:=[.i (b.Slots.getD v11.toNat default).Id,.i (Z6Q b v11).Kind,lst 7 AO.c (Z6Q b v11).Edges,.i (Z6Q b v11).R]
abbrev V5:List Cl:=[.i (Qk b v9).Id,.i (Qk b v9).Layer,.i (Z6I b v9).Kind,lst 7 AO.c (Z6I b v9).Edges,.i (Z6I b v9).R]
theorem au21 {p:Prop} (h:p:=by first | (with_reducible exact hc.ted _) | (with_reducible exact hc.ked _) | (with_reducible exact hc.sed _) | (with_reducible exact hc.out) | with_reducible assumption | omega | decide | (simp only [List.length_cons,List.length_nil,List.length_append];omega) | assumption):p:=h
theorem au10 {p:Prop} (h:p:=by first | omega | (unfold maxLen;omega) | (simp only [XK,XJ,XI];omega)):p:=h
set_option maxHeartbeats 4000000 in
theorem Y3 (b:AG) (hc:Qi b):Fr Try.prog 12 [.agg (AG.c b)] (.row 7 (AL b).Parts.length (AU AF.c (AL b).Parts) 59) (fun d=>.av (.agg (Nl 7 (AL b).Parts.length d (Jn (AL b))))):=by
 refine ID Try.func12 rfl kr (W3 7 (AL b).Parts.length (Jn (AL b)) kr) fun W0 M0 => ?_
 have h0:=hc.lParts
 have h1:=hc.lNets
 have h2:=hc.lTracks
 have h3:=hc.lVias
 have h4:=hc.lPours
 have h5:=hc.lKeeps
 have h6:=hc.lSlots
 have h7:=hc.lClasses
 have h8:=hc.lWaivers
 have h9:=hc.lMatches
 have h10:=hc.lRules
 have hr:=hc.rok
 refine AB<|rn ⟨HL,[(BD b),(2,Z6h)]⟩<|AB ?_
 refine dw [23,1000027,1000031] [(22,Df b.Outline)] [Aw (Df b.Outline).2.1,0=0,0+b.Parts.length<=maxLen,(0+b.Parts.length)*72<=140737488355328,b.Vias.length<=maxLen,b.Vias.length*72<=140737488355328,b.Waivers.length<=maxLen,b.Waivers.length*32<=140737488355328] ⟨SD,[(BD b),(2,Z6h),(3,.cells [.i b.Layers,.i (Jb b).Kind,lst 7 AO.c (Jb b).Edges,.i (Jb b).R,.own 26 7 (0+b.Parts.length),vN,vN,lst 8 Br.c b.Vias,vN,vN,vN,vN,vN,lst 3 Am.c b.Waivers,vN] 42),(26,.row 7 (0+b.Parts.length) (fun i_ j_=>if i_<0 then (As 7 0 []) i_ j_ else (AU AF.c b.Parts) (i_-0) j_) 59)]⟩ (.cons (E3 b.Outline au21) .nil) (.cons rfl (.cons rfl (.cons au10 (.cons au10 (.cons au10 (.cons au10 (.cons au10 (.cons au10 .nil))))))))<|AH ?_
 refine BN (Cv.trans (BF (⟨SD,[(BD b),(2,Z6h),(3,Z6i b),(26,Z6j b)]⟩) lr (.cons ⟨rfl,.refl _⟩ (.cons ⟨rfl,.refl _⟩ (.cons ⟨rfl,.cells _ (rr4 (.cons (.own _ _ au0) (rr (rr (rr (rr (rr (rr (rr (rr (rr (rr .nil))))))))))))⟩ (.cons ⟨rfl,Ai 59 (BO (Ar (c:=AF.c) (xs:=(([]:List AF):List AF)) rfl kr) (BA 7 AF.c b.Parts))⟩ .nil))))) (Cv.refl _))<|AB<|AB ?_
 refine rn ⟨PJ,[(BD b),(2,Z6h),(3,Z6i b),(26,Z6j b)]⟩<|AX ?_
 refine BN (Cv.trans (wg (⟨PJ,[(100000,.row 2 0 (fun _ _=>default) 48),(BD b),(2,Z6h),(3,.cells (Ep b [.own 100000 2 0,vN,lst 8 Br.c b.Vias,vN,vN,vN,vN,vN,lst 3 Am.c b.Waivers,vN]) 42),(26,Z6j b)]⟩) 100000 2 (fun _ _=>default) 48 [] [(3,[5])] hk0) (Cv.trans (BF (⟨PJ,[(100000,Z6k),(BD b),(2,Z6h),(3,Z6l b),(26,Z6j b)]⟩) lr (.cons ⟨rfl,Ai 48 (B8 2 (fun _ _=>default) A3.c)⟩ (.cons ⟨rfl,.refl _⟩ (.cons ⟨rfl,.refl _⟩ (.cons ⟨rfl,.cells _ (rr5 (.cons (.own _ _ au0) (rr (rr (rr (rr (rr (rr (rr (rr (rr .nil)))))))))))⟩ lr))))) (Cv.trans (ck (⟨PJ,[(BD b),(2,Z6h),(3,Z6l b),(26,Z6j b),(100000,Z6k)]⟩)) (Cv.refl _)))) ?_
 refine BH (ι:=Nat×List A3×Int) (fun x=>⟨(A8 [(4,tI x.2.2)]),[(BD b),(2,Z6h),(3,.cells (Ep b [.own 100000 2 x.2.1.length,vN,lst 8 Br.c b.Vias,vN,vN,vN,vN,vN,lst 3 Am.c b.Waivers,vN]) 42),(26,Z6j b),(100000,.row 2 x.2.1.length (AU A3.c x.2.1) 48)]⟩) (fun x=>((b.Nets.length:Int)-x.2.2).toNat<x.1/\(0<=x.2.2/\(x.2.2<=(b.Nets.length:Int)\/x.2.2=0)/\(x.2.1.length:Int)<=0+1*(x.2.2-0))/\AK b x.1 x.2.1 x.2.2=AL b) (fun x=>x.1) ?_ (((b.Nets.length:Int)-0).toNat+1,([]:List A3),0) ⟨Nat.lt_succ_self _,⟨ax0,ax0,ax0⟩,(by simp only [AL,cond_true,cond_false])⟩
 rintro ⟨n0,v3_5,v4⟩ ⟨hm0,hinv0,hF0⟩
 try dsimp only at hm0 hinv0 hF0
 cases n0 with | zero=>exact nz hm0 | succ n0 => ?_
 have hb:=hc.pin v4.toNat
 refine AB<|AB ?_
 refine rn ⟨(A8 [(4,tI v4),(40,tB (decide ((v4:Int)<(b.Nets.length:Int))))]),[(BD b),(2,Z6h),(3,Z6m b v3_5),(26,Z6j b),(Bw v3_5)]⟩ ?_
 refine Aa _ rfl (fun h1 => ?_) (fun h1 => ?_)
 ·have g1:=oT h1
  refine Ac<|AH ?_
  refine AB<|AX ?_
  refine dw [1000051] [] [0<=(v4:Int)/\(v4:Int)<((b.Nets.length:Nat):Int),0<=(v4:Int)/\(v4:Int)<((b.Nets.length:Nat):Int),(b.Nets.getD v4.toNat default).Pins.length<=maxLen,(b.Nets.getD v4.toNat default).Pins.length*32<=140737488355328,v3_5.length=v3_5.length,v3_5.length+1<=maxLen,(v3_5.length+1)*40<=140737488355328] ⟨(A8 [(4,tI v4)]),[(BD b),(2,Z6h),(3,.cells (Ep b [.own 61 2 (v3_5.length+1),vN,lst 8 Br.c b.Vias,vN,vN,vN,vN,vN,lst 3 Am.c b.Waivers,vN]) 42),(26,Z6j b),(61,.row 2 (v3_5.length+1) (fun i_ j_=>if i_<v3_5.length then (AU A3.c v3_5) i_ j_ else (As 2 1 (A3.c (b.Nets.getD v4.toNat default))) (i_-v3_5.length) j_) 48)]⟩ .nil (.cons au1 (.cons au1 (.cons au10 (.cons au10 (.cons rfl (.cons au10 (.cons au10 .nil)))))))<|Bd<|AH ?_
  refine BN (Cv.trans (BF (⟨(A8 [(4,tI v4)]),[(BD b),(2,Z6h),(3,Z6n b v3_5 v4),(26,Z6j b),(61,Z6o v3_5 b v4)]⟩) lr (.cons ⟨rfl,.refl _⟩ (.cons ⟨rfl,.refl _⟩ (.cons ⟨rfl,.cells _ (rr5 (.cons (.own _ _ au0) (rr (rr (rr (rr (rr (rr (rr (rr (rr .nil)))))))))))⟩ (.cons ⟨rfl,.refl _⟩ (.cons ⟨rfl,Ai 48 (BO (BA 2 A3.c v3_5) (Ar (c:=A3.c) (xs:=([b.Nets.getD v4.toNat default]:List A3)) rfl kr))⟩ .nil)))))) (Cv.refl _)) ?_
  refine rg ⟨(A8 [(4,tI (W64 (v4+1)))]),[(BD b),(2,Z6h),(3,Z6n b v3_5 v4),(26,Z6j b),(61,Z6o v3_5 b v4)]⟩ ?_
  (try rw [(show W64 (v4+1)=v4+1 from Ao oM au6)])
  refine AH ?_
  refine ⟨(n0,v3_5++[b.Nets.getD v4.toNat default],v4+1),⟨?_,?_,(by rw [<- hF0];simp only [AK,h1,cond_true,cond_false])⟩,Nat.lt_succ_self _,Cv.trans (vr 61 100000 hk0) (A6 kr)⟩
  ·show ((b.Nets.length:Int)-(v4+1)).toNat<n0;omega
  exact ⟨ax0,ax0,ax0⟩
 have g1:=oF h1
 refine BJ<|A4 ?_
 refine A4<|BK ?_
 refine AH<|AB<|AB ?_
 refine rn ⟨PI,[(BD b),(2,Z6h),(3,Z6m b v3_5),(26,Z6j b),(Bw v3_5)]⟩<|AX ?_
 refine BN (Cv.trans (wg (⟨PI,[(100001,.row 6 0 (fun _ _=>default) 85),(BD b),(2,Z6h),(3,.cells (Ep b [.own 100000 2 v3_5.length,.own 100001 6 0,lst 8 Br.c b.Vias,vN,vN,vN,vN,vN,lst 3 Am.c b.Waivers,vN]) 42),(26,Z6j b),(Bw v3_5)]⟩) 100001 6 (fun _ _=>default) 85 [] [(3,[6])] hk0) (Cv.trans (BF (⟨PI,[(100001,Z6p),(BD b),(2,Z6h),(3,Z6q b v3_5),(26,Z6j b),(Bw v3_5)]⟩) lr (.cons ⟨rfl,Ai 85 (B8 6 (fun _ _=>default) Aj.c)⟩ (.cons ⟨rfl,.refl _⟩ (.cons ⟨rfl,.refl _⟩ (.cons ⟨rfl,.cells _ (rr5 (rr (.cons (.own _ _ au0) (rr (rr (rr (rr (rr (rr (rr (rr .nil)))))))))))⟩ lr))))) (Cv.trans (ck (⟨PI,[(BD b),(2,Z6h),(3,Z6q b v3_5),(26,Z6j b),(Bw v3_5),(100001,Z6p)]⟩)) (Cv.refl _)))) ?_
 refine BH (ι:=Nat×List Aj×Int) (fun x=>⟨(A8 [(5,tI x.2.2)]),[(BD b),(2,Z6h),(3,.cells (Ep b [.own 100000 2 v3_5.length,.own 100001 6 x.2.1.length,lst 8 Br.c b.Vias,vN,vN,vN,vN,vN,lst 3 Am.c b.Waivers,vN]) 42),(26,Z6j b),(Bw v3_5),(100001,.row 6 x.2.1.length (AU Aj.c x.2.1) 85)]⟩) (fun x=>((b.Tracks.length:Int)-x.2.2).toNat<x.1/\(0<=x.2.2/\(x.2.2<=(b.Tracks.length:Int)\/x.2.2=0)/\(x.2.1.length:Int)<=0+1*(x.2.2-0))/\AZ b v3_5 v4 (AK b n0) x.1 x.2.1 x.2.2=AL b) (fun x=>x.1) ?_ (((b.Tracks.length:Int)-0).toNat+1,([]:List Aj),0) ⟨Nat.lt_succ_self _,⟨ax0,ax0,ax0⟩,(by rw [<- hF0];simp only [AK,h1,cond_true,cond_false])⟩
 rintro ⟨n1,v3_6,v5⟩ ⟨hm1,hinv1,hF1⟩
 try dsimp only at hm1 hinv1 hF1
 cases n1 with | zero=>exact nz hm1 | succ n1 => ?_
 refine AB<|AB ?_
 refine rn ⟨(A8 [(5,tI v5),(67,tB (decide ((v5:Int)<(b.Tracks.length:Int))))]),[(BD b),(2,Z6h),(3,Z6r b v3_5 v3_6),(26,Z6j b),(Bw v3_5),(100001,Z6s v3_6)]⟩ ?_
 refine Aa _ rfl (fun h2 => ?_) (fun h2 => ?_)
 ·have g2:=oT h2
  refine Ac<|AH ?_
  refine AB<|AX<|AB ?_
  refine rc [] [0<=(v5:Int)/\(v5:Int)<((b.Tracks.length:Nat):Int)] ⟨(A8 [(5,tI v5),(6,tP 6 0)]),[(BD b),(2,Z6h),(3,Z6r b v3_5 v3_6),(6,.cells (Aj.c (HN b v5)) 85),(26,Z6j b),(Bw v3_5),(100001,Z6s v3_6)]⟩ .nil (.cons au1 .nil)<|AH<|AB ?_
  refine rs 77 (Df (b.Tracks.getD v5.toNat default).Shape) ⟨(A8 [(5,tI v5),(6,tP 6 0)]),[(BD b),(2,Z6h),(3,Z6r b v3_5 v3_6),(6,.cells (WB b v5) 85),(26,Z6j b),(Bw v3_5),(100001,Z6s v3_6)]⟩ (E3 (b.Tracks.getD v5.toNat default).Shape au21)<|AH ?_
  refine rc [] [v3_6.length=v3_6.length,v3_6.length+1<=maxLen,(v3_6.length+1)*72<=140737488355328] ⟨(A8 [(5,tI v5)]),[(BD b),(2,Z6h),(3,.cells (Ep b [.own 100000 2 v3_5.length,.own 83 6 (v3_6.length+1),lst 8 Br.c b.Vias,vN,vN,vN,vN,vN,lst 3 Am.c b.Waivers,vN]) 42),(26,Z6j b),(83,.row 6 (v3_6.length+1) (fun i_ j_=>if i_<v3_6.length then (AU Aj.c v3_6) i_ j_ else (As 6 1 (WB b v5)) (i_-v3_6.length) j_) 85),(Bw v3_5)]⟩ .nil (.cons rfl (.cons au10 (.cons au10 .nil)))<|Bd<|AH ?_
  refine BN (Cv.trans (BF (⟨(A8 [(5,tI v5)]),[(BD b),(2,Z6h),(3,Z6u b v3_5 v3_6 v5),(26,Z6j b),(83,Z6v v3_6 b v5),(Bw v3_5)]⟩) lr (.cons ⟨rfl,.refl _⟩ (.cons ⟨rfl,.refl _⟩ (.cons ⟨rfl,.cells _ (rr5 (rr (.cons (.own _ _ au0) (rr (rr (rr (rr (rr (rr (rr (rr .nil)))))))))))⟩ (.cons ⟨rfl,.refl _⟩ (.cons ⟨rfl,Ai 85 (BO (BA 6 Aj.c v3_6) (Ar (c:=Aj.c) (xs:=([Aj.mk (b.Tracks.getD v5.toNat default).Id (b.Tracks.getD v5.toNat default).Net (b.Tracks.getD v5.toNat default).Layer (Z6t b v5)]:List Aj)) rfl kr))⟩ lr)))))) (Cv.refl _)) ?_
  refine rg ⟨(A8 [(5,tI (W64 (v5+1)))]),[(BD b),(2,Z6h),(3,Z6u b v3_5 v3_6 v5),(26,Z6j b),(83,Z6v v3_6 b v5),(Bw v3_5)]⟩ ?_
  (try rw [(show W64 (v5+1)=v5+1 from Ao oM au6)])
  refine AH ?_
  refine ⟨(n1,v3_6++[Aj.mk (b.Tracks.getD v5.toNat default).Id (b.Tracks.getD v5.toNat default).Net (b.Tracks.getD v5.toNat default).Layer (Z6t b v5)],v5+1),⟨?_,?_,(by rw [<- hF1];simp only [AZ,h2,cond_true,cond_false])⟩,Nat.lt_succ_self _,Cv.trans (vr 83 100001 hk0) (Cv.trans (vk [1,2,3,5] [1,2,3,26,100000,100001]) (A6 kr))⟩
  ·show ((b.Tracks.length:Int)-(v5+1)).toNat<n1;omega
  exact ⟨ax0,ax0,ax0⟩
 have g2:=oF h2
 refine BJ<|A4 ?_
 refine A4<|BK ?_
 refine AH<|AB<|AB ?_
 refine rn ⟨PH,[(BD b),(2,Z6h),(3,Z6r b v3_5 v3_6),(26,Z6j b),(Bw v3_5),(100001,Z6s v3_6)]⟩<|AX ?_
 refine BN (Cv.trans (wg (⟨PH,[(100002,.row 8 0 (fun _ _=>default) 90),(BD b),(2,Z6h),(3,.cells (Bg b v3_5 v3_6 [.own 100002 8 0,vN,vN,vN,vN,lst 3 Am.c b.Waivers,vN]) 42),(26,Z6j b),(Bw v3_5),(100001,Z6s v3_6)]⟩) 100002 8 (fun _ _=>default) 90 [] [(3,[8])] hk0) (Cv.trans (BF (⟨PH,[(100002,Z6x),(BD b),(2,Z6h),(3,Z6y b v3_5 v3_6),(26,Z6j b),(Bw v3_5),(100001,Z6s v3_6)]⟩) lr (.cons ⟨rfl,Ai 90 (B8 8 (fun _ _=>default) BB.c)⟩ (.cons ⟨rfl,.refl _⟩ (.cons ⟨rfl,.refl _⟩ (.cons ⟨rfl,.cells _ (rr5 (rr3 (.cons (.own _ _ au0) (rr (rr (rr (rr (rr (rr .nil)))))))))⟩ lr))))) (Cv.trans (ck (⟨PH,[(BD b),(2,Z6h),(3,Z6y b v3_5 v3_6),(26,Z6j b),(Bw v3_5),(100001,Z6s v3_6),(100002,Z6x)]⟩)) (Cv.refl _)))) ?_
 refine BH (ι:=Nat×List BB×Int) (fun x=>⟨(A8 [(7,tI x.2.2)]),[(BD b),(2,Z6h),(3,.cells (Bg b v3_5 v3_6 [.own 100002 8 x.2.1.length,vN,vN,vN,vN,lst 3 Am.c b.Waivers,vN]) 42),(26,Z6j b),(Bw v3_5),(100001,Z6s v3_6),(100002,.row 8 x.2.1.length (AU BB.c x.2.1) 90)]⟩) (fun x=>((b.Pours.length:Int)-x.2.2).toNat<x.1/\(0<=x.2.2/\(x.2.2<=(b.Pours.length:Int)\/x.2.2=0)/\(x.2.1.length:Int)<=0+1*(x.2.2-0))/\Ay b v3_5 v4 v3_6 v5 (AK b n0) (AZ b v3_5 v4 (AK b n0) n1) x.1 x.2.1 x.2.2=AL b) (fun x=>x.1) ?_ (((b.Pours.length:Int)-0).toNat+1,([]:List BB),0) ⟨Nat.lt_succ_self _,⟨ax0,ax0,ax0⟩,(by rw [<- hF1];simp only [AZ,h2,cond_true,cond_false])⟩
 rintro ⟨n2,v3_8,v7⟩ ⟨hm2,hinv2,hF2⟩
 try dsimp only at hm2 hinv2 hF2
 cases n2 with | zero=>exact nz hm2 | succ n2 => ?_
 have hb:=hc.rec' v7.toNat
 refine AB<|AB ?_
 refine rn ⟨(A8 [(7,tI v7),(89,tB (decide ((v7:Int)<(b.Pours.length:Int))))]),[(BD b),(2,Z6h),(3,Z6z b v3_5 v3_6 v3_8),(26,Z6j b),(Bw v3_5),(100001,Z6s v3_6),(100002,Z6A v3_8)]⟩ ?_
 refine Aa _ rfl (fun h3 => ?_) (fun h3 => ?_)
 ·have g3:=oT h3
  refine Ac<|AH ?_
  refine AB<|AX<|AB ?_
  refine rc [] [0<=(v7:Int)/\(v7:Int)<((b.Pours.length:Nat):Int)] ⟨(A8 [(7,tI v7),(8,tP 8 0)]),[(BD b),(2,Z6h),(3,Z6z b v3_5 v3_6 v3_8),(8,.cells (BB.c (Hh b v7)) 90),(26,Z6j b),(Bw v3_5),(100001,Z6s v3_6),(100002,Z6A v3_8)]⟩ .nil (.cons au1 .nil)<|AH<|AB ?_
  refine DW D9 [1000097] [] [] [1,2,3,7,8] [1,2,3,8,26,100000,100001,100002] [(b.Pours.getD v7.toNat default).Rects.length<=maxLen,(b.Pours.getD v7.toNat default).Rects.length*32<=140737488355328] ⟨(A8 [(7,tI v7),(8,tP 8 0)]),[(BD b),(2,Z6h),(3,Z6z b v3_5 v3_6 v3_8),(8,.cells (BB.c (Hh b v7)) 90),(26,Z6j b),(Bw v3_5),(100001,Z6s v3_6),(100002,Z6A v3_8)]⟩ .nil kr (.cons au10 (.cons au10 .nil))<|AH ?_
  refine rc [] [v3_8.length=v3_8.length,v3_8.length+1<=maxLen,(v3_8.length+1)*88<=140737488355328] ⟨(A8 [(7,tI v7)]),[(BD b),(2,Z6h),(3,.cells (Bg b v3_5 v3_6 [.own 106 8 (v3_8.length+1),vN,vN,vN,vN,lst 3 Am.c b.Waivers,vN]) 42),(26,Z6j b),(106,.row 8 (v3_8.length+1) (fun i_ j_=>if i_<v3_8.length then (AU BB.c v3_8) i_ j_ else (As 8 1 (BB.c (Hh b v7))) (i_-v3_8.length) j_) 90),(Bw v3_5),(100001,Z6s v3_6)]⟩ .nil (.cons rfl (.cons au10 (.cons au10 .nil)))<|Bd<|AH ?_
  refine BN (Cv.trans (BF (⟨(A8 [(7,tI v7)]),[(BD b),(2,Z6h),(3,Z6B b v3_5 v3_6 v3_8 v7),(26,Z6j b),(106,Z6C v3_8 b v7),(Bw v3_5),(100001,Z6s v3_6)]⟩) lr (.cons ⟨rfl,.refl _⟩ (.cons ⟨rfl,.refl _⟩ (.cons ⟨rfl,.cells _ (rr5 (rr3 (.cons (.own _ _ au0) (rr (rr (rr (rr (rr (rr .nil)))))))))⟩ (.cons ⟨rfl,.refl _⟩ (.cons ⟨rfl,Ai 90 (BO (BA 8 BB.c v3_8) (Ar (c:=BB.c) (xs:=([b.Pours.getD v7.toNat default]:List BB)) rfl kr))⟩ lr)))))) (Cv.refl _)) ?_
  refine rg ⟨(A8 [(7,tI (W64 (v7+1)))]),[(BD b),(2,Z6h),(3,Z6B b v3_5 v3_6 v3_8 v7),(26,Z6j b),(106,Z6C v3_8 b v7),(Bw v3_5),(100001,Z6s v3_6)]⟩ ?_
  (try rw [(show W64 (v7+1)=v7+1 from Ao oM au6)])
  refine AH ?_
  refine ⟨(n2,v3_8++[b.Pours.getD v7.toNat default],v7+1),⟨?_,?_,(by rw [<- hF2];simp only [Ay,h3,cond_true,cond_false])⟩,Nat.lt_succ_self _,Cv.trans (vr 106 100002 hk0) (Cv.trans (vk [1,2,3,7] [1,2,3,26,100000,100001,100002]) (A6 kr))⟩
  ·show ((b.Pours.length:Int)-(v7+1)).toNat<n2;omega
  exact ⟨ax0,ax0,ax0⟩
 have g3:=oF h3
 refine BJ<|A4 ?_
 refine A4<|BK ?_
 refine AH<|AB<|AB ?_
 refine rn ⟨PG,[(BD b),(2,Z6h),(3,Z6z b v3_5 v3_6 v3_8),(26,Z6j b),(Bw v3_5),(100001,Z6s v3_6),(100002,Z6A v3_8)]⟩<|AX ?_
 refine BN (Cv.trans (wg (⟨PG,[(100003,.row 5 0 (fun _ _=>default) 93),(BD b),(2,Z6h),(3,.cells (Bg b v3_5 v3_6 [.own 100002 8 v3_8.length,.own 100003 5 0,vN,vN,vN,lst 3 Am.c b.Waivers,vN]) 42),(26,Z6j b),(Bw v3_5),(100001,Z6s v3_6),(100002,Z6A v3_8)]⟩) 100003 5 (fun _ _=>default) 93 [] [(3,[9])] hk0) (Cv.trans (BF (⟨PG,[(100003,Z6E),(BD b),(2,Z6h),(3,Z6F b v3_5 v3_6 v3_8),(26,Z6j b),(Bw v3_5),(100001,Z6s v3_6),(100002,Z6A v3_8)]⟩) lr (.cons ⟨rfl,Ai 93 (B8 5 (fun _ _=>default) BQ.c)⟩ (.cons ⟨rfl,.refl _⟩ (.cons ⟨rfl,.refl _⟩ (.cons ⟨rfl,.cells _ (rr9 (.cons (.own _ _ au0) (rr (rr (rr (rr (rr .nil)))))))⟩ lr))))) (Cv.trans (ck (⟨PG,[(BD b),(2,Z6h),(3,Z6F b v3_5 v3_6 v3_8),(26,Z6j b),(Bw v3_5),(100001,Z6s v3_6),(100002,Z6A v3_8),(100003,Z6E)]⟩)) (Cv.refl _)))) ?_
 refine BH (ι:=Nat×List BQ×Int) (fun x=>⟨(A8 [(9,tI x.2.2)]),[(BD b),(2,Z6h),(3,.cells (Bg b v3_5 v3_6 [.own 100002 8 v3_8.length,.own 100003 5 x.2.1.length,vN,vN,vN,lst 3 Am.c b.Waivers,vN]) 42),(26,Z6j b),(Bw v3_5),(100001,Z6s v3_6),(100002,Z6A v3_8),(100003,.row 5 x.2.1.length (AU BQ.c x.2.1) 93)]⟩) (fun x=>((b.Keeps.length:Int)-x.2.2).toNat<x.1/\(0<=x.2.2/\(x.2.2<=(b.Keeps.length:Int)\/x.2.2=0)/\(x.2.1.length:Int)<=0+1*(x.2.2-0))/\Ba b v3_5 v4 v3_6 v5 v3_8 v7 (AK b n0) (AZ b v3_5 v4 (AK b n0) n1) (Ay b v3_5 v4 v3_6 v5 (AK b n0) (AZ b v3_5 v4 (AK b n0) n1) n2) x.1 x.2.1 x.2.2=AL b) (fun x=>x.1) ?_ (((b.Keeps.length:Int)-0).toNat+1,([]:List BQ),0) ⟨Nat.lt_succ_self _,⟨ax0,ax0,ax0⟩,(by rw [<- hF2];simp only [Ay,h3,cond_true,cond_false])⟩
 rintro ⟨n3,v3_9,v9⟩ ⟨hm3,hinv3,hF3⟩
 try dsimp only at hm3 hinv3 hF3
 cases n3 with | zero=>exact nz hm3 | succ n3 => ?_
 refine AB<|AB ?_
 refine rn ⟨(A8 [(9,tI v9),(112,tB (decide ((v9:Int)<(b.Keeps.length:Int))))]),[(BD b),(2,Z6h),(3,Z6G b v3_5 v3_6 v3_8 v3_9),(26,Z6j b),(Bw v3_5),(100001,Z6s v3_6),(100002,Z6A v3_8),(100003,Z6H v3_9)]⟩ ?_
 refine Aa _ rfl (fun h4 => ?_) (fun h4 => ?_)
 ·have g4:=oT h4
  refine Ac<|AH ?_
  refine AB<|AX<|AB ?_
  refine rc [] [0<=(v9:Int)/\(v9:Int)<((b.Keeps.length:Nat):Int)] ⟨(A8 [(9,tI v9),(10,tP 10 0)]),[(BD b),(2,Z6h),(3,Z6G b v3_5 v3_6 v3_8 v3_9),(10,.cells (BQ.c (Qk b v9)) 93),(26,Z6j b),(Bw v3_5),(100001,Z6s v3_6),(100002,Z6A v3_8),(100003,Z6H v3_9)]⟩ .nil (.cons au1 .nil)<|AH<|AB ?_
  refine rs 122 (Df (b.Keeps.getD v9.toNat default).Shape) ⟨(A8 [(9,tI v9),(10,tP 10 0)]),[(BD b),(2,Z6h),(3,Z6G b v3_5 v3_6 v3_8 v3_9),(10,.cells (V5 b v9) 93),(26,Z6j b),(Bw v3_5),(100001,Z6s v3_6),(100002,Z6A v3_8),(100003,Z6H v3_9)]⟩ (E3 (b.Keeps.getD v9.toNat default).Shape au21)<|AH ?_
  refine rc [] [v3_9.length=v3_9.length,v3_9.length+1<=maxLen,(v3_9.length+1)*56<=140737488355328] ⟨(A8 [(9,tI v9)]),[(BD b),(2,Z6h),(3,.cells (Bg b v3_5 v3_6 [.own 100002 8 v3_8.length,.own 128 5 (v3_9.length+1),vN,vN,vN,lst 3 Am.c b.Waivers,vN]) 42),(26,Z6j b),(128,.row 5 (v3_9.length+1) (fun i_ j_=>if i_<v3_9.length then (AU BQ.c v3_9) i_ j_ else (As 5 1 (V5 b v9)) (i_-v3_9.length) j_) 93),(Bw v3_5),(100001,Z6s v3_6),(100002,Z6A v3_8)]⟩ .nil (.cons rfl (.cons au10 (.cons au10 .nil)))<|Bd<|AH ?_
  refine BN (Cv.trans (BF (⟨(A8 [(9,tI v9)]),[(BD b),(2,Z6h),(3,Z6J b v3_5 v3_6 v3_8 v3_9 v9),(26,Z6j b),(128,Z6K v3_9 b v9),(Bw v3_5),(100001,Z6s v3_6),(100002,Z6A v3_8)]⟩) lr (.cons ⟨rfl,.refl _⟩ (.cons ⟨rfl,.refl _⟩ (.cons ⟨rfl,.cells _ (rr9 (.cons (.own _ _ au0) (rr (rr (rr (rr (rr .nil)))))))⟩ (.cons ⟨rfl,.refl _⟩ (.cons ⟨rfl,Ai 93 (BO (BA 5 BQ.c v3_9) (Ar (c:=BQ.c) (xs:=([BQ.mk (b.Keeps.getD v9.toNat default).Id (b.Keeps.getD v9.toNat default).Layer (Z6I b v9)]:List BQ)) rfl kr))⟩ lr)))))) (Cv.refl _)) ?_
  refine rg ⟨(A8 [(9,tI (W64 (v9+1)))]),[(BD b),(2,Z6h),(3,Z6J b v3_5 v3_6 v3_8 v3_9 v9),(26,Z6j b),(128,Z6K v3_9 b v9),(Bw v3_5),(100001,Z6s v3_6),(100002,Z6A v3_8)]⟩ ?_
  (try rw [(show W64 (v9+1)=v9+1 from Ao oM au6)])
  refine AH ?_
  refine ⟨(n3,v3_9++[BQ.mk (b.Keeps.getD v9.toNat default).Id (b.Keeps.getD v9.toNat default).Layer (Z6I b v9)],v9+1),⟨?_,?_,(by rw [<- hF3];simp only [Ba,h4,cond_true,cond_false])⟩,Nat.lt_succ_self _,Cv.trans (vr 128 100003 hk0) (Cv.trans (vk [1,2,3,9] [1,2,3,26,100000,100001,100002,100003]) (A6 kr))⟩
  ·show ((b.Keeps.length:Int)-(v9+1)).toNat<n3;omega
  exact ⟨ax0,ax0,ax0⟩
 have g4:=oF h4
 refine BJ<|A4 ?_
 refine A4<|BK ?_
 refine AH<|AB<|AB ?_
 refine rn ⟨PO,[(BD b),(2,Z6h),(3,Z6G b v3_5 v3_6 v3_8 v3_9),(26,Z6j b),(Bw v3_5),(100001,Z6s v3_6),(100002,Z6A v3_8),(100003,Z6H v3_9)]⟩<|AX ?_
 refine BN (Cv.trans (wg (⟨PO,[(100004,.row 4 0 (fun _ _=>default) 95),(BD b),(2,Z6h),(3,.cells (Bg b v3_5 v3_6 (Ij v3_8 v3_9 [.own 100004 4 0,vN,vN,lst 3 Am.c b.Waivers,vN])) 42),(26,Z6j b),(Bw v3_5),(100001,Z6s v3_6),(100002,Z6A v3_8),(100003,Z6H v3_9)]⟩) 100004 4 (fun _ _=>default) 95 [] [(3,[10])] hk0) (Cv.trans (BF (⟨PO,[(100004,Z6M),(BD b),(2,Z6h),(3,Z6N b v3_5 v3_6 v3_8 v3_9),(26,Z6j b),(Bw v3_5),(100001,Z6s v3_6),(100002,Z6A v3_8),(100003,Z6H v3_9)]⟩) lr (.cons ⟨rfl,Ai 95 (B8 4 (fun _ _=>default) BX.c)⟩ (.cons ⟨rfl,.refl _⟩ (.cons ⟨rfl,.refl _⟩ (.cons ⟨rfl,.cells _ (rr9 (rr (.cons (.own _ _ au0) (rr (rr (rr (rr .nil)))))))⟩ lr))))) (Cv.trans (ck (⟨PO,[(BD b),(2,Z6h),(3,Z6N b v3_5 v3_6 v3_8 v3_9),(26,Z6j b),(Bw v3_5),(100001,Z6s v3_6),(100002,Z6A v3_8),(100003,Z6H v3_9),(100004,Z6M)]⟩)) (Cv.refl _)))) ?_
 refine BH (ι:=Nat×List BX×Int) (fun x=>⟨(A8 [(11,tI x.2.2)]),[(BD b),(2,Z6h),(3,.cells (Bg b v3_5 v3_6 (Ij v3_8 v3_9 [.own 100004 4 x.2.1.length,vN,vN,lst 3 Am.c b.Waivers,vN])) 42),(26,Z6j b),(Bw v3_5),(100001,Z6s v3_6),(100002,Z6A v3_8),(100003,Z6H v3_9),(100004,.row 4 x.2.1.length (AU BX.c x.2.1) 95)]⟩) (fun x=>((b.Slots.length:Int)-x.2.2).toNat<x.1/\(0<=x.2.2/\(x.2.2<=(b.Slots.length:Int)\/x.2.2=0)/\(x.2.1.length:Int)<=0+1*(x.2.2-0))/\CM b v3_5 v4 v3_6 v5 v3_8 v7 v3_9 v9 (AK b n0) (AZ b v3_5 v4 (AK b n0) n1) (Ay b v3_5 v4 v3_6 v5 (AK b n0) (AZ b v3_5 v4 (AK b n0) n1) n2) (Ba b v3_5 v4 v3_6 v5 v3_8 v7 (AK b n0) (AZ b v3_5 v4 (AK b n0) n1) (Ay b v3_5 v4 v3_6 v5 (AK b n0) (AZ b v3_5 v4 (AK b n0) n1) n2) n3) x.1 x.2.1 x.2.2=AL b) (fun x=>x.1) ?_ (((b.Slots.length:Int)-0).toNat+1,([]:List BX),0) ⟨Nat.lt_succ_self _,⟨ax0,ax0,ax0⟩,(by rw [<- hF3];simp only [Ba,h4,cond_true,cond_false])⟩
 rintro ⟨n4,v3_10,v11⟩ ⟨hm4,hinv4,hF4⟩
 try dsimp only at hm4 hinv4 hF4
 cases n4 with | zero=>exact nz hm4 | succ n4 => ?_
 refine AB<|AB ?_
 refine rn ⟨(A8 [(11,tI v11),(134,tB (decide ((v11:Int)<(b.Slots.length:Int))))]),[(BD b),(2,Z6h),(3,Z6O b v3_5 v3_6 v3_8 v3_9 v3_10),(26,Z6j b),(Bw v3_5),(100001,Z6s v3_6),(100002,Z6A v3_8),(100003,Z6H v3_9),(100004,Z6P v3_10)]⟩ ?_
 refine Aa _ rfl (fun h5 => ?_) (fun h5 => ?_)
 ·have g5:=oT h5
  refine Ac<|AH ?_
  refine AB<|AX<|AB ?_
  refine rc [] [0<=(v11:Int)/\(v11:Int)<((b.Slots.length:Nat):Int)] ⟨(A8 [(11,tI v11),(12,tP 12 0)]),[(BD b),(2,Z6h),(3,Z6O b v3_5 v3_6 v3_8 v3_9 v3_10),(12,.cells (BX.c (b.Slots.getD v11.toNat default)) 95),(26,Z6j b),(Bw v3_5),(100001,Z6s v3_6),(100002,Z6A v3_8),(100003,Z6H v3_9),(100004,Z6P v3_10)]⟩ .nil (.cons au1 .nil)<|AH<|AB ?_
  refine rs 144 (Df (b.Slots.getD v11.toNat default).Shape) ⟨(A8 [(11,tI v11),(12,tP 12 0)]),[(BD b),(2,Z6h),(3,Z6O b v3_5 v3_6 v3_8 v3_9 v3_10),(12,.cells (V8 b v11) 95),(26,Z6j b),(Bw v3_5),(100001,Z6s v3_6),(100002,Z6A v3_8),(100003,Z6H v3_9),(100004,Z6P v3_10)]⟩ (E3 (b.Slots.getD v11.toNat default).Shape au21)<|AH ?_
  refine rc [] [v3_10.length=v3_10.length,v3_10.length+1<=maxLen,(v3_10.length+1)*48<=140737488355328] ⟨(A8 [(11,tI v11)]),[(BD b),(2,Z6h),(3,.cells (Bg b v3_5 v3_6 (Ij v3_8 v3_9 [.own 150 4 (v3_10.length+1),vN,vN,lst 3 Am.c b.Waivers,vN])) 42),(26,Z6j b),(150,.row 4 (v3_10.length+1) (fun i_ j_=>if i_<v3_10.length then (AU BX.c v3_10) i_ j_ else (As 4 1 (V8 b v11)) (i_-v3_10.length) j_) 95),(Bw v3_5),(100001,Z6s v3_6),(100002,Z6A v3_8),(100003,Z6H v3_9)]⟩ .nil (.cons rfl (.cons au10 (.cons au10 .nil)))<|Bd<|AH ?_
  refine BN (Cv.trans (BF (⟨(A8 [(11,tI v11)]),[(BD b),(2,Z6h),(3,Z6R b v3_5 v3_6 v3_8 v3_9 v3_10 v11),(26,Z6j b),(150,Z6S v3_10 b v11),(Bw v3_5),(100001,Z6s v3_6),(100002,Z6A v3_8),(100003,Z6H v3_9)]⟩) lr (.cons ⟨rfl,.refl _⟩ (.cons ⟨rfl,.refl _⟩ (.cons ⟨rfl,.cells _ (rr9 (rr (.cons (.own _ _ au0) (rr (rr (rr (rr .nil)))))))⟩ (.cons ⟨rfl,.refl _⟩ (.cons ⟨rfl,Ai 95 (BO (BA 4 BX.c v3_10) (Ar (c:=BX.c) (xs:=([BX.mk (b.Slots.getD v11.toNat default).Id (Z6Q b v11)]:List BX)) rfl kr))⟩ lr)))))) (Cv.refl _)) ?_
  refine rg ⟨(A8 [(11,tI (W64 (v11+1)))]),[(BD b),(2,Z6h),(3,Z6R b v3_5 v3_6 v3_8 v3_9 v3_10 v11),(26,Z6j b),(150,Z6S v3_10 b v11),(Bw v3_5),(100001,Z6s v3_6),(100002,Z6A v3_8),(100003,Z6H v3_9)]⟩ ?_
  (try rw [(show W64 (v11+1)=v11+1 from Ao oM au6)])
  refine AH ?_
  refine ⟨(n4,v3_10++[BX.mk (b.Slots.getD v11.toNat default).Id (Z6Q b v11)],v11+1),⟨?_,?_,(by rw [<- hF4];simp only [CM,h5,cond_true,cond_false])⟩,Nat.lt_succ_self _,Cv.trans (vr 150 100004 hk0) (Cv.trans (vk [1,2,3,11] [1,2,3,26,100000,100001,100002,100003,100004]) (A6 kr))⟩
  ·show ((b.Slots.length:Int)-(v11+1)).toNat<n4;omega
  exact ⟨ax0,ax0,ax0⟩
 have g5:=oF h5
 refine BJ<|A4 ?_
 refine A4<|BK ?_
 refine AH<|AB<|AB ?_
 refine rn ⟨PN,[(BD b),(2,Z6h),(3,Z6O b v3_5 v3_6 v3_8 v3_9 v3_10),(26,Z6j b),(Bw v3_5),(100001,Z6s v3_6),(100002,Z6A v3_8),(100003,Z6H v3_9),(100004,Z6P v3_10)]⟩<|AX ?_
 refine BN (Cv.trans (wg (⟨PN,[(100005,.row 2 0 (fun _ _=>default) 98),(BD b),(2,Z6h),(3,.cells (Bg b v3_5 v3_6 (DA v3_8 v3_9 v3_10 [.own 100005 2 0,vN,lst 3 Am.c b.Waivers,vN])) 42),(26,Z6j b),(Bw v3_5),(100001,Z6s v3_6),(100002,Z6A v3_8),(100003,Z6H v3_9),(100004,Z6P v3_10)]⟩) 100005 2 (fun _ _=>default) 98 [] [(3,[11])] hk0) (Cv.trans (BF (⟨PN,[(100005,Z6U),(BD b),(2,Z6h),(3,Z6V b v3_5 v3_6 v3_8 v3_9 v3_10),(26,Z6j b),(Bw v3_5),(100001,Z6s v3_6),(100002,Z6A v3_8),(100003,Z6H v3_9),(100004,Z6P v3_10)]⟩) lr (.cons ⟨rfl,Ai 98 (B8 2 (fun _ _=>default) BI.c)⟩ (.cons ⟨rfl,.refl _⟩ (.cons ⟨rfl,.refl _⟩ (.cons ⟨rfl,.cells _ (rr9 (rr2 (.cons (.own _ _ au0) (rr (rr (rr .nil))))))⟩ lr))))) (Cv.trans (ck (⟨PN,[(BD b),(2,Z6h),(3,Z6V b v3_5 v3_6 v3_8 v3_9 v3_10),(26,Z6j b),(Bw v3_5),(100001,Z6s v3_6),(100002,Z6A v3_8),(100003,Z6H v3_9),(100004,Z6P v3_10),(100005,Z6U)]⟩)) (Cv.refl _)))) ?_
 refine BH (ι:=Nat×List BI×Int) (fun x=>⟨(A8 [(13,tI x.2.2)]),[(BD b),(2,Z6h),(3,.cells (Bg b v3_5 v3_6 (DA v3_8 v3_9 v3_10 [.own 100005 2 x.2.1.length,vN,lst 3 Am.c b.Waivers,vN])) 42),(26,Z6j b),(Bw v3_5),(100001,Z6s v3_6),(100002,Z6A v3_8),(100003,Z6H v3_9),(100004,Z6P v3_10),(100005,.row 2 x.2.1.length (AU BI.c x.2.1) 98)]⟩) (fun x=>((b.Classes.length:Int)-x.2.2).toNat<x.1/\(0<=x.2.2/\(x.2.2<=(b.Classes.length:Int)\/x.2.2=0)/\(x.2.1.length:Int)<=0+1*(x.2.2-0))/\C8 b v3_5 v4 v3_6 v5 v3_8 v7 v3_9 v9 v3_10 v11 (AK b n0) (AZ b v3_5 v4 (AK b n0) n1) (Ay b v3_5 v4 v3_6 v5 (AK b n0) (AZ b v3_5 v4 (AK b n0) n1) n2) (Ba b v3_5 v4 v3_6 v5 v3_8 v7 (AK b n0) (AZ b v3_5 v4 (AK b n0) n1) (Ay b v3_5 v4 v3_6 v5 (AK b n0) (AZ b v3_5 v4 (AK b n0) n1) n2) n3) (CM b v3_5 v4 v3_6 v5 v3_8 v7 v3_9 v9 (AK b n0) (AZ b v3_5 v4 (AK b n0) n1) (Ay b v3_5 v4 v3_6 v5 (AK b n0) (AZ b v3_5 v4 (AK b n0) n1) n2) (Ba b v3_5 v4 v3_6 v5 v3_8 v7 (AK b n0) (AZ b v3_5 v4 (AK b n0) n1) (Ay b v3_5 v4 v3_6 v5 (AK b n0) (AZ b v3_5 v4 (AK b n0) n1) n2) n3) n4) x.1 x.2.1 x.2.2=AL b) (fun x=>x.1) ?_ (((b.Classes.length:Int)-0).toNat+1,([]:List BI),0) ⟨Nat.lt_succ_self _,⟨ax0,ax0,ax0⟩,(by rw [<- hF4];simp only [CM,h5,cond_true,cond_false])⟩
 rintro ⟨n5,v3_11,v13⟩ ⟨hm5,hinv5,hF5⟩
 try dsimp only at hm5 hinv5 hF5
 cases n5 with | zero=>exact nz hm5 | succ n5 => ?_
 have hb:=hc.cnt v13.toNat
 refine AB<|AB ?_
 refine rn ⟨(A8 [(13,tI v13),(156,tB (decide ((v13:Int)<(b.Classes.length:Int))))]),[(BD b),(2,Z6h),(3,Z6W b v3_5 v3_6 v3_8 v3_9 v3_10 v3_11),(26,Z6j b),(Bw v3_5),(100001,Z6s v3_6),(100002,Z6A v3_8),(100003,Z6H v3_9),(100004,Z6P v3_10),(100005,Z6X v3_11)]⟩ ?_
 refine Aa _ rfl (fun h6 => ?_) (fun h6 => ?_)
 ·have g6:=oT h6
  refine Ac<|AH ?_
  refine AB<|AX ?_
  refine dw [1000167] [] [0<=(v13:Int)/\(v13:Int)<((b.Classes.length:Nat):Int),0<=(v13:Int)/\(v13:Int)<((b.Classes.length:Nat):Int),(b.Classes.getD v13.toNat default).Nets.length<=maxLen,(b.Classes.getD v13.toNat default).Nets.length*16<=140737488355328,v3_11.length=v3_11.length,v3_11.length+1<=maxLen,(v3_11.length+1)*40<=140737488355328] ⟨(A8 [(13,tI v13)]),[(BD b),(2,Z6h),(3,.cells (Bg b v3_5 v3_6 (DA v3_8 v3_9 v3_10 [.own 177 2 (v3_11.length+1),vN,lst 3 Am.c b.Waivers,vN])) 42),(26,Z6j b),(177,.row 2 (v3_11.length+1) (fun i_ j_=>if i_<v3_11.length then (AU BI.c v3_11) i_ j_ else (As 2 1 (BI.c (b.Classes.getD v13.toNat default))) (i_-v3_11.length) j_) 98),(Bw v3_5),(100001,Z6s v3_6),(100002,Z6A v3_8),(100003,Z6H v3_9),(100004,Z6P v3_10)]⟩ .nil (.cons au1 (.cons au1 (.cons au10 (.cons au10 (.cons rfl (.cons au10 (.cons au10 .nil)))))))<|Bd<|AH ?_
  refine BN (Cv.trans (BF (⟨(A8 [(13,tI v13)]),[(BD b),(2,Z6h),(3,Z6Y b v3_5 v3_6 v3_8 v3_9 v3_10 v3_11 v13),(26,Z6j b),(177,Z6Z v3_11 b v13),(Bw v3_5),(100001,Z6s v3_6),(100002,Z6A v3_8),(100003,Z6H v3_9),(100004,Z6P v3_10)]⟩) lr (.cons ⟨rfl,.refl _⟩ (.cons ⟨rfl,.refl _⟩ (.cons ⟨rfl,.cells _ (rr9 (rr2 (.cons (.own _ _ au0) (rr (rr (rr .nil))))))⟩ (.cons ⟨rfl,.refl _⟩ (.cons ⟨rfl,Ai 98 (BO (BA 2 BI.c v3_11) (Ar (c:=BI.c) (xs:=([b.Classes.getD v13.toNat default]:List BI)) rfl kr))⟩ lr)))))) (Cv.refl _)) ?_
  refine rg ⟨(A8 [(13,tI (W64 (v13+1)))]),[(BD b),(2,Z6h),(3,Z6Y b v3_5 v3_6 v3_8 v3_9 v3_10 v3_11 v13),(26,Z6j b),(177,Z6Z v3_11 b v13),(Bw v3_5),(100001,Z6s v3_6),(100002,Z6A v3_8),(100003,Z6H v3_9),(100004,Z6P v3_10)]⟩ ?_
  (try rw [(show W64 (v13+1)=v13+1 from Ao oM au6)])
  refine AH ?_
  refine ⟨(n5,v3_11++[b.Classes.getD v13.toNat default],v13+1),⟨?_,?_,(by rw [<- hF5];simp only [C8,h6,cond_true,cond_false])⟩,Nat.lt_succ_self _,Cv.trans (vr 177 100005 hk0) (Cv.trans (vk [1,2,3,13] [1,2,3,26,100000,100001,100002,100003,100004,100005]) (A6 kr))⟩
  ·show ((b.Classes.length:Int)-(v13+1)).toNat<n5;omega
  exact ⟨ax0,ax0,ax0⟩
 have g6:=oF h6
 refine BJ<|A4 ?_
 refine A4<|BK ?_
 refine AH<|AB<|AB ?_
 refine rn ⟨PM,[(BD b),(2,Z6h),(3,Z6W b v3_5 v3_6 v3_8 v3_9 v3_10 v3_11),(26,Z6j b),(Bw v3_5),(100001,Z6s v3_6),(100002,Z6A v3_8),(100003,Z6H v3_9),(100004,Z6P v3_10),(100005,Z6X v3_11)]⟩<|AX ?_
 refine BN (Cv.trans (wg (⟨PM,[(100006,.row 3 0 (fun _ _=>default) 100),(BD b),(2,Z6h),(3,.cells (Bg b v3_5 v3_6 (DA v3_8 v3_9 v3_10 (HX v3_11 b [.own 100006 3 0]))) 42),(26,Z6j b),(Bw v3_5),(100001,Z6s v3_6),(100002,Z6A v3_8),(100003,Z6H v3_9),(100004,Z6P v3_10),(100005,Z6X v3_11)]⟩) 100006 3 (fun _ _=>default) 100 [] [(3,[14])] hk0) (Cv.trans (BF (⟨PM,[(100006,Z71),(BD b),(2,Z6h),(3,Z72 b v3_5 v3_6 v3_8 v3_9 v3_10 v3_11),(26,Z6j b),(Bw v3_5),(100001,Z6s v3_6),(100002,Z6A v3_8),(100003,Z6H v3_9),(100004,Z6P v3_10),(100005,Z6X v3_11)]⟩) lr (.cons ⟨rfl,Ai 100 (B8 3 (fun _ _=>default) BT.c)⟩ (.cons ⟨rfl,.refl _⟩ (.cons ⟨rfl,.refl _⟩ (.cons ⟨rfl,.cells _ (rr9 (rr5 (.cons (.own _ _ au0) .nil)))⟩ lr))))) (Cv.trans (ck (⟨PM,[(BD b),(2,Z6h),(3,Z72 b v3_5 v3_6 v3_8 v3_9 v3_10 v3_11),(26,Z6j b),(Bw v3_5),(100001,Z6s v3_6),(100002,Z6A v3_8),(100003,Z6H v3_9),(100004,Z6P v3_10),(100005,Z6X v3_11),(100006,Z71)]⟩)) (Cv.refl _)))) ?_
 refine BH (ι:=Nat×List BT×Int) (fun x=>⟨(A8 [(14,tI x.2.2)]),[(BD b),(2,Z6h),(3,.cells (Bg b v3_5 v3_6 (DA v3_8 v3_9 v3_10 (HX v3_11 b [.own 100006 3 x.2.1.length]))) 42),(26,Z6j b),(Bw v3_5),(100001,Z6s v3_6),(100002,Z6A v3_8),(100003,Z6H v3_9),(100004,Z6P v3_10),(100005,Z6X v3_11),(100006,.row 3 x.2.1.length (AU BT.c x.2.1) 100)]⟩) (fun x=>((b.Matches.length:Int)-x.2.2).toNat<x.1/\(0<=x.2.2/\(x.2.2<=(b.Matches.length:Int)\/x.2.2=0)/\(x.2.1.length:Int)<=0+1*(x.2.2-0))/\Dh b v3_5 v4 v3_6 v5 v3_8 v7 v3_9 v9 v3_10 v11 v3_11 v13 (AK b n0) (AZ b v3_5 v4 (AK b n0) n1) (Ay b v3_5 v4 v3_6 v5 (AK b n0) (AZ b v3_5 v4 (AK b n0) n1) n2) (Ba b v3_5 v4 v3_6 v5 v3_8 v7 (AK b n0) (AZ b v3_5 v4 (AK b n0) n1) (Ay b v3_5 v4 v3_6 v5 (AK b n0) (AZ b v3_5 v4 (AK b n0) n1) n2) n3) (CM b v3_5 v4 v3_6 v5 v3_8 v7 v3_9 v9 (AK b n0) (AZ b v3_5 v4 (AK b n0) n1) (Ay b v3_5 v4 v3_6 v5 (AK b n0) (AZ b v3_5 v4 (AK b n0) n1) n2) (Ba b v3_5 v4 v3_6 v5 v3_8 v7 (AK b n0) (AZ b v3_5 v4 (AK b n0) n1) (Ay b v3_5 v4 v3_6 v5 (AK b n0) (AZ b v3_5 v4 (AK b n0) n1) n2) n3) n4) (C8 b v3_5 v4 v3_6 v5 v3_8 v7 v3_9 v9 v3_10 v11 (AK b n0) (AZ b v3_5 v4 (AK b n0) n1) (Ay b v3_5 v4 v3_6 v5 (AK b n0) (AZ b v3_5 v4 (AK b n0) n1) n2) (Ba b v3_5 v4 v3_6 v5 v3_8 v7 (AK b n0) (AZ b v3_5 v4 (AK b n0) n1) (Ay b v3_5 v4 v3_6 v5 (AK b n0) (AZ b v3_5 v4 (AK b n0) n1) n2) n3) (CM b v3_5 v4 v3_6 v5 v3_8 v7 v3_9 v9 (AK b n0) (AZ b v3_5 v4 (AK b n0) n1) (Ay b v3_5 v4 v3_6 v5 (AK b n0) (AZ b v3_5 v4 (AK b n0) n1) n2) (Ba b v3_5 v4 v3_6 v5 v3_8 v7 (AK b n0) (AZ b v3_5 v4 (AK b n0) n1) (Ay b v3_5 v4 v3_6 v5 (AK b n0) (AZ b v3_5 v4 (AK b n0) n1) n2) n3) n4) n5) x.1 x.2.1 x.2.2=AL b) (fun x=>x.1) ?_ (((b.Matches.length:Int)-0).toNat+1,([]:List BT),0) ⟨Nat.lt_succ_self _,⟨ax0,ax0,ax0⟩,(by rw [<- hF5];simp only [C8,h6,cond_true,cond_false])⟩
 rintro ⟨n6,v3_14,v14⟩ ⟨hm6,hinv6,hF6⟩
 try dsimp only at hm6 hinv6 hF6
 cases n6 with | zero=>exact nz hm6 | succ n6 => ?_
 have hb:=hc.mnt v14.toNat
 refine AB<|AB ?_
 refine rn ⟨(A8 [(14,tI v14),(183,tB (decide ((v14:Int)<(b.Matches.length:Int))))]),[(BD b),(2,Z6h),(3,Z73 b v3_5 v3_6 v3_8 v3_9 v3_10 v3_11 v3_14),(26,Z6j b),(Bw v3_5),(100001,Z6s v3_6),(100002,Z6A v3_8),(100003,Z6H v3_9),(100004,Z6P v3_10),(100005,Z6X v3_11),(100006,Z74 v3_14)]⟩ ?_
 refine Aa _ rfl (fun h7 => ?_) (fun h7 => ?_)
 ·have g7:=oT h7
  refine Ac<|AH ?_
  refine AB<|AX<|AB ?_
  refine rc [] [0<=(v14:Int)/\(v14:Int)<((b.Matches.length:Nat):Int)] ⟨(A8 [(14,tI v14),(15,tP 15 0)]),[(BD b),(2,Z6h),(3,Z73 b v3_5 v3_6 v3_8 v3_9 v3_10 v3_11 v3_14),(15,.cells (BT.c (b.Matches.getD v14.toNat default)) 100),(26,Z6j b),(Bw v3_5),(100001,Z6s v3_6),(100002,Z6A v3_8),(100003,Z6H v3_9),(100004,Z6P v3_10),(100005,Z6X v3_11),(100006,Z74 v3_14)]⟩ .nil (.cons au1 .nil)<|AH<|AB ?_
  refine DW D9 [1000191] [] [] [1,2,3,14,15] [1,2,3,15,26,100000,100001,100002,100003,100004,100005,100006] [(b.Matches.getD v14.toNat default).Nets.length<=maxLen,(b.Matches.getD v14.toNat default).Nets.length*16<=140737488355328] ⟨(A8 [(14,tI v14),(15,tP 15 0)]),[(BD b),(2,Z6h),(3,Z73 b v3_5 v3_6 v3_8 v3_9 v3_10 v3_11 v3_14),(15,.cells (BT.c (b.Matches.getD v14.toNat default)) 100),(26,Z6j b),(Bw v3_5),(100001,Z6s v3_6),(100002,Z6A v3_8),(100003,Z6H v3_9),(100004,Z6P v3_10),(100005,Z6X v3_11),(100006,Z74 v3_14)]⟩ .nil kr (.cons au10 (.cons au10 .nil))<|AH ?_
  refine rc [] [v3_14.length=v3_14.length,v3_14.length+1<=maxLen,(v3_14.length+1)*48<=140737488355328] ⟨(A8 [(14,tI v14)]),[(BD b),(2,Z6h),(3,.cells (Bg b v3_5 v3_6 (DA v3_8 v3_9 v3_10 (HX v3_11 b [.own 200 3 (v3_14.length+1)]))) 42),(26,Z6j b),(200,.row 3 (v3_14.length+1) (fun i_ j_=>if i_<v3_14.length then (AU BT.c v3_14) i_ j_ else (As 3 1 (BT.c (b.Matches.getD v14.toNat default))) (i_-v3_14.length) j_) 100),(Bw v3_5),(100001,Z6s v3_6),(100002,Z6A v3_8),(100003,Z6H v3_9),(100004,Z6P v3_10),(100005,Z6X v3_11)]⟩ .nil (.cons rfl (.cons au10 (.cons au10 .nil)))<|Bd<|AH ?_
  refine BN (Cv.trans (BF (⟨(A8 [(14,tI v14)]),[(BD b),(2,Z6h),(3,Z75 b v3_5 v3_6 v3_8 v3_9 v3_10 v3_11 v3_14 v14),(26,Z6j b),(200,Z76 v3_14 b v14),(Bw v3_5),(100001,Z6s v3_6),(100002,Z6A v3_8),(100003,Z6H v3_9),(100004,Z6P v3_10),(100005,Z6X v3_11)]⟩) lr (.cons ⟨rfl,.refl _⟩ (.cons ⟨rfl,.refl _⟩ (.cons ⟨rfl,.cells _ (rr9 (rr5 (.cons (.own _ _ au0) .nil)))⟩ (.cons ⟨rfl,.refl _⟩ (.cons ⟨rfl,Ai 100 (BO (BA 3 BT.c v3_14) (Ar (c:=BT.c) (xs:=([b.Matches.getD v14.toNat default]:List BT)) rfl kr))⟩ lr)))))) (Cv.refl _)) ?_
  refine rg ⟨(A8 [(14,tI (W64 (v14+1)))]),[(BD b),(2,Z6h),(3,Z75 b v3_5 v3_6 v3_8 v3_9 v3_10 v3_11 v3_14 v14),(26,Z6j b),(200,Z76 v3_14 b v14),(Bw v3_5),(100001,Z6s v3_6),(100002,Z6A v3_8),(100003,Z6H v3_9),(100004,Z6P v3_10),(100005,Z6X v3_11)]⟩ ?_
  (try rw [(show W64 (v14+1)=v14+1 from Ao oM au6)])
  refine AH ?_
  refine ⟨(n6,v3_14++[b.Matches.getD v14.toNat default],v14+1),⟨?_,?_,(by rw [<- hF6];simp only [Dh,h7,cond_true,cond_false])⟩,Nat.lt_succ_self _,Cv.trans (vr 200 100006 hk0) (Cv.trans (vk [1,2,3,14] [1,2,3,26,100000,100001,100002,100003,100004,100005,100006]) (A6 kr))⟩
  ·show ((b.Matches.length:Int)-(v14+1)).toNat<n6;omega
  exact ⟨ax0,ax0,ax0⟩
 have g7:=oF h7
 refine BJ<|A4 ?_
 refine A4<|BK ?_
 refine AH<|AB<|AB ?_
 refine rn ⟨PL,[(BD b),(2,Z6h),(3,Z73 b v3_5 v3_6 v3_8 v3_9 v3_10 v3_11 v3_14),(26,Z6j b),(Bw v3_5),(100001,Z6s v3_6),(100002,Z6A v3_8),(100003,Z6H v3_9),(100004,Z6P v3_10),(100005,Z6X v3_11),(100006,Z74 v3_14)]⟩<|AX ?_
 refine BN (Cv.trans (wg (⟨PL,[(100007,.row 20 0 (fun _ _=>default) 107),(BD b),(2,Z6h),(3,.cells (Bg b v3_5 v3_6 (DA v3_8 v3_9 v3_10 [.own 100005 2 v3_11.length,.own 100007 20 0,lst 3 Am.c b.Waivers,.own 100006 3 v3_14.length])) 42),(26,Z6j b),(Bw v3_5),(100001,Z6s v3_6),(100002,Z6A v3_8),(100003,Z6H v3_9),(100004,Z6P v3_10),(100005,Z6X v3_11),(100006,Z74 v3_14)]⟩) 100007 20 (fun _ _=>default) 107 [] [(3,[12])] hk0) (Cv.trans (BF (⟨PL,[(100007,Z78),(BD b),(2,Z6h),(3,Z79 b v3_5 v3_6 v3_8 v3_9 v3_10 v3_11 v3_14),(26,Z6j b),(Bw v3_5),(100001,Z6s v3_6),(100002,Z6A v3_8),(100003,Z6H v3_9),(100004,Z6P v3_10),(100005,Z6X v3_11),(100006,Z74 v3_14)]⟩) lr (.cons ⟨rfl,Ai 107 (B8 20 (fun _ _=>default) Ap.c)⟩ (.cons ⟨rfl,.refl _⟩ (.cons ⟨rfl,.refl _⟩ (.cons ⟨rfl,.cells _ (rr9 (rr3 (.cons (.own _ _ au0) (rr (rr .nil)))))⟩ lr))))) (Cv.trans (ck (⟨PL,[(BD b),(2,Z6h),(3,Z79 b v3_5 v3_6 v3_8 v3_9 v3_10 v3_11 v3_14),(26,Z6j b),(Bw v3_5),(100001,Z6s v3_6),(100002,Z6A v3_8),(100003,Z6H v3_9),(100004,Z6P v3_10),(100005,Z6X v3_11),(100006,Z74 v3_14),(100007,Z78)]⟩)) (Cv.refl _)))) ?_
 refine BH (ι:=Nat×List Ap×Int) (fun x=>⟨(A8 [(16,tI x.2.2)]),[(BD b),(2,Z6h),(3,.cells (Bg b v3_5 v3_6 (DA v3_8 v3_9 v3_10 [.own 100005 2 v3_11.length,.own 100007 20 x.2.1.length,lst 3 Am.c b.Waivers,.own 100006 3 v3_14.length])) 42),(26,Z6j b),(Bw v3_5),(100001,Z6s v3_6),(100002,Z6A v3_8),(100003,Z6H v3_9),(100004,Z6P v3_10),(100005,Z6X v3_11),(100006,Z74 v3_14),(100007,.row 20 x.2.1.length (AU Ap.c x.2.1) 107)]⟩) (fun x=>((b.Rules.length:Int)-x.2.2).toNat<x.1/\(0<=x.2.2/\(x.2.2<=(b.Rules.length:Int)\/x.2.2=0)/\(x.2.1.length:Int)<=0+1*(x.2.2-0))/\EQ b v3_5 v4 v3_6 v5 v3_8 v7 v3_9 v9 v3_10 v11 v3_11 v13 v3_14 v14 (AK b n0) (AZ b v3_5 v4 (AK b n0) n1) (Ay b v3_5 v4 v3_6 v5 (AK b n0) (AZ b v3_5 v4 (AK b n0) n1) n2) (Ba b v3_5 v4 v3_6 v5 v3_8 v7 (AK b n0) (AZ b v3_5 v4 (AK b n0) n1) (Ay b v3_5 v4 v3_6 v5 (AK b n0) (AZ b v3_5 v4 (AK b n0) n1) n2) n3) (CM b v3_5 v4 v3_6 v5 v3_8 v7 v3_9 v9 (AK b n0) (AZ b v3_5 v4 (AK b n0) n1) (Ay b v3_5 v4 v3_6 v5 (AK b n0) (AZ b v3_5 v4 (AK b n0) n1) n2) (Ba b v3_5 v4 v3_6 v5 v3_8 v7 (AK b n0) (AZ b v3_5 v4 (AK b n0) n1) (Ay b v3_5 v4 v3_6 v5 (AK b n0) (AZ b v3_5 v4 (AK b n0) n1) n2) n3) n4) (C8 b v3_5 v4 v3_6 v5 v3_8 v7 v3_9 v9 v3_10 v11 (AK b n0) (AZ b v3_5 v4 (AK b n0) n1) (Ay b v3_5 v4 v3_6 v5 (AK b n0) (AZ b v3_5 v4 (AK b n0) n1) n2) (Ba b v3_5 v4 v3_6 v5 v3_8 v7 (AK b n0) (AZ b v3_5 v4 (AK b n0) n1) (Ay b v3_5 v4 v3_6 v5 (AK b n0) (AZ b v3_5 v4 (AK b n0) n1) n2) n3) (CM b v3_5 v4 v3_6 v5 v3_8 v7 v3_9 v9 (AK b n0) (AZ b v3_5 v4 (AK b n0) n1) (Ay b v3_5 v4 v3_6 v5 (AK b n0) (AZ b v3_5 v4 (AK b n0) n1) n2) (Ba b v3_5 v4 v3_6 v5 v3_8 v7 (AK b n0) (AZ b v3_5 v4 (AK b n0) n1) (Ay b v3_5 v4 v3_6 v5 (AK b n0) (AZ b v3_5 v4 (AK b n0) n1) n2) n3) n4) n5) (Dh b v3_5 v4 v3_6 v5 v3_8 v7 v3_9 v9 v3_10 v11 v3_11 v13 (AK b n0) (AZ b v3_5 v4 (AK b n0) n1) (Ay b v3_5 v4 v3_6 v5 (AK b n0) (AZ b v3_5 v4 (AK b n0) n1) n2) (Ba b v3_5 v4 v3_6 v5 v3_8 v7 (AK b n0) (AZ b v3_5 v4 (AK b n0) n1) (Ay b v3_5 v4 v3_6 v5 (AK b n0) (AZ b v3_5 v4 (AK b n0) n1) n2) n3) (CM b v3_5 v4 v3_6 v5 v3_8 v7 v3_9 v9 (AK b n0) (AZ b v3_5 v4 (AK b n0) n1) (Ay b v3_5 v4 v3_6 v5 (AK b n0) (AZ b v3_5 v4 (AK b n0) n1) n2) (Ba b v3_5 v4 v3_6 v5 v3_8 v7 (AK b n0) (AZ b v3_5 v4 (AK b n0) n1) (Ay b v3_5 v4 v3_6 v5 (AK b n0) (AZ b v3_5 v4 (AK b n0) n1) n2) n3) n4) (C8 b v3_5 v4 v3_6 v5 v3_8 v7 v3_9 v9 v3_10 v11 (AK b n0) (AZ b v3_5 v4 (AK b n0) n1) (Ay b v3_5 v4 v3_6 v5 (AK b n0) (AZ b v3_5 v4 (AK b n0) n1) n2) (Ba b v3_5 v4 v3_6 v5 v3_8 v7 (AK b n0) (AZ b v3_5 v4 (AK b n0) n1) (Ay b v3_5 v4 v3_6 v5 (AK b n0) (AZ b v3_5 v4 (AK b n0) n1) n2) n3) (CM b v3_5 v4 v3_6 v5 v3_8 v7 v3_9 v9 (AK b n0) (AZ b v3_5 v4 (AK b n0) n1) (Ay b v3_5 v4 v3_6 v5 (AK b n0) (AZ b v3_5 v4 (AK b n0) n1) n2) (Ba b v3_5 v4 v3_6 v5 v3_8 v7 (AK b n0) (AZ b v3_5 v4 (AK b n0) n1) (Ay b v3_5 v4 v3_6 v5 (AK b n0) (AZ b v3_5 v4 (AK b n0) n1) n2) n3) n4) n5) n6) x.1 x.2.1 x.2.2=AL b) (fun x=>x.1) ?_ (((b.Rules.length:Int)-0).toNat+1,([]:List Ap),0) ⟨Nat.lt_succ_self _,⟨ax0,ax0,ax0⟩,(by rw [<- hF6];simp only [Dh,h7,cond_true,cond_false])⟩
 rintro ⟨n7,v3_12,v16⟩ ⟨hm7,hinv7,hF7⟩
 try dsimp only at hm7 hinv7 hF7
 cases n7 with | zero=>exact nz hm7 | succ n7 => ?_
 refine AB<|AB ?_
 refine rn ⟨(A8 [(16,tI v16),(206,tB (decide ((v16:Int)<(b.Rules.length:Int))))]),[(BD b),(2,Z6h),(3,Z7a b v3_5 v3_6 v3_8 v3_9 v3_10 v3_11 v3_12 v3_14),(26,Z6j b),(Bw v3_5),(100001,Z6s v3_6),(100002,Z6A v3_8),(100003,Z6H v3_9),(100004,Z6P v3_10),(100005,Z6X v3_11),(100006,Z74 v3_14),(100007,Z7b v3_12)]⟩ ?_
 refine Aa _ rfl (fun h8 => ?_) (fun h8 => ?_)
 ·have g8:=oT h8
  refine Ac<|AH ?_
  refine AB<|AX<|AB ?_
  refine rc [] [0<=(v16:Int)/\(v16:Int)<((b.Rules.length:Nat):Int)] ⟨(SJ v16),[(BD b),(2,Z6h),(3,Z7a b v3_5 v3_6 v3_8 v3_9 v3_10 v3_11 v3_12 v3_14),(17,.cells (Ap.c (Em b v16)) 107),(26,Z6j b),(Bw v3_5),(100001,Z6s v3_6),(100002,Z6A v3_8),(100003,Z6H v3_9),(100004,Z6P v3_10),(100005,Z6X v3_11),(100006,Z74 v3_14),(100007,Z7b v3_12)]⟩ .nil (.cons au1 .nil)<|AH<|AB ?_
  refine rs 216 (IE (b.Rules.getD v16.toNat default).A) ⟨(SJ v16),[(BD b),(2,Z6h),(3,Z7a b v3_5 v3_6 v3_8 v3_9 v3_10 v3_11 v3_12 v3_14),(17,.cells (Vr b v16 [.i (Em b v16).B.Op,.s (Em b v16).B.Text,.i (Em b v16).B.N,.i (Em b v16).B.Box.X0,.i (Em b v16).B.Box.Y0,.i (Em b v16).B.Box.X1,.i (Em b v16).B.Box.Y1,opL (Em b v16).B.L,.i (Em b v16).Value]) 107),(26,Z6j b),(Bw v3_5),(100001,Z6s v3_6),(100002,Z6A v3_8),(100003,Z6H v3_9),(100004,Z6P v3_10),(100005,Z6X v3_11),(100006,Z74 v3_14),(100007,Z7b v3_12)]⟩ (Mt (b.Rules.getD v16.toNat default).A (by first | exact (Je hr _).1 | exact (Je hr _).2))<|AH<|AB ?_
  refine rs 220 (IE (b.Rules.getD v16.toNat default).B) ⟨(SJ v16),[(BD b),(2,Z6h),(3,Z7a b v3_5 v3_6 v3_8 v3_9 v3_10 v3_11 v3_12 v3_14),(17,.cells (WR b v16) 107),(26,Z6j b),(Bw v3_5),(100001,Z6s v3_6),(100002,Z6A v3_8),(100003,Z6H v3_9),(100004,Z6P v3_10),(100005,Z6X v3_11),(100006,Z74 v3_14),(100007,Z7b v3_12)]⟩ (Mt (b.Rules.getD v16.toNat default).B (by first | exact (Je hr _).1 | exact (Je hr _).2))<|AH ?_
  refine rc [] [v3_12.length=v3_12.length,v3_12.length+1<=maxLen,(v3_12.length+1)*216<=140737488355328] ⟨(A8 [(16,tI v16)]),[(BD b),(2,Z6h),(3,.cells (Bg b v3_5 v3_6 (DA v3_8 v3_9 v3_10 [.own 100005 2 v3_11.length,.own 226 20 (v3_12.length+1),lst 3 Am.c b.Waivers,.own 100006 3 v3_14.length])) 42),(26,Z6j b),(226,.row 20 (v3_12.length+1) (fun i_ j_=>if i_<v3_12.length then (AU Ap.c v3_12) i_ j_ else (As 20 1 (WR b v16)) (i_-v3_12.length) j_) 107),(Bw v3_5),(100001,Z6s v3_6),(100002,Z6A v3_8),(100003,Z6H v3_9),(100004,Z6P v3_10),(100005,Z6X v3_11),(100006,Z74 v3_14)]⟩ .nil (.cons rfl (.cons au10 (.cons au10 .nil)))<|Bd<|AH ?_
  refine BN (Cv.trans (BF (⟨(A8 [(16,tI v16)]),[(BD b),(2,Z6h),(3,Z7e b v3_5 v3_6 v3_8 v3_9 v3_10 v3_11 v3_12 v16 v3_14),(26,Z6j b),(226,Z7f v3_12 b v16),(Bw v3_5),(100001,Z6s v3_6),(100002,Z6A v3_8),(100003,Z6H v3_9),(100004,Z6P v3_10),(100005,Z6X v3_11),(100006,Z74 v3_14)]⟩) lr (.cons ⟨rfl,.refl _⟩ (.cons ⟨rfl,.refl _⟩ (.cons ⟨rfl,.cells _ (rr9 (rr3 (.cons (.own _ _ au0) (rr (rr .nil)))))⟩ (.cons ⟨rfl,.refl _⟩ (.cons ⟨rfl,Ai 107 (BO (BA 20 Ap.c v3_12) (Ar (c:=Ap.c) (xs:=([Ap.mk (b.Rules.getD v16.toNat default).Name (b.Rules.getD v16.toNat default).Priority (b.Rules.getD v16.toNat default).What (Z7c b v16) (Z7d b v16) (b.Rules.getD v16.toNat default).Value]:List Ap)) rfl kr))⟩ lr)))))) (Cv.refl _)) ?_
  refine rg ⟨(A8 [(16,tI (W64 (v16+1)))]),[(BD b),(2,Z6h),(3,Z7e b v3_5 v3_6 v3_8 v3_9 v3_10 v3_11 v3_12 v16 v3_14),(26,Z6j b),(226,Z7f v3_12 b v16),(Bw v3_5),(100001,Z6s v3_6),(100002,Z6A v3_8),(100003,Z6H v3_9),(100004,Z6P v3_10),(100005,Z6X v3_11),(100006,Z74 v3_14)]⟩ ?_
  (try rw [(show W64 (v16+1)=v16+1 from Ao oM au6)])
  refine AH ?_
  refine ⟨(n7,v3_12++[Ap.mk (b.Rules.getD v16.toNat default).Name (b.Rules.getD v16.toNat default).Priority (b.Rules.getD v16.toNat default).What (Z7c b v16) (Z7d b v16) (b.Rules.getD v16.toNat default).Value],v16+1),⟨?_,?_,(by rw [<- hF7];simp only [EQ,h8,cond_true,cond_false])⟩,Nat.lt_succ_self _,Cv.trans (vr 226 100007 hk0) (Cv.trans (vk [1,2,3,16] [1,2,3,26,100000,100001,100002,100003,100004,100005,100006,100007]) (A6 kr))⟩
  ·show ((b.Rules.length:Int)-(v16+1)).toNat<n7;omega
  exact ⟨ax0,ax0,ax0⟩
 refine BJ<|A4 ?_
 refine A4<|BK ?_
 refine AH<|AB ?_
 refine rn ⟨[(2,tP 2 0)],[(2,Z7a b v3_5 v3_6 v3_8 v3_9 v3_10 v3_11 v3_12 v3_14),(26,Z6j b),(Bw v3_5),(100001,Z6s v3_6),(100002,Z6A v3_8),(100003,Z6H v3_9),(100004,Z6P v3_10),(100005,Z6X v3_11),(100006,Z74 v3_14),(100007,Z7b v3_12)]⟩<|Ae ?_
 exact yl (Cv.trans (vf 100000 2 v3_5.length (AU A3.c v3_5) 48 hk0 (.cons ⟨rfl,rfl⟩ .nil)) (Cv.trans (vf 100001 6 v3_6.length (AU Aj.c v3_6) 85 hk0 (.cons ⟨rfl,rfl⟩ .nil)) (Cv.trans (vf 100002 8 v3_8.length (AU BB.c v3_8) 90 hk0 (.cons ⟨rfl,rfl⟩ .nil)) (Cv.trans (vf 100003 5 v3_9.length (AU BQ.c v3_9) 93 hk0 (.cons ⟨rfl,rfl⟩ .nil)) (Cv.trans (vf 100004 4 v3_10.length (AU BX.c v3_10) 95 hk0 (.cons ⟨rfl,rfl⟩ .nil)) (Cv.trans (vf 100005 2 v3_11.length (AU BI.c v3_11) 98 hk0 (.cons ⟨rfl,rfl⟩ .nil)) (Cv.trans (vf 100007 20 v3_12.length (AU Ap.c v3_12) 107 hk0 (.cons ⟨rfl,rfl⟩ .nil)) (Cv.trans (vf 100006 3 v3_14.length (AU BT.c v3_14) 100 hk0 (.cons ⟨rfl,rfl⟩ .nil)) (Cv.refl _))))))))) (.av (.agg (Nl 7 b.Parts.length 26 (Jn (AG.mk b.Layers (Cz b.Outline) b.Parts v3_5 v3_6 b.Vias v3_8 v3_9 v3_10 v3_11 v3_12 b.Waivers v3_14))))) (frA (fun x:AG=>x.Parts.length) Jn (fun x=>AU AF.c x.Parts) (x:=AG.mk b.Layers (Cz b.Outline) b.Parts v3_5 v3_6 b.Vias v3_8 v3_9 v3_10 v3_11 v3_12 b.Waivers v3_14) (by rw [<- hF7];first | (simp only [EQ,h8,cond_true,cond_false] <;> rfl)) kr)
def Uf:CT:=(12,[.agg (AG.c b)],.new [] (.row 7 (AL b).Parts.length (AU AF.c (AL b).Parts) 59) (fun d=>.av (.agg (Nl 7 (AL b).Parts.length d (Jn (AL b))))))
theorem XE (b:AG) (hc:Qi b):OKc (Uf b):=Ks (fun _ _=>kr) (Y3 b hc)
end
end Go.Proofs.Ytdbampcfmjbgmaa
