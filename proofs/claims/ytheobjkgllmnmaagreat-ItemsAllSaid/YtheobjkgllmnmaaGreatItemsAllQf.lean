/-
  No statement is proved in this text. It holds a part of what the proof of ItemsAll needs.
-/
import Derived.Test.YtheobjkgllmnmaaGreatItemsAllQe
namespace Go.Proofs.YtheobjkgllmnmaaGreat
set_option maxRecDepth 100000
set_option linter.unusedVariables false
set_option linter.unusedSimpArgs false
open Go.RowKit
section
open Go.RowKit
theorem Yz{b:AC}(d:AF)(hp:1<=(b.Parts.length:Int))(h0:(b.Parts.length:Int)<=1000000)(h1:(b.Tracks.length:Int)<=1000000)(h2:(b.Vias.length:Int)<=1000000)(h3:(b.Pours.length:Int)<=1000000)(h4:(b.Keeps.length:Int)<=1000000)(h5:(b.Slots.length:Int)<=1000000):0<=(AB d ((F8 b).length:Int)).1/\(AB d ((F8 b).length:Int)).1<((F8 b).length:Int):=by
 have hq:=gU b;exact Me _ _ _ mz mz mz
theorem jc{b:AC}(hp:1<=(b.Parts.length:Int)):((F8 b).length:Int)≠0:=by
 have hq:=gU b;omega
theorem ar{α:Type}{c:Bool}{a b:List α}{k n:Nat}(ha:a.length+k<=n)(hb:b.length+k<=n):(bif c then a else b).length+k<=n:=by cases c<;>assumption
theorem tQ{α:Type}{c:Bool}{a b:List α}{k n m:Nat}(ha:(a.length+k)*m<=n)(hb:(b.length+k)*m<=n):((bif c then a else b).length+k)*m<=n:=by cases c<;>assumption
variable (d:AF)(b:AC)
def Z4b:CT:=(42,([.one (.ptr 1000 0),.one (.i 10)]:List Av).map (CH 1000 1001),wrI 1001 (Jg d) (tI (AB d 10).1) (.cells (AF.c (AB d 10).2) 117))
abbrev DS:=AB (AB d 10).2 8
def Z4c:CT:=(42,([.one (.ptr 1000 0),.one (.i 8)]:List Av).map (CH 1000 1001),wrI 1001 (.cells (AF.c (AB d 10).2) 117) (tI (DS d).1) (.cells (AF.c (DS d).2) 117))
def Z4e:Blk:=.row 20 ([A5.mk (⟨#[99,49]⟩:my) 1 1 AH AH (W64 (3+(AB d 10).1)),A5.mk (⟨#[101,49]⟩:my) 1 3 AH AH (W64 (2+(DS d).1))].length) (AL A5.c [A5.mk (⟨#[99,49]⟩:my) 1 1 AH AH (W64 (3+(AB d 10).1)),A5.mk (⟨#[101,49]⟩:my) 1 3 AH AH (W64 (2+(DS d).1))]) 147
def Z4f(b:AC)(d:AF):Blk:=.cells (Bj b (DR b [vN,.own 18 20 ([A5.mk (⟨#[99,49]⟩:my) 1 1 AH AH (W64 (3+(AB d 10).1)),A5.mk (⟨#[101,49]⟩:my) 1 3 AH AH (W64 (2+(DS d).1))].length),vN,vN])) 41
def Z4g:CT:=(42,HA.map (CH 1000 1001),wrI 1001 (.cells (AF.c (DS d).2) 117) (tI (AB (DS d).2 2).1) (.cells (AF.c (AB (DS d).2 2).2) 117))
abbrev Z4h:AF:=(AB (AB (AB d 10).2 8).2 2).2
def Z4i:CT:=(42,NQ.map (CH 1000 1001),wrI 1001 (.cells (AF.c (Z4h d)) 117) (tI (AB (Z4h d) 5).1) (.cells (AF.c (AB (Z4h d) 5).2) 117))
abbrev Lg:=AB (AB (Z4h d) 5).2 4
def Z4j:CT:=(42,Jb.map (CH 1000 1001),wrI 1001 (.cells (AF.c (AB (Z4h d) 5).2) 117) (tI (Lg d).1) (.cells (AF.c (Lg d).2) 117))
def Z4k:Blk:=.cells (AF.c (Lg d).2) 117
def Z4l:Blk:=.row 20 ([A5.mk (⟨#[99,49]⟩:my) 1 1 AH AH (W64 (3+(AB d 10).1)),A5.mk (⟨#[101,49]⟩:my) 1 3 AH AH (W64 (2+(DS d).1))]++[A5.mk (⟨#[119,49]⟩:my) 1 2 AH AH (W64 (6+(AB (Z4h d) 5).1)),A5.mk (⟨#[114,49]⟩:my) 1 4 AH AH (W64 (2+(Lg d).1))]).length (AL A5.c ([A5.mk (⟨#[99,49]⟩:my) 1 1 AH AH (W64 (3+(AB d 10).1)),A5.mk (⟨#[101,49]⟩:my) 1 3 AH AH (W64 (2+(DS d).1))]++[A5.mk (⟨#[119,49]⟩:my) 1 2 AH AH (W64 (6+(AB (Z4h d) 5).1)),A5.mk (⟨#[114,49]⟩:my) 1 4 AH AH (W64 (2+(Lg d).1))])) 147
def Z4m(b:AC)(d:AF):Blk:=.cells (Bj b (DR b [vN,.own 2000 20 ([A5.mk (⟨#[99,49]⟩:my) 1 1 AH AH (W64 (3+(AB d 10).1)),A5.mk (⟨#[101,49]⟩:my) 1 3 AH AH (W64 (2+(DS d).1))]++[A5.mk (⟨#[119,49]⟩:my) 1 2 AH AH (W64 (6+(AB (Z4h d) 5).1)),A5.mk (⟨#[114,49]⟩:my) 1 4 AH AH (W64 (2+(Lg d).1))]).length,vN,vN])) 41
def Z4n(b:AC)(d:AF):Blk:=.cells (Bj b (DR b [vN,.own 2000 20 ([A5.mk (⟨#[99,49]⟩:my) 1 1 AH AH (W64 (3+(AB d 10).1)),A5.mk (⟨#[101,49]⟩:my) 1 3 AH AH (W64 (2+(DS d).1))].length),vN,vN])) 41
abbrev Z4o:AF:=bif decide (((AB (AB (AB d 10).2 8).2 2).1:Int)=1)then(AB (AB (Z4h d) 5).2 4).2 else(Z4h d)
def Z4p:(List A5):=bif decide (((AB (AB (AB d 10).2 8).2 2).1:Int)=1)then([A5.mk (⟨#[99,49]⟩:my) 1 1 AH AH (W64 (3+(AB d 10).1)),A5.mk (⟨#[101,49]⟩:my) 1 3 AH AH (W64 (2+(AB (AB d 10).2 8).1))]++[A5.mk (⟨#[119,49]⟩:my) 1 2 AH AH (W64 (6+(AB (Z4h d) 5).1)),A5.mk (⟨#[114,49]⟩:my) 1 4 AH AH (W64 (2+(AB (AB (Z4h d) 5).2 4).1))])else [A5.mk (⟨#[99,49]⟩:my) 1 1 AH AH (W64 (3+(AB d 10).1)),A5.mk (⟨#[101,49]⟩:my) 1 3 AH AH (W64 (2+(AB (AB d 10).2 8).1))]
def Z4q:CT:=(42,HA.map (CH 1000 1001),wrI 1001 (.cells (AF.c (Z4o d)) 117) (tI (AB (Z4o d) 2).1) (.cells (AF.c (AB (Z4o d) 2).2) 117))
def Z4r(b:AC)(d:AF):Blk:=.cells (Bj b (DR b [vN,.own 2000 20 (Z4p d).length,vN,vN])) 41
def Z4s:Blk:=.cells (AF.c (AB (Z4o d) 2).2) 117
def Z4t:Blk:=.row 20 (Z4p d).length (AL A5.c (Z4p d)) 147
abbrev In:=AB (AB (Z4o d) 2).2 2
def Z4u:CT:=(42,HA.map (CH 1000 1001),wrI 1001 (.cells (AF.c (AB (Z4o d) 2).2) 117) (tI (In d).1) (.cells (AF.c (In d).2) 117))
def Z4v:CT:=(100,([.one (.ptr 1000 0)]:List Av).map (CH 1000 1001),wrI 1001 (.cells (AF.c (In d).2) 117) (.av (.agg (Bu.c (Ba (In d).2).1))) (.cells (AF.c (Ba (In d).2).2) 117))
abbrev Z4w:AF:=(Ba (AB (AB (Z4o d) 2).2 2).2).2
def Z4x:Bu:=(Ba (AB (AB (Z4o d) 2).2 2).2).1
def Z4y:CT:=(100,([.one (.ptr 1000 0)]:List Av).map (CH 1000 1001),wrI 1001 (.cells (AF.c (Z4w d)) 117) (.av (.agg (Bu.c (Ba (Z4w d)).1))) (.cells (AF.c (Ba (Z4w d)).2) 117))
abbrev NS:=AB (Ba (Z4w d)).2 14
def Z4z:CT:=(42,([.one (.ptr 1000 0),.one (.i 14)]:List Av).map (CH 1000 1001),wrI 1001 (.cells (AF.c (Ba (Z4w d)).2) 117) (tI (NS d).1) (.cells (AF.c (NS d).2) 117))
abbrev Z4A:AF:=(AB (Ba (Z4w d)).2 14).2
abbrev Z4D:AF:=bif decide (((AB (Z4o d) 2).1:Int)=1)then(Z4A d)else(AB (Z4o d) 2).2
def Z4E:(List A5):=bif decide (((AB (Z4o d) 2).1:Int)=1)then((Z4p d)++[A5.mk (⟨#[99,50]⟩:my) (W64 (1+(AB (AB (Z4o d) 2).2 2).1)) 1 (Z4x d) (Ba (Z4w d)).1 (W64 (1+(AB (Ba (Z4w d)).2 14).1))])else(Z4p d)
def Z4F:CT:=(42,(GU:List Av).map (CH 1000 1001),wrI 1001 (.cells (AF.c (Z4D d)) 117) (tI (AB (Z4D d) 3).1) (.cells (AF.c (AB (Z4D d) 3).2) 117))
def Z4G(b:AC)(d:AF):Blk:=.cells (Bj b (DR b [vN,.own 2001 20 (Z4E d).length,vN,vN])) 41
def Z4H:Blk:=.cells (AF.c (AB (Z4D d) 3).2) 117
def Z4I:Blk:=.row 20 (Z4E d).length (AL A5.c (Z4E d)) 147
def Z4J:(List BG):=bif decide (((AB (Z4D d) 3).1:Int)=0)then [BG.mk (⟨#[112,111,119,101,114]⟩:my) [(⟨#[71,78,68]⟩:my)]]else []
def Z4K:CT:=(42,Jb.map (CH 1000 1001),wrI 1001 (.cells (AF.c (AB (Z4D d) 3).2) 117) (tI (AB (AB (Z4D d) 3).2 4).1) (.cells (AF.c (AB (AB (Z4D d) 3).2 4).2) 117))
abbrev Z4L:AF:=(AB (AB (Z4D d) 3).2 4).2
abbrev Vc(t_:List Cl):List Cl:=(lst 2 BG.c (Z4J d))::(.own 2001 20 (Z4E d).length)::t_
def Z4M(b:AC)(d:AF):Blk:=.cells ((Bj b (DR b (Vc d [vN,vN])))) 41
def Z4N:(List Int):=F8 (AC.mk b.Layers (AQ.mk 0 [] 0) b.Parts [] b.Tracks b.Vias b.Pours b.Keeps b.Slots [] [] [] [])
abbrev NW:=(AB (Z4L d) ((Z4N b).length:Int))
def Z4O(b:AC)(d:AF):CT:=(42,([.one (.ptr 1000 0),.one (.i ((Z4N b).length:Int))]:List Av).map (CH 1000 1001),wrI 1001 (.cells (AF.c (Z4L d)) 117) (tI (NW d b).1) (.cells (AF.c (NW d b).2) 117))
abbrev Z4P:AF:=(AB (Z4L d) ((Z4N b).length:Int)).2
abbrev NX:=(AB (Z4P d b) ((Z4N b).length:Int))
def Z4Q(b:AC)(d:AF):CT:=(42,([.one (.ptr 1000 0),.one (.i ((Z4N b).length:Int))]:List Av).map (CH 1000 1001),wrI 1001 (.cells (AF.c (Z4P d b)) 117) (tI (NX d b).1) (.cells (AF.c (NX d b).2) 117))
abbrev Z4R:AF:=(AB (Z4P d b) ((Z4N b).length:Int)).2
abbrev Z4S:AF:=bif decide (((AB (AB (Z4D d) 3).2 4).1:Int)=0)then(Z4R d b)else(Z4L d)
def Z4T:(List As):=bif decide (((AB (AB (Z4D d) 3).2 4).1:Int)=0)then [As.mk ((Z4N b).getD (AB (Z4L d) ((Z4N b).length:Int)).1.toNat default) ((Z4N b).getD (AB (Z4P d b) ((Z4N b).length:Int)).1.toNat default) (⟨#[99,49]⟩:my)]else []
def Z4U:CT:=(42,Jb.map (CH 1000 1001),wrI 1001 (.cells (AF.c (Z4S d b)) 117) (tI (AB (Z4S d b) 4).1) (.cells (AF.c (AB (Z4S d b) 4).2) 117))
abbrev Lf:=AB (AB (Z4S d b) 4).2 8
def Z4V:CT:=(42,([.one (.ptr 1000 0),.one (.i 8)]:List Av).map (CH 1000 1001),wrI 1001 (.cells (AF.c (AB (Z4S d b) 4).2) 117) (tI (Lf d b).1) (.cells (AF.c (Lf d b).2) 117))
abbrev Z4W:AF:=(AB (AB (Z4S d b) 4).2 8).2
def DW(b:AC)(d:AF):(AC×AF):=bif decide (((AB (Z4S d b) 4).1:Int)=0)then(AC.mk b.Layers b.Outline b.Parts b.Nets b.Tracks b.Vias b.Pours b.Keeps b.Slots (Z4J d) (Z4E d) (Z4T d b) [BI.mk (⟨#[109,49]⟩:my) [(⟨#[78,49]⟩:my),(⟨#[78,50]⟩:my)] (W64 (10*(AB (AB (Z4S d b) 4).2 8).1))],Z4W d b)else(AC.mk b.Layers b.Outline b.Parts b.Nets b.Tracks b.Vias b.Pours b.Keeps b.Slots (Z4J d) (Z4E d) (Z4T d b) [],(AB (Z4S d b) 4).2)
abbrev Gl:List (Nat×Tv):=[(0,tP 1000 0),(1,tP 1001 0)]
abbrev mV:=AC.mk b.Layers UM b.Parts [] b.Tracks b.Vias b.Pours b.Keeps b.Slots [] [] [] []
abbrev Vd(t_:List Cl):List Cl:=(lst 2 BG.c (Z4J d))::(lst 20 A5.c (Z4E d))::(lst 3 As.c (Z4T d b))::t_
theorem au10{p:Prop}(h:p:=by repeat (first|with_reducible assumption|exact DV (EP hll _)|with_reducible refine Bm ?_|with_reducible refine F6 ?_|with_reducible refine Eh ?_|with_reducible refine lJ ?_  | with_reducible refine Dh ?_ ?_)):p:=h
theorem au13{p:Prop}(h:p:=by first|decide|omega|exact jc (b:=AC.mk b.Layers (AQ.mk 0 [] 0) b.Parts [] b.Tracks b.Vias b.Pours b.Keeps b.Slots [] [] [] []) hi|(simp only[Bz];omega)):p:=h
theorem au32{p:Prop}(h:p:=by first|(simp only[d9,j8,j9];decide)|exact ar (by simp only[d9,j8,j9];decide) (by simp only[d9,j8,j9];decide)|exact tQ (by simp only[d9,j8,j9];decide) (by simp only[d9,j8,j9];decide)|(unfold maxLen;omega)|(simp only[kG,kF,kE,Wu];omega)):p:=h
set_option maxHeartbeats 2000000 in
theorem rE (b:AC)(d:AF)(hd:DK d)(h0:(b.Parts.length:Int)<=1000000)(h1:(b.Tracks.length:Int)<=1000000)(h2:(b.Vias.length:Int)<=1000000)(h3:(b.Pours.length:Int)<=1000000)(h4:(b.Keeps.length:Int)<=1000000)(h5:(b.Slots.length:Int)<=1000000)(hi:1<=(b.Parts.length:Int)):Wr2 Tryz.prog 45 1000 1001 [.one (.ptr 1000 0),.one (.ptr 1001 0)] (.cells [.i b.Layers,.i b.Outline.Kind,lst 7 AK.c b.Outline.Edges,.i b.Outline.R,lst 7 AD.c b.Parts,lst 2 A7.c b.Nets,lst 6 AM.c b.Tracks,lst 8 Ak.c b.Vias,lst 8 A8.c b.Pours,lst 5 BA.c b.Keeps,lst 4 AX.c b.Slots,vN,vN,vN,vN] 41) (.cells (AF.c d) 117) (.tup []) (.cells (AC.c (DW b d).1) 41) (.cells (AF.c (DW b d).2) 117):=by
 refine SU Tryz.func45 rfl kr kr kr rfl kr kr kr fun W0 M0 X hX=>?_;refine AA ?_;refine DE C8 [18] [] [(6,Dp),(7,Dp),(9,(Z4b d)),(12,Dp),(13,Dp),(15,(Z4c d))] [0,1] [18,1000,1001] [Cp Dp.2.1,Cp Dp.2.1,Cp (Z4b d).2.1,CQ (Jg d),Cp Dp.2.1,Cp Dp.2.1,Cp (Z4c d).2.1,CQ (.cells (AF.c (AB d 10).2) 117)] ⟨Gl,[(18,.row 20 2 (A9 20 2 [.s (⟨#[99,49]⟩:my),.i 1,.i 1,.i AH.Op,.s AH.Text,.i AH.N,.i AH.Box.X0,.i AH.Box.Y0,.i AH.Box.X1,.i AH.Box.Y1,opL AH.L,.i AH.Op,.s AH.Text,.i AH.N,.i AH.Box.X0,.i AH.Box.Y0,.i AH.Box.X1,.i AH.Box.Y1,opL AH.L,.i (W64 (3+(AB d 10).1)),.s (⟨#[101,49]⟩:my),.i 1,.i 3,.i AH.Op,.s AH.Text,.i AH.N,.i AH.Box.X0,.i AH.Box.Y0,.i AH.Box.X1,.i AH.Box.Y1,opL AH.L,.i AH.Op,.s AH.Text,.i AH.N,.i AH.Box.X0,.i AH.Box.Y0,.i AH.Box.X1,.i AH.Box.Y1,opL AH.L,.i (W64 (2+(DS d).1))]) 147),(1000,.cells (Bj b (DR b [vN,.own 18 20 2,vN,vN])) 41),(1001,.cells (AF.c (DS d).2) 117)]⟩ (.cons FY (.cons FY (.cons (cWr (Bp d 10 au10 au13)) (.cons FY (.cons FY (.cons (cWr (Bp (AB d 10).2 8 au10 au13)) .nil)))))) kr (.cons rfl (.cons rfl (.cons rfl (.cons rfl (.cons rfl (.cons rfl (.cons rfl (.cons rfl .nil))))))))<|AE ?_
 refine AZ (Ag 18 (Ai 20 A5.c ([A5.mk (⟨#[99,49]⟩:my) 1 1 AH AH (W64 (3+(AB d 10).1)),A5.mk (⟨#[101,49]⟩:my) 1 3 AH AH (W64 (2+(DS d).1))]:List A5)))<|AA<|AA<|rb 22 (Z4g d) (.cells (AF.c (DS d).2) 117) ⟨[(0,tP 1000 0),(1,tP 1001 0),(23,tB (decide (((AB (DS d).2 2).1:Int)=1)))],[(18,Z4e d),(1000,Z4f b d),(1001,.cells (AF.c (Z4h d)) 117)]⟩ (cWr (Bp (DS d).2 2 au10 au13))<|AE<|B4 (⟨Gl,[(1000,.cells (Bj b (DR b [vN,.own 2000 20 (Z4p d).length,vN,vN])) 41),(1001,.cells (AF.c (Z4o d)) 117),(2000,.row 20 (Z4p d).length (AL A5.c (Z4p d)) 147)]⟩) ?_ ?_
 ·refine BC _ rfl (fun h1=>?_) (fun h1=>?_)
  ·have g1:=oT h1
   refine dO [] [(29,Dp),(30,Dp),(32,(Z4i d)),(35,Dp),(36,Dp),(38,(Z4j d))] [none,none,none,CQ (.cells (AF.c (Z4h d)) 117),none,none,none,CQ (.cells (AF.c (AB (Z4h d) 5).2) 117),[A5.mk (⟨#[99,49]⟩:my) 1 1 AH AH (W64 (3+(AB d 10).1)),A5.mk (⟨#[101,49]⟩:my) 1 3 AH AH (W64 (2+(DS d).1))].length=[A5.mk (⟨#[99,49]⟩:my) 1 1 AH AH (W64 (3+(AB d 10).1)),A5.mk (⟨#[101,49]⟩:my) 1 3 AH AH (W64 (2+(DS d).1))].length,([A5.mk (⟨#[99,49]⟩:my) 1 1 AH AH (W64 (3+(AB d 10).1)),A5.mk (⟨#[101,49]⟩:my) 1 3 AH AH (W64 (2+(DS d).1))].length)+2<=maxLen,(([A5.mk (⟨#[99,49]⟩:my) 1 1 AH AH (W64 (3+(AB d 10).1)),A5.mk (⟨#[101,49]⟩:my) 1 3 AH AH (W64 (2+(DS d).1))].length)+2)*216<=140737488355328] ⟨Gl,[(42,.row 20 (([A5.mk (⟨#[99,49]⟩:my) 1 1 AH AH (W64 (3+(AB d 10).1)),A5.mk (⟨#[101,49]⟩:my) 1 3 AH AH (W64 (2+(DS d).1))].length)+2) (fun i_ j_=>if i_<([A5.mk (⟨#[99,49]⟩:my) 1 1 AH AH (W64 (3+(AB d 10).1)),A5.mk (⟨#[101,49]⟩:my) 1 3 AH AH (W64 (2+(DS d).1))].length)then(AL A5.c [A5.mk (⟨#[99,49]⟩:my) 1 1 AH AH (W64 (3+(AB d 10).1)),A5.mk (⟨#[101,49]⟩:my) 1 3 AH AH (W64 (2+(DS d).1))]) i_ j_ else(A9 20 2 [.s (⟨#[119,49]⟩:my),.i 1,.i 2,.i AH.Op,.s AH.Text,.i AH.N,.i AH.Box.X0,.i AH.Box.Y0,.i AH.Box.X1,.i AH.Box.Y1,opL AH.L,.i AH.Op,.s AH.Text,.i AH.N,.i AH.Box.X0,.i AH.Box.Y0,.i AH.Box.X1,.i AH.Box.Y1,opL AH.L,.i (W64 (6+(AB (Z4h d) 5).1)),.s (⟨#[114,49]⟩:my),.i 1,.i 4,.i AH.Op,.s AH.Text,.i AH.N,.i AH.Box.X0,.i AH.Box.Y0,.i AH.Box.X1,.i AH.Box.Y1,opL AH.L,.i AH.Op,.s AH.Text,.i AH.N,.i AH.Box.X0,.i AH.Box.Y0,.i AH.Box.X1,.i AH.Box.Y1,opL AH.L,.i (W64 (2+(Lg d).1))]) (i_-([A5.mk (⟨#[99,49]⟩:my) 1 1 AH AH (W64 (3+(AB d 10).1)),A5.mk (⟨#[101,49]⟩:my) 1 3 AH AH (W64 (2+(DS d).1))].length)) j_) 147),(1000,.cells (Bj b (DR b [vN,.own 42 20 (([A5.mk (⟨#[99,49]⟩:my) 1 1 AH AH (W64 (3+(AB d 10).1)),A5.mk (⟨#[101,49]⟩:my) 1 3 AH AH (W64 (2+(DS d).1))].length)+2),vN,vN])) 41),(1001,Z4k d)]⟩ (.cons FY (.cons FY (.cons (cWr (Bp (Z4h d) 5 au10 au13)) (.cons FY (.cons FY (.cons (cWr (Bp (AB (Z4h d) 5).2 4 au10 au13)) .nil)))))) (H5 rfl rfl rfl au32 au32)<|AE ?_
   refine Cv.trans (Ag 42 (Ac (AU 20 A5.c [A5.mk (⟨#[99,49]⟩:my) 1 1 AH AH (W64 (3+(AB d 10).1)),A5.mk (⟨#[101,49]⟩:my) 1 3 AH AH (W64 (2+(DS d).1))]) (Ai 20 A5.c ([A5.mk (⟨#[119,49]⟩:my) 1 2 AH AH (W64 (6+(AB (Z4h d) 5).1)),A5.mk (⟨#[114,49]⟩:my) 1 4 AH AH (W64 (2+(Lg d).1))]:List A5)))) (Cv.trans (vr 42 2000 (K:=[1000,1001]) hX) (Cv.trans (ck (⟨Gl,[(1000,Z4m b d),(1001,Z4k d),(2000,Z4l d)]⟩)) (Az ?_)))
   first|rfl|(simp only[h1,Z4o,Z4p,mi,mj]<;>rfl)
  refine AP<|AE<|Cv.trans (vk [0,1] [18,1000,1001]) (Cv.trans (vr 18 2000 (K:=[1000,1001]) hX) (Cv.trans (ck (⟨Gl,[(1000,Z4n b d),(1001,.cells (AF.c (Z4h d)) 117),(2000,Z4e d)]⟩)) (Az ?_)))
  first|rfl|(simp only[h1,Z4o,Z4p,mi,mj]<;>rfl)
 refine AA<|AA<|rb 46 (Z4q d) (.cells (AF.c (Z4o d)) 117) ⟨[(0,tP 1000 0),(1,tP 1001 0),(47,tB (decide (((AB (Z4o d) 2).1:Int)=1)))],[(1000,Z4r b d),(1001,Z4s d),(2000,Z4t d)]⟩ (cWr (Bp (Z4o d) 2 au10 au13))<|AE<|B4 (⟨Gl,[(1000,.cells (Bj b (DR b [vN,.own 2001 20 (Z4E d).length,vN,vN])) 41),(1001,.cells (AF.c (Z4D d)) 117),(2001,.row 20 (Z4E d).length (AL A5.c (Z4E d)) 147)]⟩) ?_ ?_
 ·refine BC _ rfl (fun h1=>?_) (fun h1=>?_)
  ·have g1:=oT h1;refine dO [] [(54,(Z4u d)),(57,(Z4v d)),(59,(Z4y d)),(61,(Z4z d))] [none,CQ (.cells (AF.c (AB (Z4o d) 2).2) 117),none,CQ (.cells (AF.c (In d).2) 117),none,CQ (.cells (AF.c (Z4w d)) 117),none,CQ (.cells (AF.c (Ba (Z4w d)).2) 117),(Z4p d).length=(Z4p d).length,(Z4p d).length+1<=maxLen,((Z4p d).length+1)*216<=140737488355328] ⟨Gl,[(65,.row 20 ((Z4p d).length+1) (fun i_ j_=>if i_<(Z4p d).length then(AL A5.c (Z4p d)) i_ j_ else(A9 20 1 [.s (⟨#[99,50]⟩:my),.i (W64 (1+(In d).1)),.i 1,.i (Z4x d).Op,.s (Z4x d).Text,.i (Z4x d).N,.i (Z4x d).Box.X0,.i (Z4x d).Box.Y0,.i (Z4x d).Box.X1,.i (Z4x d).Box.Y1,opL (Z4x d).L,.i (Ba (Z4w d)).1.Op,.s (Ba (Z4w d)).1.Text,.i (Ba (Z4w d)).1.N,.i (Ba (Z4w d)).1.Box.X0,.i (Ba (Z4w d)).1.Box.Y0,.i (Ba (Z4w d)).1.Box.X1,.i (Ba (Z4w d)).1.Box.Y1,opL (Ba (Z4w d)).1.L,.i (W64 (1+(NS d).1))]) (i_-(Z4p d).length) j_) 147),(1000,.cells (Bj b (DR b [vN,.own 65 20 ((Z4p d).length+1),vN,vN])) 41),(1001,.cells (AF.c (Z4A d)) 117)]⟩ (.cons (cWr (Bp (AB (Z4o d) 2).2 2 au10 au13)) (.cons (cWr (fQ (In d).2 au10)) (.cons (cWr (fQ (Z4w d) au10)) (.cons (cWr (Bp (Ba (Z4w d)).2 14 au10 au13)) .nil)))) (H7 rfl rfl rfl rfl rfl au32 au32)<|AE ?_
   refine Cv.trans (Ag 65 (Ac (AU 20 A5.c (Z4p d)) (Ai 20 A5.c ([A5.mk (⟨#[99,50]⟩:my) (W64 (1+(AB (AB (Z4o d) 2).2 2).1)) 1 (Z4x d) (Ba (Z4w d)).1 (W64 (1+(NS d).1))]:List A5)))) (Cv.trans (vr 65 2001 (K:=[1000,1001]) hX) (Cv.trans (ck (⟨Gl,[(1000,.cells (Bj b (DR b [vN,.own 2001 20 ((Z4p d)++[A5.mk (⟨#[99,50]⟩:my) (W64 (1+(In d).1)) 1 (Z4x d) (Ba (Z4w d)).1 (W64 (1+(NS d).1))]).length,vN,vN])) 41),(1001,.cells (AF.c (Z4A d)) 117),(2001,.row 20 ((Z4p d)++[A5.mk (⟨#[99,50]⟩:my) (W64 (1+(In d).1)) 1 (Z4x d) (Ba (Z4w d)).1 (W64 (1+(NS d).1))]).length (AL A5.c ((Z4p d)++[A5.mk (⟨#[99,50]⟩:my) (W64 (1+(In d).1)) 1 (Z4x d) (Ba (Z4w d)).1 (W64 (1+(NS d).1))])) 147)]⟩)) (Az ?_)))
   first|rfl|(simp only[h1,Z4D,Z4E,mi,mj]<;>rfl)
  refine AP<|AE<|Cv.trans (vk [0,1] [1000,1001,2000]) (Cv.trans (wr (⟨Gl,[(1000,.cells (Bj b (DR b [vN,.own 2001 20 (Z4p d).length,vN,vN])) 41),(1001,Z4s d),(2001,Z4t d)]⟩) 2000 2001 (K:=[1000,1001]) hX) (Az ?_))
  first|rfl|(simp only[h1,Z4D,Z4E,mi,mj]<;>rfl)
 refine AA<|AA<|rb 69 (Z4F d) (.cells (AF.c (Z4D d)) 117) ⟨[(0,tP 1000 0),(1,tP 1001 0),(70,tB (decide (((AB (Z4D d) 3).1:Int)=0)))],[(1000,Z4G b d),(1001,Z4H d),(2001,Z4I d)]⟩ (cWr (Bp (Z4D d) 3 au10 au13))<|AE<|B4 (⟨Gl,[(1000,.cells (Bj b (DR b [lst 2 BG.c (Z4J d),.own 2001 20 (Z4E d).length,vN,vN])) 41),(1001,.cells (AF.c (AB (Z4D d) 3).2) 117),(2001,.row 20 (Z4E d).length (AL A5.c (Z4E d)) 147)]⟩) ?_ ?_
 ·refine BC _ rfl (fun h1=>?_) (fun h1=>?_)
  ·refine rn ⟨Gl,[(1000,.cells (Bj b (DR b [.list true 2 1 (A9 2 1 [.s (⟨#[112,111,119,101,114]⟩:my),.list true 1 1 (A9 1 1 [.s (⟨#[71,78,68]⟩:my)])]),.own 2001 20 (Z4E d).length,vN,vN])) 41),(1001,Z4H d),(2001,Z4I d)]⟩<|Cv.trans (DD (⟨Gl,[(1000,.cells (Bj b (DR b [lst 2 BG.c [BG.mk (⟨#[112,111,119,101,114]⟩:my) [(⟨#[71,78,68]⟩:my)]],.own 2001 20 (Z4E d).length,vN,vN])) 41),(1001,Z4H d),(2001,Z4I d)]⟩) lr (.cons ⟨rfl,.cells _ (rr9 (rr2 (.cons (BO true (Dn (c:=BG.c) (xs:=([BG.mk (⟨#[112,111,119,101,114]⟩:my) [(⟨#[71,78,68]⟩:my)]]:List BG)) (y:=[[.s (⟨#[112,111,119,101,114]⟩:my),.list true 1 1 (A9 1 1 [.s (⟨#[71,78,68]⟩:my)])]]) (z:=[[.s (⟨#[112,111,119,101,114]⟩:my),lst 1 (fun x=>[.s x]) [(⟨#[71,78,68]⟩:my)]]]) rfl kr kr (.cons (rr (.cons (BO true (BN (c:=(fun x=>[.s x])) (xs:=([(⟨#[71,78,68]⟩:my)]:List my)) rfl kr)) .nil)) .nil))) (rr (rr (rr .nil))))))⟩ lr)) (Az ?_)
   first|rfl|(simp only[h1,Z4J,mi,mj]<;>rfl)
  refine AP<|AE<|Cv.trans (ck (⟨Gl,[(1000,Z4G b d),(1001,Z4H d),(2001,Z4I d)]⟩)) (Cv.trans (DD (⟨Gl,[(1000,.cells (Bj b (DR b [lst 2 BG.c [],.own 2001 20 (Z4E d).length,vN,vN])) 41),(1001,Z4H d),(2001,Z4I d)]⟩) lr (.cons ⟨rfl,.cells _ (rr9 (rr2 (.cons (Ca 2 BG.c) (rr (rr (rr .nil))))))⟩ lr)) (Az ?_))
  first|rfl|(simp only[h1,Z4J,mi,mj]<;>rfl)
 refine AA<|AA<|rb 78 (Z4K d) (.cells (AF.c (AB (Z4D d) 3).2) 117) ⟨[(0,tP 1000 0),(1,tP 1001 0),(79,tB (decide (((AB (AB (Z4D d) 3).2 4).1:Int)=0)))],[(1000,Z4M b d),(1001,.cells (AF.c (Z4L d)) 117),(2001,Z4I d)]⟩ (cWr (Bp (AB (Z4D d) 3).2 4 au10 au13))<|AE<|B4 (⟨Gl,[(1000,.cells (Bj b (DR b [lst 2 BG.c (Z4J d),.own 2001 20 (Z4E d).length,lst 3 As.c (Z4T d b),vN])) 41),(1001,.cells (AF.c (Z4S d b)) 117),(2001,.row 20 (Z4E d).length (AL A5.c (Z4E d)) 147)]⟩) ?_ ?_
 ·refine BC _ rfl (fun h1=>?_) (fun h1=>?_)
  ·have g1:=oT h1;refine AA<|oq 83 (ceI [.agg ((Bj b (DR b (Vc d [vN,vN]))))] (dT (mV b))) (Cq (zR (mV b) au15 au15 au15 au15 au15 au15) (.cons (.agg (rr (rA (rA (rA (rr (rA (rr5 (rA (rA (rA (rA .nil)))))))))))) .nil))<|AE ?_;refine dO [] [(89,(Z4O b d)),(96,(Z4Q b d))] [none,CQ (.cells (AF.c (Z4L d)) 117),0<=((NW d b).1:Int)/\((NW d b).1:Int)<((Z4N b).length:Int),none,CQ (.cells (AF.c (Z4P d b)) 117),0<=((NX d b).1:Int)/\((NX d b).1:Int)<((Z4N b).length:Int)] ⟨Gl,[(1000,.cells (Bj b (DR b (Vc d [.list true 3 1 (A9 3 1 [.i ((Z4N b).getD (NW d b).1.toNat default),.i ((Z4N b).getD (NX d b).1.toNat default),.s (⟨#[99,49]⟩:my)]),vN]))) 41),(1001,.cells (AF.c (Z4R d b)) 117),(2001,Z4I d)]⟩ (.cons (cWr (Bp (Z4L d) ((Z4N b).length:Int) au10 au13)) (.cons (cWr (Bp (Z4P d b) ((Z4N b).length:Int) au10 au13)) .nil)) (H4 rfl (by first|exact Me _ _ _ m4 m4 m4|exact Yz (b:=AC.mk b.Layers UM b.Parts [] b.Tracks b.Vias b.Pours b.Keeps b.Slots [] [] [] []) _ hi (by assumption) (by assumption) (by assumption) (by assumption) (by assumption) (by assumption)|decide|omega) rfl (by first|exact Me _ _ _ m4 m4 m4|exact Yz (b:=AC.mk b.Layers UM b.Parts [] b.Tracks b.Vias b.Pours b.Keeps b.Slots [] [] [] []) _ hi (by assumption) (by assumption) (by assumption) (by assumption) (by assumption) (by assumption)|decide|omega))<|AE ?_
   refine Cv.trans (DD (⟨Gl,[(1000,.cells (Bj b (DR b [lst 2 BG.c (Z4J d),.own 2001 20 (Z4E d).length,lst 3 As.c [As.mk ((Z4N b).getD (NW d b).1.toNat default) ((Z4N b).getD (NX d b).1.toNat default) (⟨#[99,49]⟩:my)],vN])) 41),(1001,.cells (AF.c (Z4R d b)) 117),(2001,Z4I d)]⟩) lr (.cons ⟨rfl,.cells _ (rr9 (rr4 (.cons (BO true (BN (c:=As.c) (xs:=([As.mk ((Z4N b).getD (NW d b).1.toNat default) ((Z4N b).getD (NX d b).1.toNat default) (⟨#[99,49]⟩:my)]:List As)) rfl kr)) (rr .nil))))⟩ lr)) (Az ?_)
   first|rfl|(simp only[h1,Z4S,Z4T,mi,mj]<;>rfl)
  refine AP<|AE<|Cv.trans (ck (⟨Gl,[(1000,Z4M b d),(1001,.cells (AF.c (Z4L d)) 117),(2001,Z4I d)]⟩)) (Cv.trans (DD (⟨Gl,[(1000,.cells (Bj b (DR b [lst 2 BG.c (Z4J d),.own 2001 20 (Z4E d).length,lst 3 As.c [],vN])) 41),(1001,.cells (AF.c (Z4L d)) 117),(2001,Z4I d)]⟩) lr (.cons ⟨rfl,.cells _ (rr9 (rr4 (.cons (Ca 3 As.c) (rr .nil))))⟩ lr)) (Az ?_))
  first|rfl|(simp only[h1,Z4S,Z4T,mi,mj]<;>rfl)
 refine AA<|rb 104 (Z4U d b) (.cells (AF.c (Z4S d b)) 117) ⟨[(0,tP 1000 0),(1,tP 1001 0),(105,tB (decide (((AB (Z4S d b) 4).1:Int)=0)))],[(1000,.cells (Bj b (DR b (Vc d [lst 3 As.c (Z4T d b),vN]))) 41),(1001,.cells (AF.c (AB (Z4S d b) 4).2) 117),(2001,Z4I d)]⟩ (cWr (Bp (Z4S d b) 4 au10 au13))<|AE<|BC _ rfl (fun h1=>?_) (fun h1=>?_)
 ·have g1:=oT h1;refine rb 109 (Z4V d b) (.cells (AF.c (AB (Z4S d b) 4).2) 117) ⟨[],[(1000,.cells (Bj b (DR b (Vc d [lst 3 As.c (Z4T d b),.list true 3 1 (A9 3 1 [.s (⟨#[109,49]⟩:my),.list true 1 2 (A9 1 2 [.s (⟨#[78,49]⟩:my),.s (⟨#[78,50]⟩:my)]),.i (W64 (10*(Lf d b).1))])]))) 41),(1001,.cells (AF.c (Z4W d b)) 117),(2001,Z4I d)]⟩ (cWr (Bp (AB (Z4S d b) 4).2 8 au10 au13)) ?_;exact yn (vf 2001 (K:=[1000,1001]) hX) (.tup []) ⟨F5 rfl,⟨.cells (Bj b (DR b (Vd d b [.list true 3 1 (A9 3 1 [.s (⟨#[109,49]⟩:my),.list true 1 2 (A9 1 2 [.s (⟨#[78,49]⟩:my),.s (⟨#[78,50]⟩:my)]),.i (W64 (10*(Lf d b).1))])]))) 41,by kernel_rfl,XS (y:=.cells (Bj b (DR b (Vd d b [lst 3 BI.c [BI.mk (⟨#[109,49]⟩:my) [(⟨#[78,49]⟩:my),(⟨#[78,50]⟩:my)] (W64 (10*(Lf d b).1))]]))) 41) (.cells _ (rr9 (rr5 (.cons (BO true (Dn (c:=BI.c) (xs:=([BI.mk (⟨#[109,49]⟩:my) [(⟨#[78,49]⟩:my),(⟨#[78,50]⟩:my)] (W64 (10*(Lf d b).1))]:List BI)) (y:=[[.s (⟨#[109,49]⟩:my),.list true 1 2 (A9 1 2 [.s (⟨#[78,49]⟩:my),.s (⟨#[78,50]⟩:my)]),.i (W64 (10*(Lf d b).1))]]) (z:=[[.s (⟨#[109,49]⟩:my),lst 1 (fun x=>[.s x]) [(⟨#[78,49]⟩:my),(⟨#[78,50]⟩:my)],.i (W64 (10*(Lf d b).1))]]) rfl kr kr (.cons (rr (.cons (BO true (BN (c:=(fun x=>[.s x])) (xs:=([(⟨#[78,49]⟩:my),(⟨#[78,50]⟩:my)]:List my)) rfl kr)) (rr .nil))) .nil))) .nil)))) (by first|(simp only[DW,h1,mi,mj];done)|(simp only[DW,h1,mi,mj];kernel_rfl))⟩,.cells (AF.c (Z4W d b)) 117,by kernel_rfl,Ea (by first|(simp only[DW,h1,mi,mj];done)|(simp only[DW,h1,mi,mj];kernel_rfl))⟩
 have g1:=oF h1;exact AP<|yn (vf 2001 (K:=[1000,1001]) hX) (.tup []) ⟨F5 rfl,⟨.cells (Bj b (DR b (Vd d b [vN]))) 41,by kernel_rfl,XS (y:=.cells (Bj b (DR b (Vd d b [lst 3 BI.c []]))) 41) (.cells _ (rr9 (rr5 (.cons (Ca 3 BI.c) .nil)))) (by first|(simp only[DW,h1,mi,mj];done)|(simp only[DW,h1,mi,mj];kernel_rfl))⟩,.cells (AF.c (AB (Z4S d b) 4).2) 117,by kernel_rfl,Ea (by first|(simp only[DW,h1,mi,mj];done)|(simp only[DW,h1,mi,mj];kernel_rfl))⟩
end
section
open Go.RowKit
theorem TA{v a:Int}{d:AF}{n:Int}(h:v<W64 (a+(AB d n).1))(h0:0<n)(h1:n<=1000000)(ha:0<=a)(hb:a<=1000000):v<a+n-1:=by
 have:=D5 d n h0 mz;rw[Ae mz mz]at h;omega
theorem KG{p q:Prop}[Decidable p][Decidable q]{r:Bool}(h:(bif bif decide p then decide q else false then r else(bif bif decide p then decide q else false then false else false))=true):q:=by
 by_cases hp:p
 ·rw[lj hp]at h
  by_cases hq:q
  ·exact hq
  rw[lk hq]at h;cases h
 rw[lk hp]at h;cases h
theorem gI{n:Nat}(h:(0:Int)<(n:Int)):0<n:=by omega
theorem Uw{c2 c1:Bool}{a b c:BU}{L:List BU}(hL:L=bif c2 then [a,b]else bif c1 then [c]else []):L.length<=2:=by
 subst hL;cases c2<;>cases c1<;>simp
theorem gW{c2 c1:Bool}{a b c:BU}{L:List BU}{k:Int}(hk:0<=k/\k<2)(ha:a.Legs.length=2)(hc:c.Legs.length=2)(hL:L=bif c2 then [a,b]else bif c1 then [c]else [])(h:(0:Int)<(L.length:Int)):0<=k/\k<((L.getD 0 default).Legs.length:Int):=by
 subst hL;cases c2 with
 |true=>show 0<=k/\k<(a.Legs.length:Int);rw[ha];exact hk
 |false =>
  cases c1 with
  |true=>show 0<=k/\k<(c.Legs.length:Int);rw[hc];exact hk
  |false=>exact absurd h m3
theorem uP{α:Type}{L:List α}(h:L.length<=2):L.length+1<=maxLen:=by unfold maxLen;omega
theorem uQ{α:Type}{L:List α}(h:L.length<=2):(L.length+1)*32<=140737488355328:=by omega
def Z4X:Blk:=.cells Rk 82
variable (l:List Int)(r:Al)(name:my)(ni:List Bc)(v8:Int)(x0:AG)(nd:Int)(v5:AF)(x1:AG)
abbrev Fx:=AB (AF.mk l 0) 5
def Z4Y:CT:=(42,NQ.map (CH 1000 14),wrI 14 (.cells [lst 1 eIn l,.i 0] 117) (tI (Fx l).1) (.cells (AF.c (Fx l).2) 117))
def Z4Z:Tv:=tI (W64 (2+(Fx l).1))
def Z50:Blk:=.cells (AF.c (Fx l).2) 117
abbrev HD:Bool:=(decide (((W64 (2+(Fx l).1)):Int)<4))
def Z51:Tv:=tB (HD l)
abbrev PP:Av:=.one (.ptr 14 0)
def Z52:Tv:=.grd ((HD l)=true) PP
abbrev HF:Bool:=(decide ((4:Int)<=(W64 (2+(Fx l).1))))
def Z54:Tv:=tB (HF l)
def Z55:Tv:=.grd ((HF l)=true) PP
def Z58:Blk:=.cells [.s name,.own 2000 7 ni.length,vN] 82
def Z59:Blk:=.row 7 ni.length (AL Bc.c ni) 102
abbrev PV:Blk:=.cells (AF.c (AB v5 2).2) 117
abbrev PK:Blk:=.cells (AF.c v5) 117
def Z5a:CT:=(42,HA.map (CH 1000 14),wrI 14 (PK v5) (tI (AB v5 2).1) (PV v5))
def Z5b:Blk:=.cells [.s (Ap v8),.i 0,vN,.i 0,.i (W64 (30*v8)),.i (W64 (10*(AB v5 2).1)),.i 0] 102
def Z5c:Blk:=.cells [.i (W64 (30*v8)),.i (W64 (10*(AB v5 2).1))] 66
abbrev Ez:=AB (AB v5 2).2 3
def Z5d:CT:=(42,(GU:List Av).map (CH 1000 14),wrI 14 (PV v5) (tI (Ez v5).1) (.cells (AF.c (Ez v5).2) 117))
def Z5e:Blk:=.cells (AF.c (Ez v5).2) 117
def Z5f:AQ:=I9 (Al.mk (W64 ((W64 (30*v8))-6)) (W64 ((W64 (10*(AB v5 2).1))-6)) (W64 ((W64 (30*v8))+6)) (W64 ((W64 (10*(AB v5 2).1))+6)))
def Z5g:CT:=(42,(GU:List Av).map (CH 1000 14),wrI 14 (.cells (AF.c (Ez v5).2) 117) (tI (AB (Ez v5).2 3).1) (.cells (AF.c (AB (Ez v5).2 3).2) 117))
abbrev Z5h:AF:=(AB (AB (AB v5 2).2 3).2 3).2
def Z5i:AQ:=IP (AG.mk (W64 (30*v8)) (W64 (10*(AB v5 2).1))) (W64 (4+(AB (AB (AB v5 2).2 3).2 3).1))
abbrev Z5j:AF:=bif decide (((AB (AB v5 2).2 3).1:Int)=0)then(AB (AB v5 2).2 3).2 else(bif decide (((AB (AB v5 2).2 3).1:Int)=1)then(Z5h v5)else(AB (AB v5 2).2 3).2)
def Z5k(v5:AF)(v8:Int):(List AK):=bif decide (((AB (AB v5 2).2 3).1:Int)=0)then(Z5f v8 v5).Edges else(bif decide (((AB (AB v5 2).2 3).1:Int)=1)then(Z5i v8 v5).Edges else [AK.mk 1 (AG.mk (W64 ((W64 (30*v8))-2)) (W64 (10*(AB v5 2).1))) (AG.mk (W64 ((W64 (30*v8))+2)) (W64 (10*(AB v5 2).1))) (AG.mk 0 0)])
def Z5l:CT:=(42,Jb.map (CH 1000 14),wrI 14 (.cells (AF.c (Z5j v5)) 117) (tI (AB (Z5j v5) 4).1) (.cells (AF.c (AB (Z5j v5) 4).2) 117))
def Z5m:CT:=(42,HA.map (CH 1000 14),wrI 14 (.cells (AF.c (AB (Z5j v5) 4).2) 117) (tI (AB (AB (Z5j v5) 4).2 2).1) (.cells (AF.c (AB (AB (Z5j v5) 4).2 2).2) 117))
abbrev Z5n:AF:=(AB (AB (Z5j v5) 4).2 2).2
def Z5o:CT:=(42,(GU:List Av).map (CH 1000 14),wrI 14 (PK v5) (tI (AB v5 3).1) (.cells (AF.c (AB v5 3).2) 117))
abbrev Z5p:AF:=bif decide (((W64 (2+(AB (AF.mk l 0) 5).1)):Int)<4)then(AB v5 3).2 else v5
def Z5q:CT:=(42,HA.map (CH 1000 14),wrI 14 (.cells (AF.c (Z5p l v5)) 117) (tI (AB (Z5p l v5) 2).1) (.cells (AF.c (AB (Z5p l v5) 2).2) 117))
def Z5r:Blk:=.cells (AF.c (AB (Z5p l v5) 2).2) 117
abbrev Rn:=[BU.mk 0 [CF.mk (Ap 0) 1,CF.mk (Ap 1) (AB (Z5p l v5) 2).1]]
abbrev Z5t:AF:=bif bif decide (((W64 (2+(AB (AF.mk l 0) 5).1)):Int)<4)then(bif decide (((W64 (2+(AB (AF.mk l 0) 5).1)):Int)<4)then decide ((0:Int)<(AB v5 3).1)else false)else(bif decide (((W64 (2+(AB (AF.mk l 0) 5).1)):Int)<4)then false else false)then(AB (Z5p l v5) 2).2 else(Z5p l v5)
def Z5u:(List BU):=bif bif decide (((W64 (2+(AB (AF.mk l 0) 5).1)):Int)<4)then(bif decide (((W64 (2+(AB (AF.mk l 0) 5).1)):Int)<4)then decide ((0:Int)<(AB v5 3).1)else false)else(bif decide (((W64 (2+(AB (AF.mk l 0) 5).1)):Int)<4)then false else false)then [BU.mk 0 [CF.mk (Ap 0) 1,CF.mk (Ap 1) (AB (Z5p l v5) 2).1]]else([]:List BU)
def Z5v:CT:=(42,(GU:List Av).map (CH 1000 14),wrI 14 (.cells (AF.c (Z5t l v5)) 117) (tI (AB (Z5t l v5) 3).1) (.cells (AF.c (AB (Z5t l v5) 3).2) 117))
def Z5w:Blk:=.row 2 (Z5u l v5).length (AL BU.c (Z5u l v5)) 180
abbrev Z5x:AF:=bif decide ((4:Int)<=(W64 (2+(AB (AF.mk l 0) 5).1)))then(AB (Z5t l v5) 3).2 else(Z5t l v5)
abbrev H9:=AB (Z5x l v5) 2
def Z5y:CT:=(42,HA.map (CH 1000 14),wrI 14 (.cells (AF.c (Z5x l v5)) 117) (tI (H9 l v5).1) (.cells (AF.c (H9 l v5).2) 117))
def Z5z:Blk:=.cells (AF.c (H9 l v5).2) 117
abbrev aK:=[BU.mk 1 [CF.mk (Ap 0) (H9 l v5).1,CF.mk (Ap 1) (H9 l v5).1],BU.mk 1 [CF.mk (Ap 2) (H9 l v5).1,CF.mk (Ap 3) (H9 l v5).1]]
def Z5A:Blk:=.row 2 ((aK l v5).length) (AL BU.c (aK l v5)) 180
abbrev Z5B:AF:=bif bif decide ((4:Int)<=(W64 (2+(AB (AF.mk l 0) 5).1)))then(bif decide ((4:Int)<=(W64 (2+(AB (AF.mk l 0) 5).1)))then decide ((0:Int)<(AB (Z5t l v5) 3).1)else false)else(bif decide ((4:Int)<=(W64 (2+(AB (AF.mk l 0) 5).1)))then false else false)then(AB (Z5x l v5) 2).2 else(Z5x l v5)
def Z5C:(List BU):=bif bif decide ((4:Int)<=(W64 (2+(AB (AF.mk l 0) 5).1)))then(bif decide ((4:Int)<=(W64 (2+(AB (AF.mk l 0) 5).1)))then decide ((0:Int)<(AB (Z5t l v5) 3).1)else false)else(bif decide ((4:Int)<=(W64 (2+(AB (AF.mk l 0) 5).1)))then false else false)then [BU.mk 1 [CF.mk (Ap 0) (AB (Z5x l v5) 2).1,CF.mk (Ap 1) (AB (Z5x l v5) 2).1],BU.mk 1 [CF.mk (Ap 2) (AB (Z5x l v5) 2).1,CF.mk (Ap 3) (AB (Z5x l v5) 2).1]]else(Z5u l v5)
def Z5D:CT:=(42,HA.map (CH 1000 14),wrI 14 (.cells (AF.c (Z5B l v5)) 117) (tI (AB (Z5B l v5) 2).1) (.cells (AF.c (AB (Z5B l v5) 2).2) 117))
def Z5E:Blk:=.row 2 (Z5C l v5).length (AL BU.c (Z5C l v5)) 180
abbrev Z5F:AF:=bif bif decide (((W64 (2+(AB (AF.mk l 0) 5).1)):Int)=6)then decide ((0:Int)<((Z5C l v5).length:Int))else false then(AB (Z5B l v5) 2).2 else(Z5B l v5)
def Z5G:CT:=(42,(GU:List Av).map (CH 1000 14),wrI 14 (.cells (AF.c (Z5F l v5)) 117) (tI (AB (Z5F l v5) 3).1) (.cells (AF.c (AB (Z5F l v5) 3).2) 117))
abbrev aO:=[BU.mk (AB (Z5F l v5) 3).1 [CF.mk (Ap 5) (((Z5C l v5).getD 0 default).Legs.getD 0 default).Group,CF.mk (Ap 4) (((Z5C l v5).getD 0 default).Legs.getD 1 default).Group]]
def Z5H:Blk:=.row 2 ((Z5C l v5)++(aO l v5)).length (AL BU.c ((Z5C l v5)++(aO l v5))) 180
def Z5I:(List BU):=bif bif bif decide (((W64 (2+(AB (AF.mk l 0) 5).1)):Int)=6)then decide ((0:Int)<((Z5C l v5).length:Int))else false then(bif bif decide (((W64 (2+(AB (AF.mk l 0) 5).1)):Int)=6)then decide ((0:Int)<((Z5C l v5).length:Int))else false then decide (((AB (Z5B l v5) 2).1:Int)=1)else false)else(bif bif decide (((W64 (2+(AB (AF.mk l 0) 5).1)):Int)=6)then decide ((0:Int)<((Z5C l v5).length:Int))else false then false else false)then((Z5C l v5)++[BU.mk (AB (Z5F l v5) 3).1 [CF.mk (Ap 5) (((Z5C l v5).getD 0 default).Legs.getD 0 default).Group,CF.mk (Ap 4) (((Z5C l v5).getD 0 default).Legs.getD 1 default).Group]])else(Z5C l v5)
def Z5K(name:my)(ni:List Bc)(l:(List Int))(v5:AF):Blk:=.cells [.s name,.own 2000 7 ni.length,.own 2001 2 ((Rn l v5).length)] 82
def Z5L(name:my)(ni:List Bc)(l:(List Int))(v5:AF):Blk:=.cells [.s name,.own 2000 7 ni.length,.own 2001 2 (Z5u l v5).length] 82
def Z5M(name:my)(ni:List Bc)(l:(List Int))(v5:AF):Blk:=.cells [.s name,.own 2000 7 ni.length,.own 2002 2 ((aK l v5).length)] 82
def Z5N(name:my)(ni:List Bc)(l:(List Int))(v5:AF):Blk:=.cells [.s name,.own 2000 7 ni.length,.own 2002 2 (Z5C l v5).length] 82
def Z5O(name:my)(ni:List Bc)(l:(List Int))(v5:AF):Blk:=.cells [.s name,.own 2000 7 ni.length,.own 2003 2 ((Z5C l v5)++(aO l v5)).length] 82
def Dx(l:(List Int))(name:my):Nat->List Bc->AF->Int->AN
 |0,_,_,_=>default
 |n0+1,ni,v5,v8=>bif decide ((v8:Int)<(W64 (2+(AB (AF.mk l 0) 5).1)))then((Dx l name n0) (ni++[Bc.mk (Ap v8) (AQ.mk (bif decide (((AB (AB v5 2).2 3).1:Int)=0)then(Z5f v8 v5).Kind else(bif decide (((AB (AB v5 2).2 3).1:Int)=1)then(Z5i v8 v5).Kind else 1)) (Z5k v5 v8) (bif decide (((AB (AB v5 2).2 3).1:Int)=0)then(Z5f v8 v5).R else(bif decide (((AB (AB v5 2).2 3).1:Int)=1)then(Z5i v8 v5).R else 4))) (AG.mk (W64 (30*v8)) (W64 (10*(AB v5 2).1))) (W64 ((W64 (2*(AB (Z5j v5) 4).1))*(AB (AB (Z5j v5) 4).2 2).1))]) (Z5n v5) (v8+1))else(AN.mk name ni (Z5I l v5))
def BM(l:(List Int))(name:my):AN:=Dx l name (((W64 (2+(AB (AF.mk l 0) 5).1))-0).toNat+1) ([]:List Bc) (AB (AF.mk l 0) 5).2 0
def RR:CT:=(39,[.one (lst 1 eIn l),.one (.s name)],.val [] (.av (.agg (AN.c (BM l name)))))
abbrev Zs:=AG.mk (W64 (30*v8)) (W64 (10*(AB v5 2).1))
abbrev Cz(t_:List (Nat×Tv)):List (Nat×Tv):=(4,tP 4 0)::(5,tP 14 0)::(6,tP 6 0)::t_
abbrev Kh:List (Nat×Tv):=(Cz [(7,Z4Z l)])
abbrev NY:Nat×Blk:=(2000,.row 7 ni.length (AL Bc.c ni) 102)
abbrev WH:List (Nat×Tv):=(Cz [(7,Z4Z l),(8,tI v8),(9,tP 9 0)])
abbrev nO:=[AK.mk 1 (AG.mk (W64 ((W64 (30*v8))-2)) (W64 (10*(AB v5 2).1))) (AG.mk (W64 ((W64 (30*v8))+2)) (W64 (10*(AB v5 2).1))) (AG.mk 0 0)]
abbrev V3:List (Nat×Blk):=[(4,Z4X),(6,Z58 name ni),(14,.cells (AF.c v5) 117),(2000,Z59 ni)]
abbrev Rp:List (Nat×Tv):=[(4,tP 4 0),(6,tP 6 0)]
abbrev Re:Nat×Tv:=(7,tI (W64 (2+(Fx l).1)))
set_option maxHeartbeats 2000000 in
theorem zH(l:(List Int))(name:my)(hl:(l.length:Int)<=9223372036854775807):PuP 39 (RR l name).2.1 (.av (.agg (AN.c (BM l name)))):=by
 refine pwf Tryz.func39 fun W0 M0=>?_;have hd0:=DV hl;refine AA<|on<|AA<|on<|AA<|on<|AA<|rb 18 (Z4Y l) (.cells [lst 1 eIn l,.i 0] 117) ⟨(Kh l),[(4,Z4X),(6,.cells [.s name,vN,vN] 82),(14,Z50 l)]⟩ (cWr (Bp (AF.mk l 0) 5 au10 au13))<|AE<|AA<|AA<|rn ⟨(Cz [(7,Z4Z l),(8,tI 0)]),[(4,Z4X),(6,.cells [.s name,vN,vN] 82),(14,Z50 l)]⟩<|AJ<|AZ (Cv.trans (vg 2000 7 m8 102 [] [(6,[1])] hk0) (Cv.trans (Ag 2000 (Bh 7 m8 Bc.c)) (ck (⟨(Cz [(7,Z4Z l),(8,tI 0)]),[(4,Z4X),(6,.cells [.s name,.own 2000 7 ([]:List Bc).length,vN] 82),(14,Z50 l),(2000,.row 7 ([]:List Bc).length (AL Bc.c ([]:List Bc)) 102)]⟩)))) ?_;refine lpC (κ:=List Bc×AF×Int) (fun x=>⟨(Cz [(7,Z4Z l),(8,tI x.2.2.2)]),[(4,Z4X),(6,.cells [.s name,.own 2000 7 x.2.1.length,vN] 82),(14,.cells (AF.c x.2.2.1) 117),(2000,.row 7 x.2.1.length (AL Bc.c x.2.1) 102)]⟩) (fun x=>((W64 (2+(AB (AF.mk l 0) 5).1))-x.2.2.2).toNat) (fun x=>(DK x.2.2.1/\0<=x.2.2.2/\(x.2.2.2<=(W64 (2+(AB (AF.mk l 0) 5).1))\/x.2.2.2=0)/\(x.2.1.length:Int)<=0+1*(x.2.2.2-0))/\Dx l name x.1 x.2.1 x.2.2.1 x.2.2.2=BM l name) ?_ (((W64 (2+(AB (AF.mk l 0) 5).1))-0).toNat+1,([]:List Bc),(AB (AF.mk l 0) 5).2,0) ⟨lz _,⟨(by dsimp only;repeat (first|with_reducible assumption|exact DV (EP hll _)|with_reducible refine Bm ?_|with_reducible refine F6 ?_|with_reducible refine Eh ?_|with_reducible refine EF ?_  | with_reducible refine Dh ?_ ?_)),ax0,ax0,ax0⟩,(by simp only[BM,mi,mj])⟩;rintro n0 ⟨ni,v5,v8⟩ nq ⟨nm,ng⟩
 try dsimp only at nq nm ng
 have hi0_0:=nm.1;refine AA<|AA<|on<|kb (decide ((v8:Int)<(W64 (2+(AB (AF.mk l 0) 5).1)))) (fun h1=>?_) (fun h1=>?_)
 ·have g1:=oT h1;have k1:=W3 g1 m4 m4 m4 m4;have kk1:=TA g1 m4 m4 m4 m4;refine AP<|AE<|AA<|AJ<|AA<|oo [(26,Di v8),(30,(Z5a v5))] [none,none,CQ (PK v5)] (.cons (Fi v8 au15) (.cons (cWr (Bp v5 2 au10 au13)) .nil)) (H1 rfl)<|AE<|AA<|on<|AA<|AA<|rb 37 (Z5d v5) (PV v5) ⟨(Cz [(7,Z4Z l),(8,tI v8),(9,tP 9 0),(10,tP 10 0),(37,tI (Ez v5).1)]),[(4,Z4X),(6,Z58 name ni),(9,Z5b v8 v5),(10,Z5c v8 v5),(14,Z5e v5),(2000,Z59 ni)]⟩ (cWr (Bp (AB v5 2).2 3 au10 au13))<|AE<|B4 (⟨(Cz [(Re l),(8,tI v8),(9,tP 9 0)]),[Hj,(6,.cells [.s name,.own 2000 7 ni.length,vN] 82),(9,.cells [.s (Ap v8),.i (bif decide (((Ez v5).1:Int)=0)then(Z5f v8 v5).Kind else(bif decide (((Ez v5).1:Int)=1)then(Z5i v8 v5).Kind else 1)),lst 7 AK.c (Z5k v5 v8),.i (bif decide (((Ez v5).1:Int)=0)then(Z5f v8 v5).R else(bif decide (((Ez v5).1:Int)=1)then(Z5i v8 v5).R else 4)),.i (W64 (30*v8)),.i (W64 (10*(AB v5 2).1)),.i 0] 102),(14,.cells (AF.c (Z5j v5)) 117),(NY ni)]⟩) ?_ ?_
  ·refine AJ<|AA<|on<|kb (decide (((AB (AB v5 2).2 3).1:Int)=0)) (fun h2=>?_) (fun h2=>?_)
   ·refine rs 69 _ ⟨(WH l v8),[(4,Z4X),(6,Z58 name ni),(9,.cells [.s (Ap v8),.i (Z5f v8 v5).Kind,lst 7 AK.c (Z5f v8 v5).Edges,.i (Z5f v8 v5).R,.i (W64 (30*v8)),.i (W64 (10*(AB v5 2).1)),.i 0] 102),(14,Z5e v5),(2000,Z59 ni)]⟩ (RE (Al.mk (W64 ((W64 (30*v8))-6)) (W64 ((W64 (10*(AB v5 2).1))-6)) (W64 ((W64 (30*v8))+6)) (W64 ((W64 (10*(AB v5 2).1))+6))))<|Ao<|AE<|Az ?_
    first|rfl|(simp only[h2,Z5j,Z5k,mi,mj]<;>rfl)
   have g2:=oF h2;refine AA<|on<|kb (decide (((AB (AB v5 2).2 3).1:Int)=1)) (fun h3=>?_) (fun h3=>?_)
   ·have g3:=oT h3;refine dO [] [(75,(Z5g v5)),(77,dU (Zs v8 v5) (W64 (4+(AB (Ez v5).2 3).1)))] [none,CQ (.cells (AF.c (AB (AB v5 2).2 3).2) 117),none] ⟨(WH l v8),[(4,Z4X),(6,Z58 name ni),(9,.cells [.s (Ap v8),.i (Z5i v8 v5).Kind,lst 7 AK.c (Z5i v8 v5).Edges,.i (Z5i v8 v5).R,.i (W64 (30*v8)),.i (W64 (10*(AB v5 2).1)),.i 0] 102),(14,.cells (AF.c (Z5h v5)) 117),(2000,Z59 ni)]⟩ (.cons (cWr (Bp (AB (AB v5 2).2 3).2 3 au10 au13)) (.cons (MX (AG.mk (W64 (30*v8)) (W64 (10*(AB v5 2).1))) (W64 (4+(AB (AB (AB v5 2).2 3).2 3).1))) .nil)) (H1 rfl)<|Ao<|AE<|Az ?_
    first|rfl|(simp only[h2,h3,Z5j,Z5k,mi,mj]<;>rfl)
   refine rg ⟨(WH l v8),[(4,Z4X),(6,Z58 name ni),(9,.cells [.s (Ap v8),.i 1,.list true 7 1 (A9 7 1 [.i 1,.i (W64 ((W64 (30*v8))-2)),.i (W64 (10*(AB v5 2).1)),.i (W64 ((W64 (30*v8))+2)),.i (W64 (10*(AB v5 2).1)),.i 0,.i 0]),.i 4,.i (W64 (30*v8)),.i (W64 (10*(AB v5 2).1)),.i 0] 102),(14,Z5e v5),(2000,Z59 ni)]⟩<|Ao<|AE<|Cv.trans (DD (⟨(WH l v8),[(4,Z4X),(6,Z58 name ni),(9,.cells [.s (Ap v8),.i 1,lst 7 AK.c (nO v8 v5),.i 4,.i (W64 (30*v8)),.i (W64 (10*(AB v5 2).1)),.i 0] 102),(14,Z5e v5),(2000,Z59 ni)]⟩) lr (rz (rz (.cons ⟨rfl,.cells _ (rr2 (.cons (BO true (BN (c:=AK.c) (xs:=([AK.mk 1 (AG.mk (W64 ((W64 (30*v8))-2)) (W64 (10*(AB v5 2).1))) (AG.mk (W64 ((W64 (30*v8))+2)) (W64 (10*(AB v5 2).1))) (AG.mk 0 0)]:List AK)) rfl kr)) (rr (rr (rr (rr .nil))))))⟩ lr)))) (Az ?_)
   first|rfl|(simp only[h2,h3,Z5j,Z5k,mi,mj]<;>rfl)
  refine AA<|oo [(80,(Z5l v5)),(83,(Z5m v5))] [none,CQ (.cells (AF.c (Z5j v5)) 117),none,CQ (.cells (AF.c (AB (Z5j v5) 4).2) 117)] (.cons (cWr (Bp (Z5j v5) 4 au10 au13)) (.cons (cWr (Bp (AB (Z5j v5) 4).2 2 au10 au13)) .nil)) (H2 rfl rfl)<|AE<|oc [] [ni.length=ni.length,ni.length+1<=maxLen,(ni.length+1)*80<=140737488355328] .nil (H3 rfl au2 au2)<|Ao<|AE<|AZ (Ag 90 (Ac (AU 7 Bc.c ni) (Ai 7 Bc.c ([Bc.mk (Ap v8) (AQ.mk (bif decide (((AB (AB v5 2).2 3).1:Int)=0)then(Z5f v8 v5).Kind else(bif decide (((AB (AB v5 2).2 3).1:Int)=1)then(Z5i v8 v5).Kind else 1)) (Z5k v5 v8) (bif decide (((AB (AB v5 2).2 3).1:Int)=0)then(Z5f v8 v5).R else(bif decide (((AB (AB v5 2).2 3).1:Int)=1)then(Z5i v8 v5).R else 4))) (AG.mk (W64 (30*v8)) (W64 (10*(AB v5 2).1))) (W64 ((W64 (2*(AB (Z5j v5) 4).1))*(AB (AB (Z5j v5) 4).2 2).1))]:List Bc)))) ?_
  refine rg ⟨(Cz [(7,Z4Z l),(8,tI (W64 (v8+1)))]),[(4,Z4X),(6,.cells [.s name,.own 90 7 (ni++[Bc.mk (Ap v8) (AQ.mk (bif decide (((Ez v5).1:Int)=0)then(Z5f v8 v5).Kind else(bif decide (((Ez v5).1:Int)=1)then(Z5i v8 v5).Kind else 1)) (Z5k v5 v8) (bif decide (((Ez v5).1:Int)=0)then(Z5f v8 v5).R else(bif decide (((Ez v5).1:Int)=1)then(Z5i v8 v5).R else 4))) (Zs v8 v5) (W64 ((W64 (2*(AB (Z5j v5) 4).1))*(AB (AB (Z5j v5) 4).2 2).1))]).length,vN] 82),(14,.cells (AF.c (Z5n v5)) 117),(90,.row 7 (ni++[Bc.mk (Ap v8) (AQ.mk (bif decide (((Ez v5).1:Int)=0)then(Z5f v8 v5).Kind else(bif decide (((Ez v5).1:Int)=1)then(Z5i v8 v5).Kind else 1)) (Z5k v5 v8) (bif decide (((Ez v5).1:Int)=0)then(Z5f v8 v5).R else(bif decide (((Ez v5).1:Int)=1)then(Z5i v8 v5).R else 4))) (Zs v8 v5) (W64 ((W64 (2*(AB (Z5j v5) 4).1))*(AB (AB (Z5j v5) 4).2 2).1))]).length (AL Bc.c (ni++[Bc.mk (Ap v8) (AQ.mk (bif decide (((Ez v5).1:Int)=0)then(Z5f v8 v5).Kind else(bif decide (((Ez v5).1:Int)=1)then(Z5i v8 v5).Kind else 1)) (Z5k v5 v8) (bif decide (((Ez v5).1:Int)=0)then(Z5f v8 v5).R else(bif decide (((Ez v5).1:Int)=1)then(Z5i v8 v5).R else 4))) (Zs v8 v5) (W64 ((W64 (2*(AB (Z5j v5) 4).1))*(AB (AB (Z5j v5) 4).2 2).1))])) 102)]⟩ ?_
  (try rw[(show W64 (v8+1)=v8+1 from Ae oM au5)])
  refine AE ?_;refine⟨(n0,ni++[Bc.mk (Ap v8) (AQ.mk (bif decide (((AB (AB v5 2).2 3).1:Int)=0)then(Z5f v8 v5).Kind else(bif decide (((AB (AB v5 2).2 3).1:Int)=1)then(Z5i v8 v5).Kind else 1)) (Z5k v5 v8) (bif decide (((AB (AB v5 2).2 3).1:Int)=0)then(Z5f v8 v5).R else(bif decide (((AB (AB v5 2).2 3).1:Int)=1)then(Z5i v8 v5).R else 4))) (AG.mk (W64 (30*v8)) (W64 (10*(AB v5 2).1))) (W64 ((W64 (2*(AB (Z5j v5) 4).1))*(AB (AB (Z5j v5) 4).2 2).1))],Z5n v5,v8+1),⟨?_,?_,(by rw[<- ng];simp only[Dx,h1,mi,mj])⟩,lz _,Cv.trans (vr 90 2000 hk0) (Az kr)⟩
  ·dsimp only;omega
  exact⟨(by dsimp only;repeat (first|with_reducible assumption|exact DV (EP hll _)|with_reducible refine Bm ?_|with_reducible refine F6 ?_|with_reducible refine Eh ?_|with_reducible refine EF ?_  | with_reducible refine Dh ?_ ?_)),ax0,ax0,ax0⟩
 have g1:=oF h1;have k1:=XG g1 m4 m4 m4 m4;refine Aw<|Aj<|Aj<|Ay<|AE<|AA<|AA<|B4 (⟨(Cz [(Re l),(98,tB (bif decide (((W64 (2+(AB (AF.mk l 0) 5).1)):Int)<4)then(bif decide (((W64 (2+(AB (AF.mk l 0) 5).1)):Int)<4)then decide ((0:Int)<(AB v5 3).1)else false)else(bif decide (((W64 (2+(AB (AF.mk l 0) 5).1)):Int)<4)then false else false)))]),[Hj,(6,.cells [.s name,.own 2000 7 ni.length,vN] 82),(14,.cells (AF.c (Z5p l v5)) 117),(NY ni)]⟩) ?_ ?_
 ·refine Qj (decide (((W64 (2+(AB (AF.mk l 0) 5).1)):Int)<4)) (fun h2=>?_) (fun h2=>?_)
  ·have g2:=oT h2;refine DZ<|Fk C8 4 [] [] [] [4,5,6,7,94,95] [4,6,14,2000] [] ⟨(Cz [(7,Z4Z l),(94,Z51 l),(95,Z52 l)]),(V3 name ni v5)⟩ .nil kr .nil<|Ti C8 2 true ((decide (((W64 (2+(AB (AF.mk l 0) 5).1)):Int)<4))=true) [] [(96,(Z5o v5))] [((decide (((W64 (2+(AB (AF.mk l 0) 5).1)):Int)<4))=true)->((decide (((W64 (2+(AB (AF.mk l 0) 5).1)):Int)<4))=true),Cp (Z5o v5).2.1,CQ (PK v5)] ⟨(Cz [(7,Z4Z l),(94,Z51 l),(95,Z52 l),(96,tI (AB v5 3).1)]),[(4,Z4X),(6,Z58 name ni),(14,.cells (AF.c (AB v5 3).2) 117),(2000,Z59 ni)]⟩ rfl kr h2 (.cons (cWr (Bp v5 3 au10 au13)) .nil) kr (.cons id (.cons rfl (.cons rfl .nil)))<|Er C8 [] [] [] [4,5,6,7,98] [4,6,14,2000] [(decide (((W64 (2+(AB (AF.mk l 0) 5).1)):Int)<4))=true->((decide (((W64 (2+(AB (AF.mk l 0) 5).1)):Int)<4))=true)] ⟨(Cz [(7,Z4Z l),(98,tB (bif decide (((W64 (2+(Fx l).1)):Int)<4)then decide ((0:Int)<(AB v5 3).1)else false))]),[(4,Z4X),(6,Z58 name ni),(14,.cells (AF.c (AB v5 3).2) 117),(2000,Z59 ni)]⟩ .nil kr (.cons id .nil)<|AE<|Az ?_
   first|rfl|(simp only[h2,Z5p,mi,mj]<;>rfl)
  have g2:=oF h2;refine DZ<|Fk C8 4 [] [] [] [4,5,6,7,94,95] [4,6,14,2000] [] ⟨(Cz [(7,Z4Z l),(94,Z51 l),(95,Z52 l)]),(V3 name ni v5)⟩ .nil kr .nil<|I6 2 true ((decide (((W64 (2+(AB (AF.mk l 0) 5).1)):Int)<4))=true) ⟨(Cz [(7,Z4Z l),(94,Z51 l),(95,Z52 l),(96,.grd ((HD l)=true) (.one (.b false)))]),(V3 name ni v5)⟩ rfl kr (fun e=>by rw[h2]at e;cases e) kr kr<|Er C8 [] [] [] [4,5,6,7,98] [4,6,14,2000] [¬ ((decide (((W64 (2+(AB (AF.mk l 0) 5).1)):Int)<4))=true),(decide (((W64 (2+(AB (AF.mk l 0) 5).1)):Int)<4))=true->((decide (((W64 (2+(AB (AF.mk l 0) 5).1)):Int)<4))=true)] ⟨(Cz [(7,Z4Z l),(98,tB (bif decide (((W64 (2+(Fx l).1)):Int)<4)then false else false))]),(V3 name ni v5)⟩ .nil kr (.cons (fun e=>by rw[h2]at e;cases e) (.cons id .nil))<|AE<|Az ?_
  first|rfl|(simp only[h2,Z5p,mi,mj]<;>rfl)
 refine B4 (⟨(Cz [(Re l)]),[Hj,(6,.cells [.s name,.own 2000 7 ni.length,.own 2001 2 (Z5u l v5).length] 82),(14,.cells (AF.c (Z5t l v5)) 117),(NY ni),(2001,.row 2 (Z5u l v5).length (AL BU.c (Z5u l v5)) 180)]⟩) ?_ ?_
 ·refine BC (bif decide (((W64 (2+(AB (AF.mk l 0) 5).1)):Int)<4)then(bif decide (((W64 (2+(AB (AF.mk l 0) 5).1)):Int)<4)then decide ((0:Int)<(AB v5 3).1)else false)else(bif decide (((W64 (2+(AB (AF.mk l 0) 5).1)):Int)<4)then false else false)) kr (fun h2=>?_) (fun h2=>?_)
  ·refine DE C8 [107] [] [(99,Di 0),(101,Di 1),(103,(Z5q l v5))] [4,5,6,7] [4,6,14,107,2000] [Cp (Di 0).2.1,Cp (Di 1).2.1,Cp (Z5q l v5).2.1,CQ (.cells (AF.c (Z5p l v5)) 117)] ⟨(Kh l),[(4,Z4X),(6,.cells [.s name,.own 2000 7 ni.length,.own 107 2 1] 82),(14,Z5r l v5),(107,.row 2 1 (A9 2 1 [.i 0,.list true 2 2 (A9 2 2 [.s (Ap 0),.i 1,.s (Ap 1),.i (AB (Z5p l v5) 2).1])]) 180),(2000,Z59 ni)]⟩ (.cons (Fi 0 au15) (.cons (Fi 1 au15) (.cons (cWr (Bp (Z5p l v5) 2 au10 au13)) .nil))) kr (.cons rfl (.cons rfl (.cons rfl (.cons rfl .nil))))<|AE ?_;refine Cv.trans (DD (⟨(Kh l),[(4,Z4X),(6,.cells [.s name,.own 2000 7 ni.length,.own 107 2 ([BU.mk 0 [CF.mk (Ap 0) 1,CF.mk (Ap 1) (AB (Z5p l v5) 2).1]].length)] 82),(14,Z5r l v5),(107,.row 2 ((Rn l v5).length) (AL BU.c (Rn l v5)) 180),(2000,Z59 ni)]⟩) lr (rz (.cons ⟨rfl,.cells _ (rr2 (.cons (.own _ _ au17) .nil))⟩ (rz (.cons ⟨rfl,CS 180 (Dn (c:=BU.c) (xs:=([BU.mk 0 [CF.mk (Ap 0) 1,CF.mk (Ap 1) (AB (Z5p l v5) 2).1]]:List BU)) (y:=[[.i 0,.list true 2 2 (A9 2 2 [.s (Ap 0),.i 1,.s (Ap 1),.i (AB (Z5p l v5) 2).1])]]) (z:=[[.i 0,lst 2 CF.c [CF.mk (Ap 0) 1,CF.mk (Ap 1) (AB (Z5p l v5) 2).1]]]) rfl kr kr (.cons (rr (.cons (BO true (BN (c:=CF.c) (xs:=([CF.mk (Ap 0) 1,CF.mk (Ap 1) (AB (Z5p l v5) 2).1]:List CF)) rfl kr)) .nil)) .nil))⟩ lr))))) (Cv.trans (vr 107 2001 hk0) (Cv.trans (ck (⟨(Kh l),[(4,Z4X),(6,Z5K name ni l v5),(14,Z5r l v5),(2000,Z59 ni),(2001,.row 2 ((Rn l v5).length) (AL BU.c (Rn l v5)) 180)]⟩)) (Az ?_)))
   first|rfl|(simp only[h2,Z5t,Z5u,mi,mj]<;>rfl)
  refine AP<|AE<|Cv.trans (vk [4,5,6,7] [4,6,14,2000]) (Cv.trans (vg 2001 2 m8 180 [] [(6,[2])] hk0) (Cv.trans (Ag 2001 (Bh 2 m8 BU.c)) (Cv.trans (ck (⟨(Kh l),[(4,Z4X),(6,.cells [.s name,.own 2000 7 ni.length,.own 2001 2 ([]:List BU).length] 82),(14,.cells (AF.c (Z5p l v5)) 117),(2000,Z59 ni),(2001,.row 2 ([]:List BU).length (AL BU.c ([]:List BU)) 180)]⟩)) (Az ?_))))
  first|rfl|(simp only[h2,Z5t,Z5u,mi,mj]<;>rfl)
 refine AA<|AA<|B4 (⟨(Cz [(Re l),(115,tB (bif decide ((4:Int)<=(W64 (2+(AB (AF.mk l 0) 5).1)))then(bif decide ((4:Int)<=(W64 (2+(AB (AF.mk l 0) 5).1)))then decide ((0:Int)<(AB (Z5t l v5) 3).1)else false)else(bif decide ((4:Int)<=(W64 (2+(AB (AF.mk l 0) 5).1)))then false else false)))]),[Hj,(6,.cells [.s name,.own 2000 7 ni.length,.own 2001 2 (Z5u l v5).length] 82),(14,.cells (AF.c (Z5x l v5)) 117),(NY ni),(2001,.row 2 (Z5u l v5).length (AL BU.c (Z5u l v5)) 180)]⟩) ?_ ?_
 ·refine Qj (decide ((4:Int)<=(W64 (2+(AB (AF.mk l 0) 5).1)))) (fun h2=>?_) (fun h2=>?_)
  ·have g2:=oT h2;refine DZ<|Fk C8 4 [] [] [] [4,5,6,7,111,112] [4,6,14,2000,2001] [] ⟨(Cz [(7,Z4Z l),(111,Z54 l),(112,Z55 l)]),[(4,Z4X),(6,Z5L name ni l v5),(14,.cells (AF.c (Z5t l v5)) 117),(2000,Z59 ni),(2001,Z5w l v5)]⟩ .nil kr .nil<|Ti C8 2 true ((decide ((4:Int)<=(W64 (2+(AB (AF.mk l 0) 5).1))))=true) [] [(113,(Z5v l v5))] [((decide ((4:Int)<=(W64 (2+(AB (AF.mk l 0) 5).1))))=true)->((decide ((4:Int)<=(W64 (2+(AB (AF.mk l 0) 5).1))))=true),Cp (Z5v l v5).2.1,CQ (.cells (AF.c (Z5t l v5)) 117)] ⟨(Cz [(7,Z4Z l),(111,Z54 l),(112,Z55 l),(113,tI (AB (Z5t l v5) 3).1)]),[(4,Z4X),(6,Z5L name ni l v5),(14,.cells (AF.c (AB (Z5t l v5) 3).2) 117),(2000,Z59 ni),(2001,Z5w l v5)]⟩ rfl kr h2 (.cons (cWr (Bp (Z5t l v5) 3 au10 au13)) .nil) kr (.cons id (.cons rfl (.cons rfl .nil))) ?_;refine Er C8 [] [] [] [4,5,6,7,115] [4,6,14,2000,2001] [(decide ((4:Int)<=(W64 (2+(AB (AF.mk l 0) 5).1))))=true->((decide ((4:Int)<=(W64 (2+(AB (AF.mk l 0) 5).1))))=true)] ⟨(Cz [(7,Z4Z l),(115,tB (bif decide ((4:Int)<=(W64 (2+(Fx l).1)))then decide ((0:Int)<(AB (Z5t l v5) 3).1)else false))]),[(4,Z4X),(6,Z5L name ni l v5),(14,.cells (AF.c (AB (Z5t l v5) 3).2) 117),(2000,Z59 ni),(2001,Z5w l v5)]⟩ .nil kr (.cons id .nil)<|AE<|Az ?_
   first|rfl|(simp only[h2,Z5x,mi,mj]<;>rfl)
  have g2:=oF h2;refine DZ<|Fk C8 4 [] [] [] [4,5,6,7,111,112] [4,6,14,2000,2001] [] ⟨(Cz [(7,Z4Z l),(111,Z54 l),(112,Z55 l)]),[(4,Z4X),(6,Z5L name ni l v5),(14,.cells (AF.c (Z5t l v5)) 117),(2000,Z59 ni),(2001,Z5w l v5)]⟩ .nil kr .nil<|I6 2 true ((decide ((4:Int)<=(W64 (2+(AB (AF.mk l 0) 5).1))))=true) ⟨(Cz [(7,Z4Z l),(111,Z54 l),(112,Z55 l),(113,.grd ((HF l)=true) (.one (.b false)))]),[(4,Z4X),(6,Z5L name ni l v5),(14,.cells (AF.c (Z5t l v5)) 117),(2000,Z59 ni),(2001,Z5w l v5)]⟩ rfl kr (fun e=>by rw[h2]at e;cases e) kr kr<|Er C8 [] [] [] [4,5,6,7,115] [4,6,14,2000,2001] [¬ ((decide ((4:Int)<=(W64 (2+(AB (AF.mk l 0) 5).1))))=true),(decide ((4:Int)<=(W64 (2+(AB (AF.mk l 0) 5).1))))=true->((decide ((4:Int)<=(W64 (2+(AB (AF.mk l 0) 5).1))))=true)] ⟨(Cz [(7,Z4Z l),(115,tB (bif decide ((4:Int)<=(W64 (2+(Fx l).1)))then false else false))]),[(4,Z4X),(6,Z5L name ni l v5),(14,.cells (AF.c (Z5t l v5)) 117),(2000,Z59 ni),(2001,Z5w l v5)]⟩ .nil kr (.cons (fun e=>by rw[h2]at e;cases e) (.cons id .nil))<|AE<|Az ?_
  first|rfl|(simp only[h2,Z5x,mi,mj]<;>rfl)
 refine B4 (⟨(Cz [(Re l)]),[Hj,(6,.cells [.s name,.own 2000 7 ni.length,.own 2002 2 (Z5C l v5).length] 82),(14,.cells (AF.c (Z5B l v5)) 117),(NY ni),(2002,.row 2 (Z5C l v5).length (AL BU.c (Z5C l v5)) 180)]⟩) ?_ ?_
 ·refine BC (bif decide ((4:Int)<=(W64 (2+(AB (AF.mk l 0) 5).1)))then(bif decide ((4:Int)<=(W64 (2+(AB (AF.mk l 0) 5).1)))then decide ((0:Int)<(AB (Z5t l v5) 3).1)else false)else(bif decide ((4:Int)<=(W64 (2+(AB (AF.mk l 0) 5).1)))then false else false)) kr (fun h2=>?_) (fun h2=>?_)
  ·refine AA<|rb 117 (Z5y l v5) (.cells (AF.c (Z5x l v5)) 117) ⟨(Cz [(7,Z4Z l),(11,tI (AB (Z5x l v5) 2).1)]),[(4,Z4X),(6,Z5L name ni l v5),(14,Z5z l v5),(2000,Z59 ni),(2001,Z5w l v5)]⟩ (cWr (Bp (Z5x l v5) 2 au10 au13))<|AE<|DE C8 [134] [] [(118,Di 0),(121,Di 1),(126,Di 2),(129,Di 3)] [4,5,6,7] [4,6,14,134,2000] [Cp (Di 0).2.1,Cp (Di 1).2.1,Cp (Di 2).2.1,Cp (Di 3).2.1] ⟨(Kh l),[(4,Z4X),(6,.cells [.s name,.own 2000 7 ni.length,.own 134 2 2] 82),(14,Z5z l v5),(134,.row 2 2 (A9 2 2 [.i 1,.list true 2 2 (A9 2 2 [.s (Ap 0),.i (AB (Z5x l v5) 2).1,.s (Ap 1),.i (AB (Z5x l v5) 2).1]),.i 1,.list true 2 2 (A9 2 2 [.s (Ap 2),.i (AB (Z5x l v5) 2).1,.s (Ap 3),.i (AB (Z5x l v5) 2).1])]) 180),(2000,Z59 ni)]⟩ (.cons (Fi 0 au15) (.cons (Fi 1 au15) (.cons (Fi 2 au15) (.cons (Fi 3 au15) .nil)))) kr (.cons rfl (.cons rfl (.cons rfl (.cons rfl .nil))))<|AE ?_
   refine Cv.trans (DD (⟨(Kh l),[(4,Z4X),(6,.cells [.s name,.own 2000 7 ni.length,.own 134 2 ([BU.mk 1 [CF.mk (Ap 0) (AB (Z5x l v5) 2).1,CF.mk (Ap 1) (AB (Z5x l v5) 2).1],BU.mk 1 [CF.mk (Ap 2) (AB (Z5x l v5) 2).1,CF.mk (Ap 3) (AB (Z5x l v5) 2).1]].length)] 82),(14,Z5z l v5),(134,Z5A l v5),(2000,Z59 ni)]⟩) lr (rz (.cons ⟨rfl,.cells _ (rr2 (.cons (.own _ _ au17) .nil))⟩ (rz (.cons ⟨rfl,CS 180 (Dn (c:=BU.c) (xs:=([BU.mk 1 [CF.mk (Ap 0) (AB (Z5x l v5) 2).1,CF.mk (Ap 1) (AB (Z5x l v5) 2).1],BU.mk 1 [CF.mk (Ap 2) (AB (Z5x l v5) 2).1,CF.mk (Ap 3) (AB (Z5x l v5) 2).1]]:List BU)) (y:=[[.i 1,.list true 2 2 (A9 2 2 [.s (Ap 0),.i (AB (Z5x l v5) 2).1,.s (Ap 1),.i (AB (Z5x l v5) 2).1])],[.i 1,.list true 2 2 (A9 2 2 [.s (Ap 2),.i (AB (Z5x l v5) 2).1,.s (Ap 3),.i (AB (Z5x l v5) 2).1])]]) (z:=[[.i 1,lst 2 CF.c [CF.mk (Ap 0) (AB (Z5x l v5) 2).1,CF.mk (Ap 1) (AB (Z5x l v5) 2).1]],[.i 1,lst 2 CF.c [CF.mk (Ap 2) (AB (Z5x l v5) 2).1,CF.mk (Ap 3) (AB (Z5x l v5) 2).1]]]) rfl kr kr (.cons (rr (.cons (BO true (BN (c:=CF.c) (xs:=([CF.mk (Ap 0) (AB (Z5x l v5) 2).1,CF.mk (Ap 1) (AB (Z5x l v5) 2).1]:List CF)) rfl kr)) .nil)) (.cons (rr (.cons (BO true (BN (c:=CF.c) (xs:=([CF.mk (Ap 2) (AB (Z5x l v5) 2).1,CF.mk (Ap 3) (AB (Z5x l v5) 2).1]:List CF)) rfl kr)) .nil)) .nil)))⟩ lr))))) (Cv.trans (vr 134 2002 hk0) (Cv.trans (ck (⟨(Kh l),[(4,Z4X),(6,Z5M name ni l v5),(14,Z5z l v5),(2000,Z59 ni),(2002,Z5A l v5)]⟩)) (Az ?_)))
   first|rfl|(simp only[h2,Z5B,Z5C,mi,mj]<;>rfl)
  refine AP<|AE<|Cv.trans (vk [4,5,6,7] [4,6,14,2000,2001]) (Cv.trans (wr (⟨(Kh l),[(4,Z4X),(6,.cells [.s name,.own 2000 7 ni.length,.own 2002 2 (Z5u l v5).length] 82),(14,.cells (AF.c (Z5x l v5)) 117),(2000,Z59 ni),(2002,Z5w l v5)]⟩) 2001 2002 hk0) (Az ?_))
  first|rfl|(simp only[h2,Z5B,Z5C,mi,mj]<;>rfl)
 refine AA<|AA<|B4 (⟨(Cz [(148,tB (bif bif decide (((W64 (2+(AB (AF.mk l 0) 5).1)):Int)=6)then decide ((0:Int)<((Z5C l v5).length:Int))else false then(bif bif decide (((W64 (2+(AB (AF.mk l 0) 5).1)):Int)=6)then decide ((0:Int)<((Z5C l v5).length:Int))else false then decide (((AB (Z5B l v5) 2).1:Int)=1)else false)else(bif bif decide (((W64 (2+(AB (AF.mk l 0) 5).1)):Int)=6)then decide ((0:Int)<((Z5C l v5).length:Int))else false then false else false)))]),[Hj,(6,.cells [.s name,.own 2000 7 ni.length,.own 2002 2 (Z5C l v5).length] 82),(14,.cells (AF.c (Z5F l v5)) 117),(NY ni),(2002,.row 2 (Z5C l v5).length (AL BU.c (Z5C l v5)) 180)]⟩) ?_ ?_
 ·refine Qj (bif decide (((W64 (2+(AB (AF.mk l 0) 5).1)):Int)=6)then decide ((0:Int)<((Z5C l v5).length:Int))else false) (fun h2=>?_) (fun h2=>?_)
  ·have g2:=Fl h2;refine DZ<|Fk C8 10 [] [] [] [4,5,6,144,145] [4,6,14,2000,2002] [((decide (((W64 (2+(AB (AF.mk l 0) 5).1)):Int)=6))=true)->((decide (((W64 (2+(AB (AF.mk l 0) 5).1)):Int)=6))=true),((decide (((W64 (2+(AB (AF.mk l 0) 5).1)):Int)=6))=true)->((decide (((W64 (2+(AB (AF.mk l 0) 5).1)):Int)=6))=true),((decide (((W64 (2+(AB (AF.mk l 0) 5).1)):Int)=6))=true)->((decide (((W64 (2+(AB (AF.mk l 0) 5).1)):Int)=6))=true),(decide (((W64 (2+(AB (AF.mk l 0) 5).1)):Int)=6))=true->((decide (((W64 (2+(AB (AF.mk l 0) 5).1)):Int)=6))=true)] ⟨(Cz [(144,tB (bif decide (((W64 (2+(Fx l).1)):Int)=6)then decide ((0:Int)<((Z5C l v5).length:Int))else false)),(145,.grd ((bif decide (((W64 (2+(Fx l).1)):Int)=6)then decide ((0:Int)<((Z5C l v5).length:Int))else false)=true) PP)]),[(4,Z4X),(6,Z5N name ni l v5),(14,.cells (AF.c (Z5B l v5)) 117),(2000,Z59 ni),(2002,Z5E l v5)]⟩ .nil kr (.cons id (.cons id (.cons id (.cons id .nil)))) ?_
   refine Ti C8 8 true ((bif decide (((W64 (2+(AB (AF.mk l 0) 5).1)):Int)=6)then decide ((0:Int)<((Z5C l v5).length:Int))else false)=true) [] [(146,(Z5D l v5))] [((bif decide (((W64 (2+(AB (AF.mk l 0) 5).1)):Int)=6)then decide ((0:Int)<((Z5C l v5).length:Int))else false)=true)->((bif decide (((W64 (2+(AB (AF.mk l 0) 5).1)):Int)=6)then decide ((0:Int)<((Z5C l v5).length:Int))else false)=true),Cp (Z5D l v5).2.1,CQ (.cells (AF.c (Z5B l v5)) 117)] ⟨(Cz [(144,tB (bif decide (((W64 (2+(Fx l).1)):Int)=6)then decide ((0:Int)<((Z5C l v5).length:Int))else false)),(145,.grd ((bif decide (((W64 (2+(Fx l).1)):Int)=6)then decide ((0:Int)<((Z5C l v5).length:Int))else false)=true) PP),(146,tI (AB (Z5B l v5) 2).1)]),[(4,Z4X),(6,Z5N name ni l v5),(14,.cells (AF.c (AB (Z5B l v5) 2).2) 117),(2000,Z59 ni),(2002,Z5E l v5)]⟩ rfl kr h2 (.cons (cWr (Bp (Z5B l v5) 2 au10 au13)) .nil) kr (.cons id (.cons rfl (.cons rfl .nil))) ?_
   refine Er C8 [] [] [] [4,5,6,148] [4,6,14,2000,2002] [(bif decide (((W64 (2+(AB (AF.mk l 0) 5).1)):Int)=6)then decide ((0:Int)<((Z5C l v5).length:Int))else false)=true->((bif decide (((W64 (2+(AB (AF.mk l 0) 5).1)):Int)=6)then decide ((0:Int)<((Z5C l v5).length:Int))else false)=true)] ⟨(Cz [(148,tB (bif bif decide (((W64 (2+(Fx l).1)):Int)=6)then decide ((0:Int)<((Z5C l v5).length:Int))else false then decide (((AB (Z5B l v5) 2).1:Int)=1)else false))]),[(4,Z4X),(6,Z5N name ni l v5),(14,.cells (AF.c (AB (Z5B l v5) 2).2) 117),(2000,Z59 ni),(2002,Z5E l v5)]⟩ .nil kr (.cons id .nil)<|AE<|Az ?_
   first|rfl|(simp only[h2,Z5F,mi,mj]<;>rfl)
  refine DZ<|Fk C8 10 [] [] [] [4,5,6,144,145] [4,6,14,2000,2002] [((decide (((W64 (2+(AB (AF.mk l 0) 5).1)):Int)=6))=true)->((decide (((W64 (2+(AB (AF.mk l 0) 5).1)):Int)=6))=true),((decide (((W64 (2+(AB (AF.mk l 0) 5).1)):Int)=6))=true)->((decide (((W64 (2+(AB (AF.mk l 0) 5).1)):Int)=6))=true),((decide (((W64 (2+(AB (AF.mk l 0) 5).1)):Int)=6))=true)->((decide (((W64 (2+(AB (AF.mk l 0) 5).1)):Int)=6))=true),(decide (((W64 (2+(AB (AF.mk l 0) 5).1)):Int)=6))=true->((decide (((W64 (2+(AB (AF.mk l 0) 5).1)):Int)=6))=true)] ⟨(Cz [(144,tB (bif decide (((W64 (2+(Fx l).1)):Int)=6)then decide ((0:Int)<((Z5C l v5).length:Int))else false)),(145,.grd ((bif decide (((W64 (2+(Fx l).1)):Int)=6)then decide ((0:Int)<((Z5C l v5).length:Int))else false)=true) PP)]),[(4,Z4X),(6,Z5N name ni l v5),(14,.cells (AF.c (Z5B l v5)) 117),(2000,Z59 ni),(2002,Z5E l v5)]⟩ .nil kr (.cons id (.cons id (.cons id (.cons id .nil)))) ?_
  refine I6 8 true ((bif decide (((W64 (2+(AB (AF.mk l 0) 5).1)):Int)=6)then decide ((0:Int)<((Z5C l v5).length:Int))else false)=true) ⟨(Cz [(144,tB (bif decide (((W64 (2+(Fx l).1)):Int)=6)then decide ((0:Int)<((Z5C l v5).length:Int))else false)),(145,.grd ((bif decide (((W64 (2+(Fx l).1)):Int)=6)then decide ((0:Int)<((Z5C l v5).length:Int))else false)=true) PP),(146,.grd ((bif decide (((W64 (2+(Fx l).1)):Int)=6)then decide ((0:Int)<((Z5C l v5).length:Int))else false)=true) (.one (.b false)))]),[(4,Z4X),(6,Z5N name ni l v5),(14,.cells (AF.c (Z5B l v5)) 117),(2000,Z59 ni),(2002,Z5E l v5)]⟩ rfl kr (fun e=>by rw[h2]at e;cases e) kr kr ?_;refine Er C8 [] [] [] [4,5,6,148] [4,6,14,2000,2002] [¬ ((bif decide (((W64 (2+(AB (AF.mk l 0) 5).1)):Int)=6)then decide ((0:Int)<((Z5C l v5).length:Int))else false)=true),(bif decide (((W64 (2+(AB (AF.mk l 0) 5).1)):Int)=6)then decide ((0:Int)<((Z5C l v5).length:Int))else false)=true->((bif decide (((W64 (2+(AB (AF.mk l 0) 5).1)):Int)=6)then decide ((0:Int)<((Z5C l v5).length:Int))else false)=true)] ⟨(Cz [(148,tB (bif bif decide (((W64 (2+(Fx l).1)):Int)=6)then decide ((0:Int)<((Z5C l v5).length:Int))else false then false else false))]),[(4,Z4X),(6,Z5N name ni l v5),(14,.cells (AF.c (Z5B l v5)) 117),(2000,Z59 ni),(2002,Z5E l v5)]⟩ .nil kr (.cons (fun e=>by rw[h2]at e;cases e) (.cons id .nil))<|AE<|Az ?_
  first|rfl|(simp only[h2,Z5F,mi,mj]<;>rfl)
 refine B4 (⟨Rp,[Hj,(6,.cells [.s name,.own 2000 7 ni.length,.own 2003 2 (Z5I l v5).length] 82),(NY ni),(2003,.row 2 (Z5I l v5).length (AL BU.c (Z5I l v5)) 180)]⟩) ?_ ?_
 ·refine BC (bif bif decide (((W64 (2+(AB (AF.mk l 0) 5).1)):Int)=6)then decide ((0:Int)<((Z5C l v5).length:Int))else false then(bif bif decide (((W64 (2+(AB (AF.mk l 0) 5).1)):Int)=6)then decide ((0:Int)<((Z5C l v5).length:Int))else false then decide (((AB (Z5B l v5) 2).1:Int)=1)else false)else(bif bif decide (((W64 (2+(AB (AF.mk l 0) 5).1)):Int)=6)then decide ((0:Int)<((Z5C l v5).length:Int))else false then false else false)) kr (fun h2=>?_) (fun h2=>?_)
  ·refine dO [] [(152,(Z5G l v5)),(153,Di 5),(163,Di 4)] [none,CQ (.cells (AF.c (Z5F l v5)) 117),none,0<=(0:Int)/\(0:Int)<((Z5C l v5).length:Int),0<(Z5C l v5).length,0<=(0:Int)/\(0:Int)<(((Z5C l v5).getD 0 default).Legs.length:Int),none,0<=(0:Int)/\(0:Int)<((Z5C l v5).length:Int),0<(Z5C l v5).length,0<=(1:Int)/\(1:Int)<(((Z5C l v5).getD 0 default).Legs.length:Int),(Z5C l v5).length=(Z5C l v5).length,(Z5C l v5).length+1<=maxLen,((Z5C l v5).length+1)*32<=140737488355328] ⟨Rp,[(4,Z4X),(6,.cells [.s name,.own 2000 7 ni.length,.own 176 2 ((Z5C l v5).length+1)] 82),(176,.row 2 ((Z5C l v5).length+1) (fun i_ j_=>if i_<(Z5C l v5).length then(AL BU.c (Z5C l v5)) i_ j_ else(A9 2 1 [.i (AB (Z5F l v5) 3).1,.list true 2 2 (A9 2 2 [.s (Ap 5),.i (((Z5C l v5).getD 0 default).Legs.getD 0 default).Group,.s (Ap 4),.i (((Z5C l v5).getD 0 default).Legs.getD 1 default).Group])]) (i_-(Z5C l v5).length) j_) 180),(2000,Z59 ni)]⟩ (.cons (cWr (Bp (Z5F l v5) 3 au10 au13)) (.cons (Fi 5 au15) (.cons (Fi 4 au15) .nil))) (.cons rfl (.cons ⟨by decide,(KG (by with_reducible assumption))⟩ (.cons (gI (KG (by with_reducible assumption))) (.cons (gW m4 rfl rfl rfl (KG (by with_reducible assumption))) (.cons ⟨by decide,(KG (by with_reducible assumption))⟩ (.cons (gI (KG (by with_reducible assumption))) (.cons (gW m4 rfl rfl rfl (KG (by with_reducible assumption))) (.cons rfl (.cons (uP (Uw rfl)) (.cons (uQ (Uw rfl)) .nil))))))))))<|AE ?_
   refine Cv.trans (DD (⟨Rp,[(4,Z4X),(6,.cells [.s name,.own 2000 7 ni.length,.own 176 2 ((Z5C l v5)++[BU.mk (AB (Z5F l v5) 3).1 [CF.mk (Ap 5) (((Z5C l v5).getD 0 default).Legs.getD 0 default).Group,CF.mk (Ap 4) (((Z5C l v5).getD 0 default).Legs.getD 1 default).Group]]).length] 82),(176,Z5H l v5),(2000,Z59 ni)]⟩) lr (rz (.cons ⟨rfl,.cells _ (rr2 (.cons (.own _ _ au17) .nil))⟩ (.cons ⟨rfl,CS 180 (Ac (AU 2 BU.c (Z5C l v5)) (Dn (c:=BU.c) (xs:=([BU.mk (AB (Z5F l v5) 3).1 [CF.mk (Ap 5) (((Z5C l v5).getD 0 default).Legs.getD 0 default).Group,CF.mk (Ap 4) (((Z5C l v5).getD 0 default).Legs.getD 1 default).Group]]:List BU)) (y:=[[.i (AB (Z5F l v5) 3).1,.list true 2 2 (A9 2 2 [.s (Ap 5),.i (((Z5C l v5).getD 0 default).Legs.getD 0 default).Group,.s (Ap 4),.i (((Z5C l v5).getD 0 default).Legs.getD 1 default).Group])]]) (z:=[[.i (AB (Z5F l v5) 3).1,lst 2 CF.c [CF.mk (Ap 5) (((Z5C l v5).getD 0 default).Legs.getD 0 default).Group,CF.mk (Ap 4) (((Z5C l v5).getD 0 default).Legs.getD 1 default).Group]]]) rfl kr kr (.cons (rr (.cons (BO true (BN (c:=CF.c) (xs:=([CF.mk (Ap 5) (((Z5C l v5).getD 0 default).Legs.getD 0 default).Group,CF.mk (Ap 4) (((Z5C l v5).getD 0 default).Legs.getD 1 default).Group]:List CF)) rfl kr)) .nil)) .nil)))⟩ lr)))) (Cv.trans (vr 176 2003 hk0) (Cv.trans (ck (⟨Rp,[(4,Z4X),(6,Z5O name ni l v5),(2000,Z59 ni),(2003,Z5H l v5)]⟩)) (Az ?_)))
   first|rfl|(simp only[h2,Z5I,mi,mj]<;>rfl)
  refine AP<|AE<|Cv.trans (vk [4,6] [4,6,2000,2002]) (Cv.trans (wr (⟨Rp,[(4,Z4X),(6,.cells [.s name,.own 2000 7 ni.length,.own 2003 2 (Z5C l v5).length] 82),(2000,Z59 ni),(2003,Z5E l v5)]⟩) 2002 2003 hk0) (Az ?_))
  first|rfl|(simp only[h2,Z5I,mi,mj]<;>rfl)
 exact AA<|on<|AO<|zy (Cv.trans (vf 2000 hk0) (vf 2003 hk0)) (by rw[<- ng];simp only[Dx,h1,mi,mj]<;>kernel_rfl)
theorem Ya(l:(List Int))(name:my)(hl:(l.length:Int)<=9223372036854775807):OKc (RR l name):=cPu<|zH l name hl
def Mq(x0:AG)(x1:AG):AK:=AK.mk 1 x0 x1 (AG.mk 0 0)
def iG:CT:=(94,[.agg (AG.c x0),.agg (AG.c x1)],.val [] (.av (.agg (AK.c (Mq x0 x1)))))
theorem yP(x0:AG)(x1:AG):PuP 94 (iG x0 x1).2.1 (.av (.agg (AK.c (Mq x0 x1)))):=by
 refine pwf Tryz.func94 fun W0 M0=>?_;exact AA<|on<|AA<|on<|AO<|zl
theorem OQ(x0:AG)(x1:AG):OKc (iG x0 x1):=cPu<|yP x0 x1
def Z5P:Blk:=.cells [.i 0,vN,.i 0] 28
def Z5Q:Blk:=.cells [.i 2,vN,.i 0] 28
def Z5R:Blk:=.cells [.i (W64 (r.X1-nd)),.i (W64 (r.Y0+nd)),.i (W64 (r.X1-nd)),.i (W64 (r.Y1-nd)),.i (W64 (r.X0+nd)),.i (W64 (r.Y1-nd)),.i (W64 (r.X0+nd)),.i (W64 (r.Y0+nd))] 199
def Z5S:AK:=GZ (AG.mk (W64 (r.X1-nd)) (W64 (r.Y0+nd))) nd 3 2
def Z5T:AK:=GZ (AG.mk (W64 (r.X1-nd)) (W64 (r.Y1-nd))) nd 4 2
def Z5V:AK:=Mq (Z5S r nd).B (Z5T r nd).A
def Z5W:Blk:=.cells [.i 2,.own 77 7 ([Z5S r nd,Z5V r nd].length),.i 0] 28
def Z5X:Blk:=.row 7 ([Z5S r nd,Z5V r nd].length) (AL AK.c [Z5S r nd,Z5V r nd]) 68
def Z5Y:Blk:=.cells [.i 2,.own 2000 7 ([Z5S r nd,Z5V r nd].length),.i 0] 28
def Z5Z:AK:=GZ (AG.mk (W64 (r.X0+nd)) (W64 (r.Y1-nd))) nd 5 2
def Z61:AK:=Mq (Z5T r nd).B (Z5Z r nd).A
def Z62:Blk:=.cells [.i 2,.own 77 7 ([Z5S r nd,Z5V r nd]++[Z5T r nd,Z61 r nd]).length,.i 0] 28
def Z63:Blk:=.row 7 ([Z5S r nd,Z5V r nd]++[Z5T r nd,Z61 r nd]).length (AL AK.c ([Z5S r nd,Z5V r nd]++[Z5T r nd,Z61 r nd])) 68
def Z64:Blk:=.cells [.i 2,.own 2001 7 ([Z5S r nd,Z5V r nd]++[Z5T r nd,Z61 r nd]).length,.i 0] 28
def Z65:AK:=GZ (AG.mk (W64 (r.X0+nd)) (W64 (r.Y0+nd))) nd 6 2
def Z67:AK:=Mq (Z5Z r nd).B (Z65 r nd).A
def Z69:Blk:=.row 7 (([Z5S r nd,Z5V r nd]++[Z5T r nd,Z61 r nd])++[Z5Z r nd,Z67 r nd]).length (AL AK.c (([Z5S r nd,Z5V r nd]++[Z5T r nd,Z61 r nd])++[Z5Z r nd,Z67 r nd])) 68
def Z6b:AK:=GZ (AG.mk (W64 (r.X1-nd)) (W64 (r.Y0+nd))) nd 7 2
def Z6c:AK:=Mq (Z65 r nd).B (Z6b r nd).A
def Z6e:Blk:=.row 7 ((([Z5S r nd,Z5V r nd]++[Z5T r nd,Z61 r nd])++[Z5Z r nd,Z67 r nd])++[Z65 r nd,Z6c r nd]).length (AL AK.c ((([Z5S r nd,Z5V r nd]++[Z5T r nd,Z61 r nd])++[Z5Z r nd,Z67 r nd])++[Z65 r nd,Z6c r nd])) 68
def Ii(r:Al)(nd:Int):AQ:=AQ.mk 2 ((([Z5S r nd,Z5V r nd]++[Z5T r nd,Z61 r nd])++[Z5Z r nd,Z67 r nd])++[Z65 r nd,Z6c r nd]) 0
def VH:CT:=(43,[.agg (Al.c r),.one (.i nd)],.val [] (.av (.agg (AQ.c (Ii r nd)))))
abbrev KR(t_:List (Nat×Tv)):List (Nat×Tv):=(1,tI nd)::(4,tP 4 0)::(5,tP 5 0)::(6,tP 6 0)::t_
theorem jU(r:Al)(nd:Int):PuP 43 (VH r nd).2.1 (.av (.agg (AQ.c (Ii r nd)))):=by
 refine pwf Tryz.func43 fun W0 M0=>?_;refine AA<|on<|AA<|on<|AA<|on<|AA<|AA<|rn ⟨(KR nd [(7,tI 0)]),[(4,Z5P),(5,Z5Q),(6,Z5R r nd)]⟩<|AJ<|Dq 5<|Bs<|AA<|AA<|on<|CN kr<|AP<|AE<|AA<|AJ<|AA<|oo _ [0<=(0:Int)/\(0:Int)<(4:Int),none] (J1 58 (E0 (AG.mk (W64 (r.X1-nd)) (W64 (r.Y0+nd))) nd 3 2)) (H1 m4)<|AE<|AA<|oo _ [(4:Int)≠0,0<=(1:Int)/\(1:Int)<(4:Int),none] (J1 67 (E0 (AG.mk (W64 (r.X1-nd)) (W64 (r.Y1-nd))) nd 4 2)) (H2 au11 m4)<|AE<|oe [] _ [none,2<=maxLen,2*56<=140737488355328] (J1 75 (OQ (Z5S r nd).B (Z5T r nd).A)) (H2 au2 au2)<|Ao<|AE<|AZ (Ag 77 (Ai 7 AK.c ([Z5S r nd,Z5V r nd]:List AK)))<|rn ⟨(KR nd [(7,tI 1)]),[(4,Z5P),(5,Z5W r nd),(6,Z5R r nd),(77,Z5X r nd)]⟩<|Bs<|AZ (wr (⟨(KR nd [(7,tI 1)]),[(4,Z5P),(5,Z5Y r nd),(6,Z5R r nd),(2000,Z5X r nd)]⟩) 77 2000 hk0)<|AA<|AA<|on<|CN kr<|AP<|AE<|AA<|AJ<|AA ?_
 refine oo _ [0<=(1:Int)/\(1:Int)<(4:Int),none] (J1 58 (E0 (AG.mk (W64 (r.X1-nd)) (W64 (r.Y1-nd))) nd 4 2)) (H1 m4)<|AE<|AA<|oo _ [(4:Int)≠0,0<=(2:Int)/\(2:Int)<(4:Int),none] (J1 67 (E0 (AG.mk (W64 (r.X0+nd)) (W64 (r.Y1-nd))) nd 5 2)) (H2 au11 m4)<|AE<|oe [] _ [none,[Z5S r nd,Z5V r nd].length=[Z5S r nd,Z5V r nd].length,([Z5S r nd,Z5V r nd].length)+2<=maxLen,(([Z5S r nd,Z5V r nd].length)+2)*56<=140737488355328] (J1 75 (OQ (Z5T r nd).B (Z5Z r nd).A)) (H3 rfl au2 au2)<|Ao<|AE<|AZ (Ag 77 (Ac (AU 7 AK.c [Z5S r nd,Z5V r nd]) (Ai 7 AK.c ([Z5T r nd,Z61 r nd]:List AK))))<|rn ⟨(KR nd [(7,tI 2)]),[(4,Z5P),(5,Z62 r nd),(6,Z5R r nd),(77,Z63 r nd)]⟩<|Bs<|AZ (wr (⟨(KR nd [(7,tI 2)]),[(4,Z5P),(5,Z64 r nd),(6,Z5R r nd),(2001,Z63 r nd)]⟩) 77 2001 hk0)<|AA<|AA<|on<|CN kr<|AP<|AE<|AA<|AJ<|AA<|oo _ [0<=(2:Int)/\(2:Int)<(4:Int),none] (J1 58 (E0 (AG.mk (W64 (r.X0+nd)) (W64 (r.Y1-nd))) nd 5 2)) (H1 m4)<|AE<|AA ?_
 refine oo _ [(4:Int)≠0,0<=(3:Int)/\(3:Int)<(4:Int),none] (J1 67 (E0 (AG.mk (W64 (r.X0+nd)) (W64 (r.Y0+nd))) nd 6 2)) (H2 au11 m4)<|AE<|oe [] _ [none,([Z5S r nd,Z5V r nd]++[Z5T r nd,Z61 r nd]).length=([Z5S r nd,Z5V r nd]++[Z5T r nd,Z61 r nd]).length,([Z5S r nd,Z5V r nd]++[Z5T r nd,Z61 r nd]).length+2<=maxLen,(([Z5S r nd,Z5V r nd]++[Z5T r nd,Z61 r nd]).length+2)*56<=140737488355328] (J1 75 (OQ (Z5Z r nd).B (Z65 r nd).A)) (H3 rfl au2 au2)<|Ao<|AE<|AZ (Ag 77 (Ac (AU 7 AK.c ([Z5S r nd,Z5V r nd]++[Z5T r nd,Z61 r nd])) (Ai 7 AK.c ([Z5Z r nd,Z67 r nd]:List AK))))<|rn ⟨(KR nd [(7,tI 3)]),[(4,Z5P),(5,.cells [.i 2,.own 77 7 (([Z5S r nd,Z5V r nd]++[Z5T r nd,Z61 r nd])++[Z5Z r nd,Z67 r nd]).length,.i 0] 28),(6,Z5R r nd),(77,Z69 r nd)]⟩<|Bs<|AZ (wr (⟨(KR nd [(7,tI 3)]),[(4,Z5P),(5,.cells [.i 2,.own 2002 7 (([Z5S r nd,Z5V r nd]++[Z5T r nd,Z61 r nd])++[Z5Z r nd,Z67 r nd]).length,.i 0] 28),(6,Z5R r nd),(2002,Z69 r nd)]⟩) 77 2002 hk0)<|AA<|AA<|on<|CN kr<|AP<|AE<|AA ?_
 refine AJ<|AA<|oo _ [0<=(3:Int)/\(3:Int)<(4:Int),none] (J1 58 (E0 (AG.mk (W64 (r.X0+nd)) (W64 (r.Y0+nd))) nd 6 2)) (H1 m4)<|AE<|AA<|oo _ [(4:Int)≠0,0<=(0:Int)/\(0:Int)<(4:Int),none] (J1 67 (E0 (AG.mk (W64 (r.X1-nd)) (W64 (r.Y0+nd))) nd 7 2)) (H2 au11 m4)<|AE<|oe [] _ [none,(([Z5S r nd,Z5V r nd]++[Z5T r nd,Z61 r nd])++[Z5Z r nd,Z67 r nd]).length=(([Z5S r nd,Z5V r nd]++[Z5T r nd,Z61 r nd])++[Z5Z r nd,Z67 r nd]).length,(([Z5S r nd,Z5V r nd]++[Z5T r nd,Z61 r nd])++[Z5Z r nd,Z67 r nd]).length+2<=maxLen,((([Z5S r nd,Z5V r nd]++[Z5T r nd,Z61 r nd])++[Z5Z r nd,Z67 r nd]).length+2)*56<=140737488355328] (J1 75 (OQ (Z65 r nd).B (Z6b r nd).A)) (H3 rfl au2 au2)<|Ao<|AE<|AZ (Ag 77 (Ac (AU 7 AK.c (([Z5S r nd,Z5V r nd]++[Z5T r nd,Z61 r nd])++[Z5Z r nd,Z67 r nd])) (Ai 7 AK.c ([Z65 r nd,Z6c r nd]:List AK)))) ?_
 exact rn ⟨(KR nd [(7,tI 4)]),[(4,Z5P),(5,.cells [.i 2,.own 77 7 ((([Z5S r nd,Z5V r nd]++[Z5T r nd,Z61 r nd])++[Z5Z r nd,Z67 r nd])++[Z65 r nd,Z6c r nd]).length,.i 0] 28),(6,Z5R r nd),(77,Z6e r nd)]⟩<|Bs<|AZ (wr (⟨(KR nd [(7,tI 4)]),[(4,Z5P),(5,.cells [.i 2,.own 2003 7 ((([Z5S r nd,Z5V r nd]++[Z5T r nd,Z61 r nd])++[Z5Z r nd,Z67 r nd])++[Z65 r nd,Z6c r nd]).length,.i 0] 28),(6,Z5R r nd),(2003,Z6e r nd)]⟩) 77 2003 hk0)<|AA<|AA<|on<|An kr<|Aw<|Aj<|Aj<|Ay<|AE<|AA<|on<|AO<|zy (vf 2003 hk0)
theorem cK(r:Al)(nd:Int):OKc (VH r nd):=cPu<|jU r nd
end
section
open Go.RowKit
theorem Uj(l:List Int)(name:my):∀(n:Nat) (v:List Bc) (d:AF) (k:Int),0<=k->k<=W64 (2+(AB (AF.mk l 0) 5).1)->((W64 (2+(AB (AF.mk l 0) 5).1))-k).toNat<n ->
  (Dx l name n v d k).Name=name/\((Dx l name n v d k).Pads.length:Int)=v.length+(W64 (2+(AB (AF.mk l 0) 5).1)-k)
 |0,v,d,k,_,_,h=>absurd h (lw _)
 |n+1,v,d,k,h0,h1,h2=>by
  unfold Dx
  by_cases h:k<W64 (2+(AB (AF.mk l 0) 5).1)
  ·simp only[h,ml,mi];obtain⟨e1,e2⟩:=Uj l name n (v++[_]) _ (k+1) mz mz mz;refine⟨e1,e2.trans ?_⟩;simp only[d9,j8,j9];omega
  simp only[h,mm,mj];refine⟨by first|trivial|rfl,?_⟩;show(v.length:Int)=_;omega
theorem HM(l:List Int)(name:my):(BM l name).Name=name/\2<=((BM l name).Pads.length:Int)/\((BM l name).Pads.length:Int)<=6:=by
 have hn:=D5 (AF.mk l 0) 5 m4 m4;have hw:W64 (2+(AB (AF.mk l 0) 5).1)=2+(AB (AF.mk l 0) 5).1:=Ae mz mz;obtain⟨e1,e2⟩:=Uj l name (((W64 (2+(AB (AF.mk l 0) 5).1))-0).toNat+1) [] (AB (AF.mk l 0) 5).2 0 mz mz mz;refine⟨e1,?_⟩;unfold BM;rw[e2,hw];simp only[j9];omega
theorem Uv{a c:AN}:Bq [a,c] a.Name=(a,true):=by
 unfold Bq Et;simp[Z14]
theorem Uu{a c:AN}(h:¬ a.Name.toList=c.Name.toList):Bq [a,c] c.Name=(c,true):=by
 have hb:(a.Name.toList==c.Name.toList)=false:=by simp[h]
 unfold Bq Et;simp[Et,Z14,hb]
def ZU(m9:List AN)(xs:List AD):Prop:=∀k:Int,0<=k->k<(xs.length:Int)->1<=((Bq m9 (xs.getD k.toNat default).Type').1.Pads.length:Int)/\((Bq m9 (xs.getD k.toNat default).Type').1.Pads.length:Int)<=6
theorem fM{m9:List AN}:ZU m9 ([]:List AD):=fun k h0 h1=>absurd h1 (by simp only[j9];omega)
theorem fN{m9:List AN}{xs:List AD}{p:AD}(h:ZU m9 xs)(hp:1<=((Bq m9 p.Type').1.Pads.length:Int)/\((Bq m9 p.Type').1.Pads.length:Int)<=6):ZU m9 (xs++[p]):=by
 intro k h0 h1;simp only[d9,j8,j9]at h1
 by_cases hk:k.toNat<xs.length
 ·rw[aE,la hk,<- aE];exact h k h0 oM
 rw[aE,kz oM,show k.toNat-xs.length=0 by omega];exact hp
theorem UO(a c:List Int)(i:Int)(hi:0<=i/\i<2):1<=((Bq [BM a ⟨#[82]⟩,BM c ⟨#[81]⟩] (([BM a ⟨#[82]⟩,BM c ⟨#[81]⟩]:List AN).getD i.toNat default).Name).1.Pads.length:Int)/\((Bq [BM a ⟨#[82]⟩,BM c ⟨#[81]⟩] (([BM a ⟨#[82]⟩,BM c ⟨#[81]⟩]:List AN).getD i.toNat default).Name).1.Pads.length:Int)<=6:=by
 have ha:=HM a ⟨#[82]⟩;have hc:=HM c ⟨#[81]⟩;have h01:i=0\/i=1:=by omega
 rcases h01 with rfl|rfl
 ·show 1<=((Bq [BM a ⟨#[82]⟩,BM c ⟨#[81]⟩] (BM a ⟨#[82]⟩).Name).1.Pads.length:Int)/\((Bq [BM a ⟨#[82]⟩,BM c ⟨#[81]⟩] (BM a ⟨#[82]⟩).Name).1.Pads.length:Int)<=6;rw[Uv];exact⟨by show 1<=((BM a ⟨#[82]⟩).Pads.length:Int);omega,ha.2.2⟩
 show 1<=((Bq [BM a ⟨#[82]⟩,BM c ⟨#[81]⟩] (BM c ⟨#[81]⟩).Name).1.Pads.length:Int)/\((Bq [BM a ⟨#[82]⟩,BM c ⟨#[81]⟩] (BM c ⟨#[81]⟩).Name).1.Pads.length:Int)<=6;rw[Uu (by rw[ha.1,hc.1];decide +kernel)];exact⟨by show 1<=((BM c ⟨#[81]⟩).Pads.length:Int);omega,hc.2.2⟩
theorem kK{d:AF}(h:(AB d 5).1<3)(h0:¬ (AB d 5).1=0)(h1:¬ (AB d 5).1=1):(AB d 5).1=2:=by
 have:=D5 d 5 m4 m4;omega
theorem rI{b:AC}{m9:List AN}(h:ZU m9 b.Parts):RU b m9:=fun k h0 h1=>(h k h0 h1).1
def EB(v:List Ab)(m:Int):Prop:=(v.length:Int)<=m
theorem GH{α:Type}{c:Bool}{a b:List α}{m:Int}(ha:(a.length:Int)<=m)(hb:(b.length:Int)<=m):((bif c then a else b).length:Int)<=m:=by cases c<;>assumption
theorem GI{α:Type}{a:List α}{x:α}{m:Int}(h:(a.length:Int)+1<=m):((a++[x]).length:Int)<=m:=by simp only[d9,j8,j9];omega
theorem ew{d:AF}{a c:AN}:0<=(AB d 2).1/\(AB d 2).1<(([a,c]:List AN).length:Int):=D5 d 2 m4 m4
theorem pY{v:Int}{a b c:my}(h0:0<=v)(h:v<3):0<=v/\v<(([a,b,c]:List my).length:Int):=⟨h0,h⟩
theorem gn{b B:AC}(h:On b B)(hb:(b.Parts.length:Int)<=1000000):(B.Parts.length:Int)<=1000000:=by rw[h.par];exact hb
theorem zK{b B:AC}(h:On b B)(hb:1<=(b.Parts.length:Int)):1<=(B.Parts.length:Int):=by rw[h.par];exact hb
theorem gc{b B:AC}(h:On b B):(B.Tracks.length:Int)<=1000000:=by have:=h.trk;omega
theorem f9{b B:AC}(h:On b B):(B.Vias.length:Int)<=1000000:=by have:=h.via;omega
theorem gl{b B:AC}(h:On b B):(B.Pours.length:Int)<=1000000:=by have:=h.pou;omega
theorem go{b B:AC}(h:On b B):(B.Keeps.length:Int)<=1000000:=by have:=h.kee;omega
theorem gh{b B:AC}(h:On b B):(B.Slots.length:Int)<=1000000:=by have:=h.slo;omega
variable (nc:List AD)(n9:List Ab)(nj:AF)(na:Int)(l:List (List Int))(nu n8 nw:List Ab)(v8:Int)(oa:List Ab)(nb:Int)(nx:List Ab)(v5:AF)
def Z6g:Tv:=.av (oL l)
abbrev IA:List Cl:=[.i 0,.i 0,vN,.i 0,vN,vN,vN,vN,vN,vN,vN,vN,vN,vN,vN]
def Z6h:Blk:=.cells IA 41
def Z6i:AN:=BM (Ah l 0) (⟨#[82]⟩:my)
def Z6j:AN:=BM (Ah l 1) (⟨#[81]⟩:my)
def Z6k:Tv:=.av (.one (lst 3 AN.c [Z6i l,Z6j l]))
def Z6l:Blk:=.cells [lst 1 eIn (Ah l 2),.i 0] 117
abbrev Jj:=Al.mk 0 0 400 400
def Z6m:Blk:=.cells [.i 2,.i (I9 Jj).Kind,lst 7 AK.c (I9 Jj).Edges,.i (I9 Jj).R,vN,.own 31 2 3,vN,vN,vN,vN,vN,vN,vN,vN,vN] 41
def Z6n:Blk:=.rowx 2 3 m8 120 [(0,[.s (⟨#[78,49]⟩:my),vN]),(1,[.s (⟨#[78,50]⟩:my),vN]),(2,[.s (⟨#[71,78,68]⟩:my),vN])]
abbrev Jn:=AB (AF.mk (Ah l 2) 0) 3
def Z6o:CT:=(42,(GU:List Av).map (CH 1000 25),wrI 25 (.cells [lst 1 eIn (Ah l 2),.i 0] 117) (tI (Jn l).1) (.cells (AF.c (Jn l).2) 117))
def Z6p:Blk:=.cells (AF.c (Jn l).2) 117
def Z6q:AQ:=bif decide (((AB (AF.mk (Ah l 2) 0) 3).1:Int)=0)then(Ii (Al.mk 0 0 400 400) 50)else(I9 (Al.mk 0 0 400 400))
abbrev IB:=AB (Jn l).2 3
def Z6r:CT:=(42,(GU:List Av).map (CH 1000 25),wrI 25 (.cells (AF.c (Jn l).2) 117) (tI (IB l).1) (.cells (AF.c (IB l).2) 117))
abbrev Z6s:AF:=(AB (AB (AF.mk (Ah l 2) 0) 3).2 3).2
def Z6t:Tv:=tI (W64 (1+(IB l).1))
abbrev KS(t_:List Cl):List Cl:=(.i 2)::(.i (Z6q l).Kind)::(lst 7 AK.c (Z6q l).Edges)::(.i (Z6q l).R)::t_
def Z6u:Blk:=.cells (KS l [vN,.own 31 2 3,vN,vN,vN,vN,vN,vN,vN,vN,vN]) 41
def Z6v:Blk:=.cells [lst 1 eIn (Ah l 3),.i 0] 117
def Z6y(l:(List (List Int)))(nc:List AD):Blk:=.cells (KS l [.own 2000 7 nc.length,.own 31 2 3,vN,vN,vN,vN,vN,vN,vN,vN,vN]) 41
def Z6z:Blk:=.row 7 nc.length (AL AD.c nc) 78
def Z6A:CT:=(42,HA.map (CH 1000 25),wrI 25 (PK v5) (tI (AB v5 2).1) (PV v5))
abbrev IE:=AB (AB v5 2).2 4
def Z6B:CT:=(42,Jb.map (CH 1000 25),wrI 25 (PV v5) (tI (IE v5).1) (.cells (AF.c (IE v5).2) 117))
def Z6C:CT:=(42,(GU:List Av).map (CH 1000 25),wrI 25 (.cells (AF.c (IE v5).2) 117) (tI (AB (IE v5).2 3).1) (.cells (AF.c (AB (IE v5).2 3).2) 117))
abbrev Z6D:AF:=(AB (AB (AB v5 2).2 4).2 3).2
def Z6E:CT:=(42,NQ.map (CH 1000 25),wrI 25 (.cells (AF.c (Z6D v5)) 117) (tI (AB (Z6D v5) 5).1) (.cells (AF.c (AB (Z6D v5) 5).2) 117))
def Z6F:CT:=(42,(GU:List Av).map (CH 1000 25),wrI 25 (.cells (AF.c (AB (Z6D v5) 5).2) 117) (tI (AB (AB (Z6D v5) 5).2 3).1) (.cells (AF.c (AB (AB (Z6D v5) 5).2 3).2) 117))
abbrev Z6G:AF:=(AB (AB (Z6D v5) 5).2 3).2
def Z6H:CT:=(42,(GU:List Av).map (CH 1000 25),wrI 25 (.cells (AF.c (Z6G v5)) 117) (tI (AB (Z6G v5) 3).1) (.cells (AF.c (AB (Z6G v5) 3).2) 117))
def Z6I:Blk:=.cells (AF.c (AB (Z6G v5) 3).2) 117
abbrev Xp:=AG.mk (W64 ((W64 (80+(W64 (100*v8))))+(W64 (5*(AB (Z6D v5) 5).1)))) (W64 ((W64 (100+(W64 (80*(AB (AB (Z6D v5) 5).2 3).1))))+(W64 (5*(AB (Z6G v5) 3).1))))
abbrev R9:Bool:=(decide (((AB (IE v5).2 3).1:Int)=0))
def Z6J(l:(List (List Int)))(nc:List AD)(v8:Int)(v5:AF):Blk:=.cells (KS l [.own 86 7 (nc++[AD.mk (W64 (1+v8)) (([(⟨#[82,49]⟩:my),(⟨#[82,50]⟩:my),(⟨#[120,47,82,49]⟩:my)]:List my).getD v8.toNat ⟨#[]⟩) ([Z6i l,Z6j l].getD (AB v5 2).1.toNat default).Name (Xp v8 v5) (IE v5).1 (R9 v5)]).length,.own 31 2 3,vN,vN,vN,vN,vN,vN,vN,vN,vN]) 41
def Z6K(nc:List AD)(v8:Int)(l:(List (List Int)))(v5:AF):Blk:=.row 7 (nc++[AD.mk (W64 (1+v8)) (([(⟨#[82,49]⟩:my),(⟨#[82,50]⟩:my),(⟨#[120,47,82,49]⟩:my)]:List my).getD v8.toNat ⟨#[]⟩) ([Z6i l,Z6j l].getD (AB v5 2).1.toNat default).Name (Xp v8 v5) (IE v5).1 (R9 v5)]).length (AL AD.c (nc++[AD.mk (W64 (1+v8)) (([(⟨#[82,49]⟩:my),(⟨#[82,50]⟩:my),(⟨#[120,47,82,49]⟩:my)]:List my).getD v8.toNat ⟨#[]⟩) ([Z6i l,Z6j l].getD (AB v5 2).1.toNat default).Name (Xp v8 v5) (IE v5).1 (R9 v5)])) 78
def Z6L:Blk:=.row 2 ([]:List Ab).length (AL Ab.c ([]:List Ab)) 106
def Z6M:Blk:=.row 2 nu.length (AL Ab.c nu) 106
def Z6N:Blk:=.row 2 nw.length (AL Ab.c nw) 106
def Z6O:Blk:=.row 2 nx.length (AL Ab.c nx) 106
def Z6P(l:(List (List Int)))(nc:List AD):Blk:=.cells (KS l [lst 7 AD.c nc,.own 31 2 3,vN,vN,vN,vN,vN,vN,vN,vN,vN]) 41
def Z6R(l:(List (List Int)))(nc:List AD)(na:Int):AN:=(Bq [Z6i l,Z6j l] (nc.getD na.toNat default).Type').1
def Z6T:Blk:=.row 2 n9.length (AL Ab.c n9) 106
def Z6U:Blk:=.row 2 n8.length (AL Ab.c n8) 106
def Z6V:Blk:=.row 2 oa.length (AL Ab.c oa) 106
def Z6W:CT:=(42,NQ.map (CH 1000 91),wrI 91 (.cells (AF.c nj) 117) (tI (AB nj 5).1) (.cells (AF.c (AB nj 5).2) 117))
abbrev Hl:=[Ab.mk (nc.getD na.toNat default).Ref ((Z6R l nc na).Pads.getD nb.toNat default).Name]
def Z6X(n9:List Ab)(nc:List AD)(na:Int)(l:(List (List Int)))(nb:Int):Blk:=.row 2 (n9++(Hl nc na l nb)).length (AL Ab.c (n9++(Hl nc na l nb))) 106
def Z6Y(n8:List Ab)(nc:List AD)(na:Int)(l:(List (List Int)))(nb:Int):Blk:=.row 2 (n8++(Hl nc na l nb)).length (AL Ab.c (n8++(Hl nc na l nb))) 106
def Z70(nj:AF)(n9:List Ab)(nc:List AD)(na:Int)(l:(List (List Int)))(nb:Int):(List Ab):=bif decide (((AB nj 5).1:Int)<3)then(bif decide (((AB nj 5).1:Int)=0)then(n9++[Ab.mk (nc.getD na.toNat default).Ref ((Z6R l nc na).Pads.getD nb.toNat default).Name])else n9)else n9
def Z71(nj:AF)(n8:List Ab)(nc:List AD)(na:Int)(l:(List (List Int)))(nb:Int):(List Ab):=bif decide (((AB nj 5).1:Int)<3)then(bif decide (((AB nj 5).1:Int)=0)then n8 else(bif decide (((AB nj 5).1:Int)=1)then(n8++[Ab.mk (nc.getD na.toNat default).Ref ((Z6R l nc na).Pads.getD nb.toNat default).Name])else n8))else n8
def Z72(nj:AF)(oa:List Ab)(nc:List AD)(na:Int)(l:(List (List Int)))(nb:Int):(List Ab):=bif decide (((AB nj 5).1:Int)<3)then(bif decide (((AB nj 5).1:Int)=0)then oa else(bif decide (((AB nj 5).1:Int)=1)then oa else(oa++[Ab.mk (nc.getD na.toNat default).Ref ((Z6R l nc na).Pads.getD nb.toNat default).Name])))else oa
def Z73(nj:AF)(n9:List Ab)(nc:List AD)(na:Int)(l:(List (List Int)))(nb:Int):Blk:=.row 2 (Z70 nj n9 nc na l nb).length (AL Ab.c (Z70 nj n9 nc na l nb)) 106
def Z74(nj:AF)(n8:List Ab)(nc:List AD)(na:Int)(l:(List (List Int)))(nb:Int):Blk:=.row 2 (Z71 nj n8 nc na l nb).length (AL Ab.c (Z71 nj n8 nc na l nb)) 106
def Z75(nj:AF)(oa:List Ab)(nc:List AD)(na:Int)(l:(List (List Int)))(nb:Int):Blk:=.row 2 (Z72 nj oa nc na l nb).length (AL Ab.c (Z72 nj oa nc na l nb)) 106
def Z76(l:(List (List Int)))(nc:List AD)(nu:List Ab)(nw:List Ab)(nx:List Ab):AC:=BW (AC.mk 2 (Z6q l) nc [A7.mk (⟨#[78,49]⟩:my) nu,A7.mk (⟨#[78,50]⟩:my) nw,A7.mk (⟨#[71,78,68]⟩:my) nx] [] [] [] [] [] [] [] [] []) [Z6i l,Z6j l] l
abbrev eU(l:List (List Int))(nc:List AD)(nu:List Ab)(nw:List Ab)(nx:List Ab):List Cl:=[.i (Z76 l nc nu nw nx).Layers,.i (Z76 l nc nu nw nx).Outline.Kind,lst 7 AK.c (Z76 l nc nu nw nx).Outline.Edges,.i (Z76 l nc nu nw nx).Outline.R,lst 7 AD.c (Z76 l nc nu nw nx).Parts,lst 2 A7.c (Z76 l nc nu nw nx).Nets,lst 6 AM.c (Z76 l nc nu nw nx).Tracks,lst 8 Ak.c (Z76 l nc nu nw nx).Vias,lst 8 A8.c (Z76 l nc nu nw nx).Pours,lst 5 BA.c (Z76 l nc nu nw nx).Keeps,lst 4 AX.c (Z76 l nc nu nw nx).Slots,vN,vN,vN,vN]
def Z77(l:(List (List Int)))(nc:List AD)(nu:List Ab)(nw:List Ab)(nx:List Ab):CT:=(44,([.one (.ptr 1000 0),.one (lst 3 AN.c [Z6i l,Z6j l]),.one (lst 1 (fun x=>[lst 1 eIn x]) l)]:List Av).map (CH 1000 6),wrI 6 (.cells (KS l [lst 7 AD.c nc,lst 2 A7.c [A7.mk (⟨#[78,49]⟩:my) nu,A7.mk (⟨#[78,50]⟩:my) nw,A7.mk (⟨#[71,78,68]⟩:my) nx],vN,vN,vN,vN,vN,vN,vN,vN,vN]) 41) (.tup []) (.cells (eU l nc nu nw nx) 41))
def Z78(l:(List (List Int)))(nc:List AD)(nu:List Ab)(nw:List Ab)(nx:List Ab):AC×AF:=DW (AC.mk (Z76 l nc nu nw nx).Layers (Z76 l nc nu nw nx).Outline (Z76 l nc nu nw nx).Parts (Z76 l nc nu nw nx).Nets (Z76 l nc nu nw nx).Tracks (Z76 l nc nu nw nx).Vias (Z76 l nc nu nw nx).Pours (Z76 l nc nu nw nx).Keeps (Z76 l nc nu nw nx).Slots [] [] [] []) (AF.mk (Ah l 7) 0)
def Z79(l:(List (List Int)))(nc:List AD)(nu:List Ab)(nw:List Ab)(nx:List Ab):CT:=(45,(R2:List Av).map (G7 1000 6 1001 151),et 6 151 (.cells (eU l nc nu nw nx) 41) (.cells [lst 1 eIn (Ah l 7),.i 0] 117) (.tup []) (.cells (AC.c (Z78 l nc nu nw nx).1) 41) (.cells (AF.c (Z78 l nc nu nw nx).2) 117))
def Z7a:Blk:=.rowx 2 3 m8 120 [(0,[.s (⟨#[78,49]⟩:my),.own 2001 2 ([]:List Ab).length]),(1,[.s (⟨#[78,50]⟩:my),.own 2002 2 ([]:List Ab).length]),(2,[.s (⟨#[71,78,68]⟩:my),.own 2003 2 ([]:List Ab).length])]
def Z7b:Blk:=.rowx 2 3 m8 120 [(0,[.s (⟨#[78,49]⟩:my),.own 2001 2 nu.length]),(1,[.s (⟨#[78,50]⟩:my),.own 2002 2 nw.length]),(2,[.s (⟨#[71,78,68]⟩:my),.own 2003 2 nx.length])]
def Z7c:Blk:=.rowx 2 3 m8 120 [(0,[.s (⟨#[78,49]⟩:my),.own 2001 2 n9.length]),(1,[.s (⟨#[78,50]⟩:my),.own 2002 2 n8.length]),(2,[.s (⟨#[71,78,68]⟩:my),.own 2003 2 oa.length])]
def Z7d(n9:List Ab)(nc:List AD)(na:Int)(l:(List (List Int)))(nb:Int)(n8:List Ab)(oa:List Ab):Blk:=.rowx 2 3 m8 120 [(0,[.s (⟨#[78,49]⟩:my),.own 2004 2 (n9++(Hl nc na l nb)).length]),(1,[.s (⟨#[78,50]⟩:my),.own 2005 2 n8.length]),(2,[.s (⟨#[71,78,68]⟩:my),.own 2006 2 oa.length])]
def Z7e(n9:List Ab)(n8:List Ab)(nc:List AD)(na:Int)(l:(List (List Int)))(nb:Int)(oa:List Ab):Blk:=.rowx 2 3 m8 120 [(0,[.s (⟨#[78,49]⟩:my),.own 2004 2 n9.length]),(1,[.s (⟨#[78,50]⟩:my),.own 2005 2 (n8++(Hl nc na l nb)).length]),(2,[.s (⟨#[71,78,68]⟩:my),.own 2006 2 oa.length])]
def Z7f(n9:List Ab)(n8:List Ab)(oa:List Ab)(nc:List AD)(na:Int)(l:(List (List Int)))(nb:Int):Blk:=.rowx 2 3 m8 120 [(0,[.s (⟨#[78,49]⟩:my),.own 2004 2 n9.length]),(1,[.s (⟨#[78,50]⟩:my),.own 2005 2 n8.length]),(2,[.s (⟨#[71,78,68]⟩:my),.own 2006 2 (oa++(Hl nc na l nb)).length])]
def EH(l:(List (List Int)))(nc:List AD)(v5:AF)(v8:Int)(nu:List Ab)(nw:List Ab)(nx:List Ab)(nl:AF)(na:Int)(K0:List AD->AF->Int->(AC×(List AN)))(K1:List Ab->List Ab->List Ab->AF->Int->(AC×(List AN))):Nat->List Ab->List Ab->List Ab->AF->Int->(AC×(List AN))
 |0,_,_,_,_,_=>default
 |n2+1,n9,n8,oa,nj,nb=>bif decide ((nb:Int)<((Z6R l nc na).Pads.length:Int))then((EH l nc v5 v8 nu nw nx nl na K0 K1 n2) (Z70 nj n9 nc na l nb) (Z71 nj n8 nc na l nb) (Z72 nj oa nc na l nb) (AB nj 5).2 (nb+1))else(K1 n9 n8 oa nj (na+1))
def Dw(l:(List (List Int)))(nc:List AD)(v5:AF)(v8:Int)(K0:List AD->AF->Int->(AC×(List AN))):Nat->List Ab->List Ab->List Ab->AF->Int->(AC×(List AN))
 |0,_,_,_,_,_=>default
 |n1+1,nu,nw,nx,nl,na=>bif decide ((na:Int)<(W64 (1+(AB (AB (AF.mk (Ah l 2) 0) 3).2 3).1)))then(EH l nc v5 v8 nu nw nx nl na K0 (Dw l nc v5 v8 K0 n1) ((((Z6R l nc na).Pads.length:Int)-0).toNat+1) nu nw nx nl 0)else((Z78 l nc nu nw nx).1,[Z6i l,Z6j l])
def C9(l:(List (List Int))):Nat->List AD->AF->Int->(AC×(List AN))
 |0,_,_,_=>default
 |n0+1,nc,v5,v8=>bif decide ((v8:Int)<(W64 (1+(AB (AB (AF.mk (Ah l 2) 0) 3).2 3).1)))then((C9 l n0) (nc++[AD.mk (W64 (1+v8)) (([(⟨#[82,49]⟩:my),(⟨#[82,50]⟩:my),(⟨#[120,47,82,49]⟩:my)]:List my).getD v8.toNat ⟨#[]⟩) ([Z6i l,Z6j l].getD (AB v5 2).1.toNat default).Name (AG.mk (W64 ((W64 (80+(W64 (100*v8))))+(W64 (5*(AB (Z6D v5) 5).1)))) (W64 ((W64 (100+(W64 (80*(AB (AB (Z6D v5) 5).2 3).1))))+(W64 (5*(AB (Z6G v5) 3).1))))) (AB (AB v5 2).2 4).1 (decide (((AB (AB (AB v5 2).2 4).2 3).1:Int)=0))]) (AB (Z6G v5) 3).2 (v8+1))else(Dw l nc v5 v8 (C9 l n0) (((W64 (1+(AB (AB (AF.mk (Ah l 2) 0) 3).2 3).1))-0).toNat+1) ([]:List Ab) ([]:List Ab) ([]:List Ab) (AF.mk (Ah l 3) 0) 0)
def AW(l:(List (List Int))):(AC×(List AN)):=C9 l (((W64 (1+(AB (AB (AF.mk (Ah l 2) 0) 3).2 3).1))-0).toNat+1) ([]:List AD) (Z6s l) 0
def iP:CT:=(10,[.one (lst 1 (fun x=>[lst 1 eIn x]) l)],.val [] (.tup [.agg (AC.c (AW l).1),.one (lst 3 AN.c (AW l).2)]))
abbrev KT(t_:List (Nat×Tv)):List (Nat×Tv):=(0,Z6g l)::(2,tP 2 0)::(4,Z6k l)::(5,tP 91 0)::(6,tP 6 0)::(7,Z6t l)::t_
abbrev M5(l:List (List Int))(na:Int)(nb:Int):List (Nat×Tv):=(KT l [(10,tI na),(11,tP 11 0),(13,tI nb)])
abbrev HC:Nat×Blk:=(91,.cells (AF.c (AB nj 5).2) 117)
abbrev WN(l:List (List Int))(na:Int):List (Nat×Tv):=(KT l [(10,tI na),(94,tB (decide ((na:Int)<(W64 (1+(IB l).1)))))])
abbrev WL:List (Nat×Tv):=(KT l [(10,tI 0)])
abbrev NH(t_:List (Nat×Tv)):List (Nat×Tv):=(0,Z6g l)::(2,tP 2 0)::(4,Z6k l)::(5,tP 25 0)::(6,tP 6 0)::t_
abbrev Z4:=A9 2 1 [.s (nc.getD na.toNat default).Ref,.s ((Z6R l nc na).Pads.getD nb.toNat default).Name]
abbrev Gn(l:List (List Int))(nc:List AD)(na:Int)(t_:List (Nat×Blk)):List (Nat×Blk):=(2,Z6h)::(6,Z6y l nc)::(11,.cells (AN.c (Z6R l nc na)) 82)::t_
theorem au20{p:Prop}(h:p:=by first|(with_reducible exact EP hll _)|with_reducible assumption|omega|decide|(simp only[j8,j9,d9];omega)|(exact rI (by assumption))|((refine And.intro ?_ ?_<;>simp;done))|((simp only;exact gn (IW _ _ _) (by show(nc.length:Int)≤_;omega)))|((simp only;exact zK (IW _ _ _) (by show 1≤(nc.length:Int);omega)))|((simp only;exact gc (IW _ _ _)))|((simp only;exact f9 (IW _ _ _)))|((simp only;exact gl (IW _ _ _)))|((simp only;exact go (IW _ _ _)))|((simp only;exact gh (IW _ _ _)))|assumption):p:=h
theorem au21{p:Prop}(h:p:=by first|exact Me _ _ _ m4 m4 m4|exact ew|exact pY mz mz|decide|omega):p:=h
theorem au25{p:Prop}(h:p:=by first|(unfold EB at *;unfold maxLen;omega)|(unfold EB at *;omega)|(unfold maxLen;omega)|omega|(simp only[kG,kF,kE,Wu];omega)):p:=h
set_option maxHeartbeats 4000000 in
theorem zG(l:(List (List Int)))(hl:(l.length:Int)<=9223372036854775807)(hll:∀x∈l,(x.length:Int)<=9223372036854775807):PuP 10 (iP l).2.1 (.tup [.agg (AC.c (AW l).1),.one (lst 3 AN.c (AW l).2)]):=by
 refine pwf Tryz.func10 fun W0 M0=>?_;have hmany:1<=W64 (1+(AB (AB (AF.mk (Ah l 2) 0) 3).2 3).1):=by have:=D5 (AB (AF.mk (Ah l 2) 0) 3).2 3 m4 m4;rw[Ae oM oM];omega
 refine AA<|rn ⟨[(0,Z6g l),(2,tP 2 0)],[(2,Z6h)]⟩<|AA<|ro [(16,Og l 0),(17,RR (Ah l 0) (⟨#[82]⟩:my)),(19,Og l 1),(20,RR (Ah l 1) (⟨#[81]⟩:my))] [none,none,none,none] ⟨[(0,Z6g l),(2,tP 2 0),(4,.av (.one (.list true 3 2 (A9 3 2 [.s (Z6i l).Name,lst 7 Bc.c (Z6i l).Pads,lst 2 BU.c (Z6i l).Gates,.s (Z6j l).Name,lst 7 Bc.c (Z6j l).Pads,lst 2 BU.c (Z6j l).Gates]))))],[(2,Z6h)]⟩ (.cons (Hp l 0 au20) (.cons (Ya (Ah l 0) (⟨#[82]⟩:my) au20) (.cons (Hp l 1 au20) (.cons (Ya (Ah l 1) (⟨#[81]⟩:my) au20) .nil)))) .nil<|AE<|AZ (DD (⟨[(0,Z6g l),(2,tP 2 0),(4,Z6k l)],[(2,Z6h)]⟩) (rz (rz (.cons ⟨rfl,.av (.one (BO true (BN (c:=AN.c) (xs:=([Z6i l,Z6j l]:List AN)) rfl kr)))⟩ .nil))) lr)<|AA<|rs 23 _ ⟨[(0,Z6g l),(2,tP 2 0),(4,Z6k l),(5,tP 25 0)],[(2,Z6h),(25,Z6l l)]⟩ (Hp l 2 au20)<|AE<|AA ?_;refine DE C8 [31] [] [(27,Tg Jj)] [0,2,4,5,6] [2,6,25,31] [Cp (Tg (Al.mk 0 0 400 400)).2.1] ⟨((NH l [])),[(2,Z6h),(6,Z6m),(25,Z6l l),(31,.row 2 3 (A9 2 3 [.s (⟨#[78,49]⟩:my),vN,.s (⟨#[78,50]⟩:my),vN,.s (⟨#[71,78,68]⟩:my),vN]) 120)]⟩ (.cons (RE (Al.mk 0 0 400 400)) .nil) kr (.cons rfl .nil)<|AE<|AZ (vD (⟨((NH l [])),[(2,Z6h),(6,Z6m),(25,Z6l l),(31,Z6n)]⟩) 31 2 3 (A9 2 3 [.s (⟨#[78,49]⟩:my),vN,.s (⟨#[78,50]⟩:my),vN,.s (⟨#[71,78,68]⟩:my),vN]) 120 kr kr kr)<|AA<|AA<|rb 34 (Z6o l) (.cells [lst 1 eIn (Ah l 2),.i 0] 117) ⟨(NH l [(35,tB (decide (((Jn l).1:Int)=0)))]),[(2,Z6h),(6,Z6m),(25,Z6p l),(31,Z6n)]⟩ (cWr (Bp (AF.mk (Ah l 2) 0) 3 au10 au13))<|AE ?_
 refine B4 (⟨[(0,.av (oL l)),(2,tP 2 0),(4,tO (lst 3 AN.c [Z6i l,Z6j l])),(5,tP 25 0),(6,tP 6 0)],[(2,.cells IA 41),(6,.cells [.i 2,.i (Z6q l).Kind,lst 7 AK.c (Z6q l).Edges,.i (Z6q l).R,vN,.own 31 2 3,vN,vN,vN,vN,vN,vN,vN,vN,vN] 41),(25,.cells (AF.c (Jn l).2) 117),(31,.rowx 2 3 m8 120 [(0,[.s (⟨#[78,49]⟩:my),vN]),(1,[.s (⟨#[78,50]⟩:my),vN]),(2,[.s (⟨#[71,78,68]⟩:my),vN])])]⟩) ?_ ?_
 ·refine BC _ rfl (fun h1=>?_) (fun h1=>?_)
  ·refine rs 37 _ ⟨((NH l [])),[(2,Z6h),(6,.cells [.i 2,.i (Ii Jj 50).Kind,lst 7 AK.c (Ii Jj 50).Edges,.i (Ii Jj 50).R,vN,.own 31 2 3,vN,vN,vN,vN,vN,vN,vN,vN,vN] 41),(25,Z6p l),(31,Z6n)]⟩ (cK (Al.mk 0 0 400 400) 50)<|AE<|Az ?_
   first|rfl|(simp only[h1,Z6q,mi,mj]<;>rfl)
  refine AP<|AE<|Cv.trans (ck (⟨((NH l [])),[(2,Z6h),(6,Z6m),(25,Z6p l),(31,Z6n)]⟩)) (Az ?_)
  first|rfl|(simp only[h1,Z6q,mi,mj]<;>rfl)
 refine AA<|rb 40 (Z6r l) (.cells (AF.c (AB (AF.mk (Ah l 2) 0) 3).2) 117) ⟨(NH l [(7,Z6t l)]),[(2,Z6h),(6,Z6u l),(25,.cells (AF.c (Z6s l)) 117),(31,Z6n)]⟩ (cWr (Bp (AB (AF.mk (Ah l 2) 0) 3).2 3 au10 au13))<|AE<|AA<|AA<|rn ⟨(NH l [(7,Z6t l),(8,tI 0)]),[(2,Z6h),(6,Z6u l),(25,.cells (AF.c (Z6s l)) 117),(31,Z6n)]⟩<|AJ<|AZ (Cv.trans (vg 2000 7 m8 78 [] [(6,[4])] hk0) (Cv.trans (Ag 2000 (Bh 7 m8 AD.c)) (ck (⟨(NH l [(7,Z6t l),(8,tI 0)]),[(2,Z6h),(6,.cells (KS l [.own 2000 7 ([]:List AD).length,.own 31 2 3,vN,vN,vN,vN,vN,vN,vN,vN,vN]) 41),(25,.cells (AF.c (Z6s l)) 117),(31,Z6n),(2000,.row 7 ([]:List AD).length (AL AD.c ([]:List AD)) 78)]⟩)))) ?_
 refine lpC (κ:=List AD×AF×Int) (fun x=>⟨(NH l [(7,Z6t l),(8,tI x.2.2.2)]),[(2,Z6h),(6,.cells [.i 2,.i (Z6q l).Kind,lst 7 AK.c (Z6q l).Edges,.i (Z6q l).R,.own 2000 7 x.2.1.length,.own 31 2 3,vN,vN,vN,vN,vN,vN,vN,vN,vN] 41),(25,.cells (AF.c x.2.2.1) 117),(31,Z6n),(2000,.row 7 x.2.1.length (AL AD.c x.2.1) 78)]⟩) (fun x=>((W64 (1+(AB (AB (AF.mk (Ah l 2) 0) 3).2 3).1))-x.2.2.2).toNat) (fun x=>((x.2.1.length:Int)=x.2.2.2/\ZU [BM (Ah l 0) (⟨#[82]⟩:my),BM (Ah l 1) (⟨#[81]⟩:my)] x.2.1/\DK x.2.2.1/\0<=x.2.2.2/\(x.2.2.2<=(W64 (1+(AB (AB (AF.mk (Ah l 2) 0) 3).2 3).1))\/x.2.2.2=0)/\(x.2.1.length:Int)<=0+1*(x.2.2.2-0))/\C9 l x.1 x.2.1 x.2.2.1 x.2.2.2=AW l) ?_ (((W64 (1+(AB (AB (AF.mk (Ah l 2) 0) 3).2 3).1))-0).toNat+1,([]:List AD),Z6s l,0) ⟨lz _,⟨ax0,(by dsimp only;first|exact fM|exact fN (by assumption) (UO _ _ _ (D5 _ 2 m4 m4))|assumption),(by dsimp only;repeat (first|with_reducible assumption|exact DV (EP hll _)|with_reducible refine Bm ?_|with_reducible refine F6 ?_|with_reducible refine Eh ?_|with_reducible refine EF ?_  | with_reducible refine Dh ?_ ?_)),ax0,ax0,ax0⟩,(by simp only[AW,mi,mj])⟩;rintro n0 ⟨nc,v5,v8⟩ nq ⟨nm,ng⟩
 try dsimp only at nq nm ng
 have hi0_1:=nm.2.1;have hi0_2:=nm.2.2.1;refine AA<|AA<|rn ⟨(NH l [(7,Z6t l),(8,tI v8),(44,tB (decide ((v8:Int)<(W64 (1+(AB (AB (AF.mk (Ah l 2) 0) 3).2 3).1)))))]),[(2,Z6h),(6,Z6y l nc),(25,.cells (AF.c v5) 117),(31,Z6n),(2000,Z6z nc)]⟩<|BC (decide ((v8:Int)<(W64 (1+(AB (AB (AF.mk (Ah l 2) 0) 3).2 3).1)))) kr (fun h1=>?_) (fun h1=>?_)
 ·have g1:=oT h1;have k1:=W3 g1 m4 m4 m4 m4;have kk1:=TA g1 m4 m4 m4 m4;refine AP<|AE<|AA<|AJ<|AA<|dO [] [(55,(Z6A v5)),(60,(Z6B v5)),(62,(Z6C v5))] [0<=(v8:Int)/\(v8:Int)<((3:Nat):Int),none,CQ (PK v5),0<=((AB v5 2).1:Int)/\((AB v5 2).1:Int)<([Z6i l,Z6j l].length:Int),none,CQ (PV v5),none,CQ (.cells (AF.c (AB (AB v5 2).2 4).2) 117)] ⟨(NH l [(7,Z6t l),(8,tI v8),(9,tP 9 0)]),[(2,Z6h),(6,Z6y l nc),(9,.cells [.i (W64 (1+v8)),.s (([(⟨#[82,49]⟩:my),(⟨#[82,50]⟩:my),(⟨#[120,47,82,49]⟩:my)]:List my).getD v8.toNat ⟨#[]⟩),.s ([Z6i l,Z6j l].getD (AB v5 2).1.toNat default).Name,.i 0,.i 0,.i (IE v5).1,.b (R9 v5)] 78),(25,.cells (AF.c (Z6D v5)) 117),(31,Z6n),(2000,Z6z nc)]⟩ (.cons (cWr (Bp v5 2 au10 au13)) (.cons (cWr (Bp (AB v5 2).2 4 au10 au13)) (.cons (cWr (Bp (AB (AB v5 2).2 4).2 3 au10 au13)) .nil))) (H5 au21 rfl au21 rfl rfl)<|AE<|AA ?_
  refine ro [(69,(Z6E v5)),(73,(Z6F v5)),(77,(Z6H v5))] [none,CQ (.cells (AF.c (Z6D v5)) 117),none,CQ (.cells (AF.c (AB (Z6D v5) 5).2) 117),none,CQ (.cells (AF.c (Z6G v5)) 117)] ⟨(NH l [(7,Z6t l),(8,tI v8),(9,tP 9 0)]),[(2,Z6h),(6,Z6y l nc),(9,.cells [.i (W64 (1+v8)),.s (([(⟨#[82,49]⟩:my),(⟨#[82,50]⟩:my),(⟨#[120,47,82,49]⟩:my)]:List my).getD v8.toNat ⟨#[]⟩),.s ([Z6i l,Z6j l].getD (AB v5 2).1.toNat default).Name,.i (W64 ((W64 (80+(W64 (100*v8))))+(W64 (5*(AB (Z6D v5) 5).1)))),.i (W64 ((W64 (100+(W64 (80*(AB (AB (Z6D v5) 5).2 3).1))))+(W64 (5*(AB (Z6G v5) 3).1)))),.i (IE v5).1,.b (R9 v5)] 78),(25,Z6I v5),(31,Z6n),(2000,Z6z nc)]⟩ (.cons (cWr (Bp (Z6D v5) 5 au10 au13)) (.cons (cWr (Bp (AB (Z6D v5) 5).2 3 au10 au13)) (.cons (cWr (Bp (Z6G v5) 3 au10 au13)) .nil))) (H3 rfl rfl rfl)<|AE ?_
  refine rc [] [nc.length=nc.length,nc.length+1<=maxLen,(nc.length+1)*72<=140737488355328] ⟨(NH l [(7,Z6t l),(8,tI v8)]),[(2,Z6h),(6,.cells [.i 2,.i (Z6q l).Kind,lst 7 AK.c (Z6q l).Edges,.i (Z6q l).R,.own 86 7 (nc.length+1),.own 31 2 3,vN,vN,vN,vN,vN,vN,vN,vN,vN] 41),(25,Z6I v5),(31,Z6n),(86,.row 7 (nc.length+1) (fun i_ j_=>if i_<nc.length then(AL AD.c nc) i_ j_ else(A9 7 1 [.i (W64 (1+v8)),.s (([(⟨#[82,49]⟩:my),(⟨#[82,50]⟩:my),(⟨#[120,47,82,49]⟩:my)]:List my).getD v8.toNat ⟨#[]⟩),.s ([Z6i l,Z6j l].getD (AB v5 2).1.toNat default).Name,.i (W64 ((W64 (80+(W64 (100*v8))))+(W64 (5*(AB (Z6D v5) 5).1)))),.i (W64 ((W64 (100+(W64 (80*(AB (AB (Z6D v5) 5).2 3).1))))+(W64 (5*(AB (Z6G v5) 3).1)))),.i (IE v5).1,.b (R9 v5)]) (i_-nc.length) j_) 78)]⟩ .nil (H3 rfl au25 au25)<|Ao<|AE ?_;refine AZ (GJ (⟨(NH l [(7,Z6t l),(8,tI v8)]),[(2,Z6h),(6,Z6J l nc v8 v5),(25,Z6I v5),(31,Z6n),(86,Z6K nc v8 l v5)]⟩) 86 (Ac (AU 7 AD.c nc) (Ai 7 AD.c ([AD.mk (W64 (1+v8)) (([(⟨#[82,49]⟩:my),(⟨#[82,50]⟩:my),(⟨#[120,47,82,49]⟩:my)]:List my).getD v8.toNat ⟨#[]⟩) ([Z6i l,Z6j l].getD (AB v5 2).1.toNat default).Name (AG.mk (W64 ((W64 (80+(W64 (100*v8))))+(W64 (5*(AB (Z6D v5) 5).1)))) (W64 ((W64 (100+(W64 (80*(AB (AB (Z6D v5) 5).2 3).1))))+(W64 (5*(AB (Z6G v5) 3).1))))) (AB (AB v5 2).2 4).1 (R9 v5)]:List AD))))<|rg ⟨(NH l [(7,Z6t l),(8,tI (W64 (v8+1)))]),[(2,Z6h),(6,Z6J l nc v8 v5),(25,Z6I v5),(31,Z6n),(86,Z6K nc v8 l v5)]⟩ ?_
  (try rw[(show W64 (v8+1)=v8+1 from Ae oM au5)])
  refine AE ?_;refine⟨(n0,nc++[AD.mk (W64 (1+v8)) (([(⟨#[82,49]⟩:my),(⟨#[82,50]⟩:my),(⟨#[120,47,82,49]⟩:my)]:List my).getD v8.toNat ⟨#[]⟩) ([Z6i l,Z6j l].getD (AB v5 2).1.toNat default).Name (AG.mk (W64 ((W64 (80+(W64 (100*v8))))+(W64 (5*(AB (Z6D v5) 5).1)))) (W64 ((W64 (100+(W64 (80*(AB (AB (Z6D v5) 5).2 3).1))))+(W64 (5*(AB (Z6G v5) 3).1))))) (AB (AB v5 2).2 4).1 (R9 v5)],(AB (Z6G v5) 3).2,v8+1),⟨?_,?_,(by rw[<- ng];simp only[C9,h1,mi,mj])⟩,lz _,Cv.trans (vr 86 2000 hk0) (Az kr)⟩
  ·dsimp only;omega
  exact⟨ax0,(by dsimp only;first|exact fM|exact fN (by assumption) (UO _ _ _ (D5 _ 2 m4 m4))|assumption),(by dsimp only;repeat (first|with_reducible assumption|exact DV (EP hll _)|with_reducible refine Bm ?_|with_reducible refine F6 ?_|with_reducible refine Eh ?_|with_reducible refine EF ?_  | with_reducible refine Dh ?_ ?_)),ax0,ax0,ax0⟩
 have g1:=oF h1;have k1:=XG g1 m4 m4 m4 m4;refine Aw<|Aj<|Aj<|Ay<|AE<|AA<|rs 89 _ ⟨(KT l []),[(2,Z6h),(6,Z6y l nc),(31,Z6n),(91,Z6v l),(2000,Z6z nc)]⟩ (Hp l 3 au20)<|AE<|AA<|AA<|rn ⟨(WL l),[(2,Z6h),(6,Z6y l nc),(31,Z6n),(91,Z6v l),(2000,Z6z nc)]⟩<|AJ ?_;refine AZ (Cv.trans (vg 2001 2 m8 106 [] [(31,[1])] hk0) (Cv.trans (vg 2002 2 m8 106 [] [(31,[3])] hk0) (Cv.trans (wg (⟨(WL l),[(2003,.row 2 0 m8 106),(2002,.row 2 0 m8 106),(2001,.row 2 0 m8 106),(2,Z6h),(6,Z6y l nc),(31,.rowx 2 3 m8 120 [(0,[.s (⟨#[78,49]⟩:my),.own 2001 2 0]),(1,[.s (⟨#[78,50]⟩:my),.own 2002 2 0]),(2,[.s (⟨#[71,78,68]⟩:my),.own 2003 2 0])]),(91,Z6v l),(2000,Z6z nc)]⟩) 2003 2 m8 106 [] [(31,[5])] hk0) (Cv.trans (DD (⟨(WL l),[(2003,Z6L),(2002,Z6L),(2001,Z6L),(2,Z6h),(6,Z6y l nc),(31,Z7a),(91,Z6v l),(2000,Z6z nc)]⟩) lr (.cons ⟨rfl,CS 106 (Bh 2 m8 Ab.c)⟩ (.cons ⟨rfl,CS 106 (Bh 2 m8 Ab.c)⟩ (.cons ⟨rfl,CS 106 (Bh 2 m8 Ab.c)⟩ (rz (rz (.cons ⟨rfl,.rowx _ _ _ _ (.cons ⟨rfl,(rr (.cons (.own _ _ au17) .nil))⟩ (.cons ⟨rfl,(rr (.cons (.own _ _ au17) .nil))⟩ (.cons ⟨rfl,(rr (.cons (.own _ _ au17) .nil))⟩ .nil)))⟩ lr))))))) (ck (⟨(WL l),[(2,Z6h),(6,Z6y l nc),(31,Z7a),(91,Z6v l),(2000,Z6z nc),(2001,Z6L),(2002,Z6L),(2003,Z6L)]⟩)))))) ?_
 refine lpC (κ:=List Ab×List Ab×List Ab×AF×Int) (fun x=>⟨(KT l [(10,tI x.2.2.2.2.2)]),[(2,Z6h),(6,Z6y l nc),(31,.rowx 2 3 m8 120 [(0,[.s (⟨#[78,49]⟩:my),.own 2001 2 x.2.1.length]),(1,[.s (⟨#[78,50]⟩:my),.own 2002 2 x.2.2.1.length]),(2,[.s (⟨#[71,78,68]⟩:my),.own 2003 2 x.2.2.2.1.length])]),(91,.cells (AF.c x.2.2.2.2.1) 117),(2000,Z6z nc),(2001,.row 2 x.2.1.length (AL Ab.c x.2.1) 106),(2002,.row 2 x.2.2.1.length (AL Ab.c x.2.2.1) 106),(2003,.row 2 x.2.2.2.1.length (AL Ab.c x.2.2.2.1) 106)]⟩) (fun x=>((W64 (1+(AB (AB (AF.mk (Ah l 2) 0) 3).2 3).1))-x.2.2.2.2.2).toNat) (fun x=>(EB x.2.1 (6*x.2.2.2.2.2)/\EB x.2.2.1 (6*x.2.2.2.2.2)/\EB x.2.2.2.1 (6*x.2.2.2.2.2)/\DK x.2.2.2.2.1/\0<=x.2.2.2.2.2/\(x.2.2.2.2.2<=(W64 (1+(AB (AB (AF.mk (Ah l 2) 0) 3).2 3).1))\/x.2.2.2.2.2=0))/\Dw l nc v5 v8 (C9 l n0) x.1 x.2.1 x.2.2.1 x.2.2.2.1 x.2.2.2.2.1 x.2.2.2.2.2=AW l) ?_ (((W64 (1+(AB (AB (AF.mk (Ah l 2) 0) 3).2 3).1))-0).toNat+1,([]:List Ab),([]:List Ab),([]:List Ab),AF.mk (Ah l 3) 0,0) ⟨lz _,⟨(by show EB ([]:List Ab) (6*0);unfold EB at *;repeat (first|omega|exact GI oM|refine GH ?_ ?_|(simp;done))),(by show EB ([]:List Ab) (6*0);unfold EB at *;repeat (first|omega|exact GI oM|refine GH ?_ ?_|(simp;done))),(by show EB ([]:List Ab) (6*0);unfold EB at *;repeat (first|omega|exact GI oM|refine GH ?_ ?_|(simp;done))),(by dsimp only;repeat (first|with_reducible assumption|exact DV (EP hll _)|with_reducible refine Bm ?_|with_reducible refine F6 ?_|with_reducible refine Eh ?_|with_reducible refine EF ?_  | with_reducible refine Dh ?_ ?_)),ax0,ax0⟩,(by rw[<- ng];simp only[C9,h1,mi,mj])⟩
 rintro n1 ⟨nu,nw,nx,nl,na⟩ o0 ⟨ox,np⟩
 try dsimp only at o0 ox np
 have hi1_0:=ox.1;have hi1_1:=ox.2.1;have hi1_2:=ox.2.2.1;have hi1_3:=ox.2.2.2.1;refine AA<|AA<|rn ⟨(WN l na),[(2,Z6h),(6,Z6y l nc),(31,Z7b nu nw nx),(91,.cells (AF.c nl) 117),(2000,Z6z nc),(2001,Z6M nu),(2002,Z6N nw),(2003,Z6O nx)]⟩<|BC (decide ((na:Int)<(W64 (1+(AB (AB (AF.mk (Ah l 2) 0) 3).2 3).1)))) kr (fun h2=>?_) (fun h2=>?_)
 ·have g2:=oT h2;have k2:=W3 g2 m4 m4 m4 m4;have kk2:=TA g2 m4 m4 m4 m4;refine AP<|AE<|AA<|AJ<|AA<|ro _ [0<=(na:Int)/\(na:Int)<(nc.length:Int),na.toNat<nc.length,none] ⟨(KT l [(10,tI na),(11,tP 11 0)]),(Gn l nc na [(31,Z7b nu nw nx),(91,.cells (AF.c nl) 117),(2000,Z6z nc),(2001,Z6M nu),(2002,Z6N nw),(2003,Z6O nx)])⟩ (J1 105 (RF [Z6i l,Z6j l] (m7 nc na).Type' au20)) (H2 au21 au21)<|AE<|AA<|rn ⟨(KT l [(10,tI na),(11,tP 11 0),(13,tI 0)]),(Gn l nc na [(31,Z7b nu nw nx),(91,.cells (AF.c nl) 117),(2000,Z6z nc),(2001,Z6M nu),(2002,Z6N nw),(2003,Z6O nx)])⟩<|AJ ?_
  refine lpC (κ:=List Ab×List Ab×List Ab×AF×Int) (fun x=>⟨(KT l [(10,tI na),(11,tP 11 0),(13,tI x.2.2.2.2.2)]),(Gn l nc na [(31,.rowx 2 3 m8 120 [(0,[.s (⟨#[78,49]⟩:my),.own 2001 2 x.2.1.length]),(1,[.s (⟨#[78,50]⟩:my),.own 2002 2 x.2.2.1.length]),(2,[.s (⟨#[71,78,68]⟩:my),.own 2003 2 x.2.2.2.1.length])]),(91,.cells (AF.c x.2.2.2.2.1) 117),(2000,Z6z nc),(2001,.row 2 x.2.1.length (AL Ab.c x.2.1) 106),(2002,.row 2 x.2.2.1.length (AL Ab.c x.2.2.1) 106),(2003,.row 2 x.2.2.2.1.length (AL Ab.c x.2.2.2.1) 106)])⟩) (fun x=>(((Z6R l nc na).Pads.length:Int)-x.2.2.2.2.2).toNat) (fun x=>(EB x.2.1 (6*na+x.2.2.2.2.2)/\EB x.2.2.1 (6*na+x.2.2.2.2.2)/\EB x.2.2.2.1 (6*na+x.2.2.2.2.2)/\DK x.2.2.2.2.1/\0<=x.2.2.2.2.2/\(x.2.2.2.2.2<=((Z6R l nc na).Pads.length:Int)\/x.2.2.2.2.2=0))/\EH l nc v5 v8 nu nw nx nl na (C9 l n0) (Dw l nc v5 v8 (C9 l n0) n1) x.1 x.2.1 x.2.2.1 x.2.2.2.1 x.2.2.2.2.1 x.2.2.2.2.2=AW l) ?_ ((((Z6R l nc na).Pads.length:Int)-0).toNat+1,nu,nw,nx,nl,0) ⟨lz _,⟨(by show EB nu (6*na+0);unfold EB at *;repeat (first|omega|exact GI oM|refine GH ?_ ?_|(simp;done))),(by show EB nw (6*na+0);unfold EB at *;repeat (first|omega|exact GI oM|refine GH ?_ ?_|(simp;done))),(by show EB nx (6*na+0);unfold EB at *;repeat (first|omega|exact GI oM|refine GH ?_ ?_|(simp;done))),(by dsimp only;repeat (first|with_reducible assumption|exact DV (EP hll _)|with_reducible refine Bm ?_|with_reducible refine F6 ?_|with_reducible refine Eh ?_|with_reducible refine EF ?_  | with_reducible refine Dh ?_ ?_)),ax0,ax0⟩,(by rw[<- np];simp only[Dw,h2,mi,mj])⟩
  rintro n2 ⟨n9,n8,oa,nj,nb⟩ pd ⟨pg,oy⟩
  try dsimp only at pd pg oy
  have hi2_0:=pg.1;have hi2_1:=pg.2.1;have hi2_2:=pg.2.2.1;have hi2_3:=pg.2.2.2.1;have hp6:((Z6R l nc na).Pads.length:Int)<=6:=(hi0_1 na oM oM).2;refine AA<|AA<|rn ⟨(KT l [(10,tI na),(11,tP 11 0),(13,tI nb),(112,tB (decide ((nb:Int)<((Z6R l nc na).Pads.length:Int))))]),(Gn l nc na [(31,Z7c n9 n8 oa),(91,.cells (AF.c nj) 117),(2000,Z6z nc),(2001,Z6T n9),(2002,Z6U n8),(2003,Z6V oa)])⟩<|BC _ rfl (fun h3=>?_) (fun h3=>?_)
  ·have g3:=oT h3;refine AP<|AE<|AA<|B4 (⟨[(0,.av (oL l)),(2,tP 2 0),(4,tO (lst 3 AN.c [Z6i l,Z6j l])),(5,tP 91 0),(6,tP 6 0),(7,tI (W64 (1+(IB l).1))),(10,tI na),(11,tP 11 0),(13,tI nb)],[(2,.cells IA 41),(6,.cells [.i 2,.i (Z6q l).Kind,lst 7 AK.c (Z6q l).Edges,.i (Z6q l).R,.own 2000 7 nc.length,.own 31 2 3,vN,vN,vN,vN,vN,vN,vN,vN,vN] 41),(11,.cells (AN.c (Z6R l nc na)) 82),(31,.rowx 2 3 m8 120 [(0,[.s (⟨#[78,49]⟩:my),.own 2004 2 (Z70 nj n9 nc na l nb).length]),(1,[.s (⟨#[78,50]⟩:my),.own 2005 2 (Z71 nj n8 nc na l nb).length]),(2,[.s (⟨#[71,78,68]⟩:my),.own 2006 2 (Z72 nj oa nc na l nb).length])]),(HC nj),(2000,.row 7 nc.length (AL AD.c nc) 78),(2004,.row 2 (Z70 nj n9 nc na l nb).length (AL Ab.c (Z70 nj n9 nc na l nb)) 106),(2005,.row 2 (Z71 nj n8 nc na l nb).length (AL Ab.c (Z71 nj n8 nc na l nb)) 106),(2006,.row 2 (Z72 nj oa nc na l nb).length (AL Ab.c (Z72 nj oa nc na l nb)) 106)]⟩) ?_ ?_
   ·refine AJ<|AA<|rb 116 (Z6W nj) (.cells (AF.c nj) 117) ⟨(KT l [(10,tI na),(11,tP 11 0),(13,tI nb),(14,tI (AB nj 5).1)]),(Gn l nc na [(31,Z7c n9 n8 oa),(HC nj),(2000,Z6z nc),(2001,Z6T n9),(2002,Z6U n8),(2003,Z6V oa)])⟩ (cWr (Bp nj 5 au10 au13))<|AE<|AA<|rn ⟨(KT l [(10,tI na),(11,tP 11 0),(13,tI nb),(14,tI (AB nj 5).1),(118,tB (decide (((AB nj 5).1:Int)<3)))]),(Gn l nc na [(31,Z7c n9 n8 oa),(HC nj),(2000,Z6z nc),(2001,Z6T n9),(2002,Z6U n8),(2003,Z6V oa)])⟩<|BC _ rfl (fun h4=>?_) (fun h4=>?_)
    ·have g4:=oT h4;refine Qj (decide (((AB nj 5).1:Int)=0)) (fun h5=>?_) (fun h5=>?_)
     ·have g5:=oT h5
      (try rw[g5])
      refine dw [] [] [0<=(0:Int)/\(0:Int)<((3:Nat):Int),0<=(na:Int)/\(na:Int)<(nc.length:Int),na.toNat<nc.length,0<=(nb:Int)/\(nb:Int)<((Z6R l nc na).Pads.length:Int),n9.length=n9.length,n9.length+1<=maxLen,(n9.length+1)*32<=140737488355328,0<=(0:Int)/\(0:Int)<((3:Nat):Int)] ⟨(M5 l na nb),(Gn l nc na [(31,.rowx 2 3 m8 120 [(0,[.s (⟨#[78,49]⟩:my),.own 142 2 (n9.length+1)]),(1,[.s (⟨#[78,50]⟩:my),.own 2002 2 n8.length]),(2,[.s (⟨#[71,78,68]⟩:my),.own 2003 2 oa.length])]),(HC nj),(142,.row 2 (n9.length+1) (fun i_ j_=>if i_<n9.length then(AL Ab.c n9) i_ j_ else(Z4 nc na l nb) (i_-n9.length) j_) 106),(2000,Z6z nc),(2002,Z6U n8),(2003,Z6V oa)])⟩ .nil (H8 au21 au21 au21 au21 rfl au25 au25 au21)<|Ao<|AE ?_
      refine Cv.trans (DD (⟨(M5 l na nb),(Gn l nc na [(31,.rowx 2 3 m8 120 [(0,[.s (⟨#[78,49]⟩:my),.own 142 2 (n9++(Hl nc na l nb)).length]),(1,[.s (⟨#[78,50]⟩:my),.own 2002 2 n8.length]),(2,[.s (⟨#[71,78,68]⟩:my),.own 2003 2 oa.length])]),(HC nj),(142,Z6X n9 nc na l nb),(2000,Z6z nc),(2002,Z6U n8),(2003,Z6V oa)])⟩) lr (rz (rz (rz (.cons ⟨rfl,.rowx _ _ _ _ (.cons ⟨rfl,(rr (.cons (.own _ _ au17) .nil))⟩ (.cons ⟨rfl,(rr2 .nil)⟩ (.cons ⟨rfl,(rr2 .nil)⟩ .nil)))⟩ (rz (.cons ⟨rfl,CS 106 (Ac (AU 2 Ab.c n9) (BN (c:=Ab.c) (xs:=([Ab.mk (m7 nc na).Ref (m7 (Z6R l nc na).Pads nb).Name]:List Ab)) rfl kr))⟩ lr))))))) (Cv.trans (vr 142 2004 hk0) (Cv.trans (vr 2002 2005 hk0) (Cv.trans (vr 2003 2006 hk0) (Cv.trans (ck (⟨(M5 l na nb),(Gn l nc na [(31,Z7d n9 nc na l nb n8 oa),(HC nj),(2000,Z6z nc),(2004,Z6X n9 nc na l nb),(2005,Z6U n8),(2006,Z6V oa)])⟩)) (Az ?_)))))
      first|rfl|(simp only[h4,h5,Z70,Z71,Z72,mi,mj]<;>rfl)
     have g5:=oF h5;refine Qj (decide (((AB nj 5).1:Int)=1)) (fun h6=>?_) (fun h6=>?_)
     ·have g6:=oT h6
      (try rw[g6])
      refine dw [] [] [0<=(1:Int)/\(1:Int)<((3:Nat):Int),0<=(na:Int)/\(na:Int)<(nc.length:Int),na.toNat<nc.length,0<=(nb:Int)/\(nb:Int)<((Z6R l nc na).Pads.length:Int),n8.length=n8.length,n8.length+1<=maxLen,(n8.length+1)*32<=140737488355328,0<=(1:Int)/\(1:Int)<((3:Nat):Int)] ⟨(M5 l na nb),(Gn l nc na [(31,.rowx 2 3 m8 120 [(0,[.s (⟨#[78,49]⟩:my),.own 2001 2 n9.length]),(1,[.s (⟨#[78,50]⟩:my),.own 142 2 (n8.length+1)]),(2,[.s (⟨#[71,78,68]⟩:my),.own 2003 2 oa.length])]),(HC nj),(142,.row 2 (n8.length+1) (fun i_ j_=>if i_<n8.length then(AL Ab.c n8) i_ j_ else(Z4 nc na l nb) (i_-n8.length) j_) 106),(2000,Z6z nc),(2001,Z6T n9),(2003,Z6V oa)])⟩ .nil (H8 au21 au21 au21 au21 rfl au25 au25 au21)<|Ao<|AE ?_
      refine Cv.trans (DD (⟨(M5 l na nb),(Gn l nc na [(31,.rowx 2 3 m8 120 [(0,[.s (⟨#[78,49]⟩:my),.own 2001 2 n9.length]),(1,[.s (⟨#[78,50]⟩:my),.own 142 2 (n8++(Hl nc na l nb)).length]),(2,[.s (⟨#[71,78,68]⟩:my),.own 2003 2 oa.length])]),(HC nj),(142,Z6Y n8 nc na l nb),(2000,Z6z nc),(2001,Z6T n9),(2003,Z6V oa)])⟩) lr (rz (rz (rz (.cons ⟨rfl,.rowx _ _ _ _ (.cons ⟨rfl,(rr2 .nil)⟩ (.cons ⟨rfl,(rr (.cons (.own _ _ au17) .nil))⟩ (.cons ⟨rfl,(rr2 .nil)⟩ .nil)))⟩ (rz (.cons ⟨rfl,CS 106 (Ac (AU 2 Ab.c n8) (BN (c:=Ab.c) (xs:=([Ab.mk (m7 nc na).Ref (m7 (Z6R l nc na).Pads nb).Name]:List Ab)) rfl kr))⟩ lr))))))) (Cv.trans (vr 2001 2004 hk0) (Cv.trans (vr 142 2005 hk0) (Cv.trans (vr 2003 2006 hk0) (Cv.trans (ck (⟨(M5 l na nb),(Gn l nc na [(31,Z7e n9 n8 nc na l nb oa),(HC nj),(2000,Z6z nc),(2004,Z6T n9),(2005,Z6Y n8 nc na l nb),(2006,Z6V oa)])⟩)) (Az ?_)))))
      first|rfl|(simp only[h4,h5,h6,Z70,Z71,Z72,mi,mj]<;>rfl)
     have g6:=oF h6;have g7:((AB nj 5).1:Int)=2:=kK (by with_reducible assumption) (by with_reducible assumption) (by with_reducible assumption)
     (try rw[g7])
     refine dw [] [] [0<=(2:Int)/\(2:Int)<((3:Nat):Int),0<=(na:Int)/\(na:Int)<(nc.length:Int),na.toNat<nc.length,0<=(nb:Int)/\(nb:Int)<((Z6R l nc na).Pads.length:Int),oa.length=oa.length,oa.length+1<=maxLen,(oa.length+1)*32<=140737488355328,0<=(2:Int)/\(2:Int)<((3:Nat):Int)] ⟨(M5 l na nb),(Gn l nc na [(31,.rowx 2 3 m8 120 [(0,[.s (⟨#[78,49]⟩:my),.own 2001 2 n9.length]),(1,[.s (⟨#[78,50]⟩:my),.own 2002 2 n8.length]),(2,[.s (⟨#[71,78,68]⟩:my),.own 142 2 (oa.length+1)])]),(HC nj),(142,.row 2 (oa.length+1) (fun i_ j_=>if i_<oa.length then(AL Ab.c oa) i_ j_ else(Z4 nc na l nb) (i_-oa.length) j_) 106),(2000,Z6z nc),(2001,Z6T n9),(2002,Z6U n8)])⟩ .nil (H8 au21 au21 au21 au21 rfl au25 au25 au21)<|Ao<|AE ?_
     refine Cv.trans (DD (⟨(M5 l na nb),(Gn l nc na [(31,.rowx 2 3 m8 120 [(0,[.s (⟨#[78,49]⟩:my),.own 2001 2 n9.length]),(1,[.s (⟨#[78,50]⟩:my),.own 2002 2 n8.length]),(2,[.s (⟨#[71,78,68]⟩:my),.own 142 2 (oa++(Hl nc na l nb)).length])]),(HC nj),(142,.row 2 (oa++(Hl nc na l nb)).length (AL Ab.c (oa++(Hl nc na l nb))) 106),(2000,Z6z nc),(2001,Z6T n9),(2002,Z6U n8)])⟩) lr (rz (rz (rz (.cons ⟨rfl,.rowx _ _ _ _ (.cons ⟨rfl,(rr2 .nil)⟩ (.cons ⟨rfl,(rr2 .nil)⟩ (.cons ⟨rfl,(rr (.cons (.own _ _ au17) .nil))⟩ .nil)))⟩ (rz (.cons ⟨rfl,CS 106 (Ac (AU 2 Ab.c oa) (BN (c:=Ab.c) (xs:=([Ab.mk (m7 nc na).Ref (m7 (Z6R l nc na).Pads nb).Name]:List Ab)) rfl kr))⟩ lr))))))) (Cv.trans (vr 2001 2004 hk0) (Cv.trans (vr 2002 2005 hk0) (Cv.trans (vr 142 2006 hk0) (Cv.trans (ck (⟨(M5 l na nb),(Gn l nc na [(31,Z7f n9 n8 oa nc na l nb),(HC nj),(2000,Z6z nc),(2004,Z6T n9),(2005,Z6U n8),(2006,.row 2 (oa++(Hl nc na l nb)).length (AL Ab.c (oa++(Hl nc na l nb))) 106)])⟩)) (Az ?_)))))
     first|rfl|(simp only[h4,h5,h6,Z70,Z71,Z72,mi,mj]<;>rfl)
    refine AP<|Ao<|AE<|Cv.trans (vk [0,2,4,5,6,7,10,11,13] [2,6,11,31,91,2000,2001,2002,2003]) (Cv.trans (vr 2001 2004 hk0) (Cv.trans (vr 2002 2005 hk0) (Cv.trans (wr (⟨(M5 l na nb),(Gn l nc na [(31,.rowx 2 3 m8 120 [(0,[.s (⟨#[78,49]⟩:my),.own 2004 2 n9.length]),(1,[.s (⟨#[78,50]⟩:my),.own 2005 2 n8.length]),(2,[.s (⟨#[71,78,68]⟩:my),.own 2006 2 oa.length])]),(HC nj),(2000,Z6z nc),(2004,Z6T n9),(2005,Z6U n8),(2006,Z6V oa)])⟩) 2003 2006 hk0) (Az ?_))))
    first|rfl|(simp only[h4,Z70,Z71,Z72,mi,mj]<;>rfl)
   refine rg ⟨(KT l [(10,tI na),(11,tP 11 0),(13,tI (W64 (nb+1)))]),(Gn l nc na [(31,.rowx 2 3 m8 120 [(0,[.s (⟨#[78,49]⟩:my),.own 2004 2 (Z70 nj n9 nc na l nb).length]),(1,[.s (⟨#[78,50]⟩:my),.own 2005 2 (Z71 nj n8 nc na l nb).length]),(2,[.s (⟨#[71,78,68]⟩:my),.own 2006 2 (Z72 nj oa nc na l nb).length])]),(HC nj),(2000,Z6z nc),(2004,Z73 nj n9 nc na l nb),(2005,Z74 nj n8 nc na l nb),(2006,Z75 nj oa nc na l nb)])⟩ ?_
   (try rw[(show W64 (nb+1)=nb+1 from Ae oM au5)])
   refine AE ?_;refine⟨(n2,Z70 nj n9 nc na l nb,Z71 nj n8 nc na l nb,Z72 nj oa nc na l nb,(AB nj 5).2,nb+1),⟨?_,?_,(by rw[<- oy];simp only[EH,h3,mi,mj])⟩,lz _,Cv.trans (vr 2004 2001 hk0) (Cv.trans (vr 2005 2002 hk0) (Cv.trans (vr 2006 2003 hk0) (Az kr)))⟩
   ·dsimp only;omega
   exact⟨(by show EB (Z70 nj n9 nc na l nb) (6*na+(nb+1));unfold EB at *;repeat (first|omega|exact GI oM|refine GH ?_ ?_|(simp;done))),(by show EB (Z71 nj n8 nc na l nb) (6*na+(nb+1));unfold EB at *;repeat (first|omega|exact GI oM|refine GH ?_ ?_|(simp;done))),(by show EB (Z72 nj oa nc na l nb) (6*na+(nb+1));unfold EB at *;repeat (first|omega|exact GI oM|refine GH ?_ ?_|(simp;done))),(by dsimp only;repeat (first|with_reducible assumption|exact DV (EP hll _)|with_reducible refine Bm ?_|with_reducible refine F6 ?_|with_reducible refine Eh ?_|with_reducible refine EF ?_  | with_reducible refine Dh ?_ ?_)),ax0,ax0⟩
  have g3:=oF h3;refine Aw<|Aj<|Aj<|Ay<|Ao<|AE<|rg ⟨(KT l [(10,tI (W64 (na+1)))]),[(2,Z6h),(6,Z6y l nc),(31,Z7c n9 n8 oa),(91,.cells (AF.c nj) 117),(2000,Z6z nc),(2001,Z6T n9),(2002,Z6U n8),(2003,Z6V oa)]⟩ ?_
  (try rw[(show W64 (na+1)=na+1 from Ae oM au5)])
  refine AE ?_;refine⟨(n1,n9,n8,oa,nj,na+1),⟨?_,?_,(by rw[<- oy];simp only[EH,h3,mi,mj])⟩,lz _,Az kr⟩
  ·dsimp only;omega
  exact⟨(by show EB n9 (6*(na+1));unfold EB at *;repeat (first|omega|exact GI oM|refine GH ?_ ?_|(simp;done))),(by show EB n8 (6*(na+1));unfold EB at *;repeat (first|omega|exact GI oM|refine GH ?_ ?_|(simp;done))),(by show EB oa (6*(na+1));unfold EB at *;repeat (first|omega|exact GI oM|refine GH ?_ ?_|(simp;done))),(by dsimp only;repeat (first|with_reducible assumption|exact DV (EP hll _)|with_reducible refine Bm ?_|with_reducible refine F6 ?_|with_reducible refine Eh ?_|with_reducible refine EF ?_  | with_reducible refine Dh ?_ ?_)),ax0,ax0⟩
 have g2:=oF h2;have k2:=XG g2 m4 m4 m4 m4;refine Aw<|Aj<|Aj<|Ay<|AE<|AA<|AZ (KD (⟨(WN l na),[(2,Z6h),(6,Z6P l nc),(31,Z7b nu nw nx),(91,.cells (AF.c nl) 117),(2001,Z6M nu),(2002,Z6N nw),(2003,Z6O nx)]⟩) 2000 hk0) ?_;refine AZ (Cv.trans (vf 2001 hk0) (Cv.trans (vf 2002 hk0) (Cv.trans (KD (⟨(WN l na),[(2,Z6h),(6,Z6P l nc),(31,.rowx 2 3 m8 120 [(0,[.s (⟨#[78,49]⟩:my),lst 2 Ab.c nu]),(1,[.s (⟨#[78,50]⟩:my),lst 2 Ab.c nw]),(2,[.s (⟨#[71,78,68]⟩:my),lst 2 Ab.c nx])]),(91,.cells (AF.c nl) 117)]⟩) 2003 hk0) (Cv.trans (I2 (⟨(WN l na),[(2,Z6h),(6,Z6P l nc),(31,.row 2 3 (A9 2 3 [.s (⟨#[78,49]⟩:my),lst 2 Ab.c nu,.s (⟨#[78,50]⟩:my),lst 2 Ab.c nw,.s (⟨#[71,78,68]⟩:my),lst 2 Ab.c nx]) 120),(91,.cells (AF.c nl) 117)]⟩) 31 2 3 m8 120 [[.s (⟨#[78,49]⟩:my),lst 2 Ab.c nu],[.s (⟨#[78,50]⟩:my),lst 2 Ab.c nw],[.s (⟨#[71,78,68]⟩:my),lst 2 Ab.c nx]] kr kr kr kr) (Cv.trans (Ag 31 (Ai 2 A7.c ([A7.mk (⟨#[78,49]⟩:my) nu,A7.mk (⟨#[78,50]⟩:my) nw,A7.mk (⟨#[71,78,68]⟩:my) nx]:List A7))) (KD (⟨(WN l na),[(2,Z6h),(6,.cells [.i 2,.i (Z6q l).Kind,lst 7 AK.c (Z6q l).Edges,.i (Z6q l).R,lst 7 AD.c nc,lst 2 A7.c [A7.mk (⟨#[78,49]⟩:my) nu,A7.mk (⟨#[78,50]⟩:my) nw,A7.mk (⟨#[71,78,68]⟩:my) nx],vN,vN,vN,vN,vN,vN,vN,vN,vN] 41),(91,.cells (AF.c nl) 117)]⟩) 31 hk0)))))) ?_
 refine rb 147 (Z77 l nc nu nw nx) (.cells [.i 2,.i (Z6q l).Kind,lst 7 AK.c (Z6q l).Edges,.i (Z6q l).R,lst 7 AD.c nc,lst 2 A7.c [A7.mk (⟨#[78,49]⟩:my) nu,A7.mk (⟨#[78,50]⟩:my) nw,A7.mk (⟨#[71,78,68]⟩:my) nx],vN,vN,vN,vN,vN,vN,vN,vN,vN] 41) ⟨[(0,Z6g l),(2,tP 2 0),(4,Z6k l),(6,tP 6 0)],[(2,Z6h),(6,.cells (eU l nc nu nw nx) 41)]⟩ (cWr (bV (AC.mk 2 (Z6q l) nc [A7.mk (⟨#[78,49]⟩:my) nu,A7.mk (⟨#[78,50]⟩:my) nw,A7.mk (⟨#[71,78,68]⟩:my) nx] [] [] [] [] [] [] [] [] []) [Z6i l,Z6j l] l au20 au20 au20 au20 au20 au20))<|AE<|AA ?_
 exact ro [(149,Og l 7),(152,(Z79 l nc nu nw nx))] [none,none,wV [.cells (eU l nc nu nw nx) 41,.cells [lst 1 eIn (Ah l 7),.i 0] 117]] ⟨[(2,tP 2 0),(4,Z6k l),(6,tP 6 0)],[(2,Z6h),(6,.cells (AC.c (Z78 l nc nu nw nx).1) 41)]⟩ (.cons (Hp l 7 au20) (.cons (dQ (fun _ _=>kr) kr rfl rfl kr kr (rE (AC.mk (Z76 l nc nu nw nx).Layers (Z76 l nc nu nw nx).Outline (Z76 l nc nu nw nx).Parts (Z76 l nc nu nw nx).Nets (Z76 l nc nu nw nx).Tracks (Z76 l nc nu nw nx).Vias (Z76 l nc nu nw nx).Pours (Z76 l nc nu nw nx).Keeps (Z76 l nc nu nw nx).Slots [] [] [] []) (AF.mk (Ah l 7) 0) au10 au20 au20 au20 au20 au20 au20 au20)) .nil)) (H1 rfl)<|AE<|AA<|rn ⟨[(2,tP 2 0),(3,Z6k l)],[(2,.cells (AC.c (Z78 l nc nu nw nx).1) 41)]⟩<|AO<|xl (.tup [.agg (AC.c (Z78 l nc nu nw nx).1),.one (lst 3 AN.c [Z6i l,Z6j l])]) (F5 (by rw[<- np];first|(simp only[Dw,h2,mi,mj]<;>rfl)))
theorem sG(l:(List (List Int)))(hl:(l.length:Int)<=9223372036854775807)(hll:∀x∈l,(x.length:Int)<=9223372036854775807):OKc (iP l):=cPu<|zG l hl hll
end
abbrev nN1:my:=⟨#[78,49]⟩
abbrev nN2:my:=⟨#[78,50]⟩
abbrev ac:my:=⟨#[71,78,68]⟩
structure LL (B:AC):Prop where
 lay:B.Layers=2
 par:1<=(B.Parts.length:Int)/\(B.Parts.length:Int)<=3
 net:∃ p q r,B.Nets=[A7.mk nN1 p,A7.mk nN2 q,A7.mk ac r]
 trk:(B.Tracks.length:Int)<=6
 edg:∀ t∈B.Tracks,(t.Shape.Edges.length:Int)<=2
 via:(B.Vias.length:Int)<=3
 pou:(B.Pours.length:Int)<=2
 kee:(B.Keeps.length:Int)<=1
 slo:(B.Slots.length:Int)<=1
theorem iv{α:Type}{c:Bool}{a b:AC×α}(h:LL a.1)(k:LL b.1):LL (bif c then a else b).1:=by cases c<;>assumption
theorem xR{b:AC}{d:AF}(h:LL b):LL (DW b d).1:=by
 unfold DW;obtain⟨h1,h2,h3,h4,h5,h6,h7,h8,h9⟩:=h;exact iv ⟨h1,h2,h3,h4,h5,h6,h7,h8,h9⟩ ⟨h1,h2,h3,h4,h5,h6,h7,h8,h9⟩
theorem ip{b:AC}{m9:List AN}{l:List (List Int)}{x y z w:List Unit}(h1:b.Layers=2)(h2:1<=(b.Parts.length:Int)/\(b.Parts.length:Int)<=3)(h3:∃p q r,b.Nets=[A7.mk nN1 p,A7.mk nN2 q,A7.mk ac r]){c:List BG}{ru:List A5}{wa:List As}{ma:List BI} :
  LL (AC.mk (BW b m9 l).Layers (BW b m9 l).Outline (BW b m9 l).Parts (BW b m9 l).Nets (BW b m9 l).Tracks (BW b m9 l).Vias (BW b m9 l).Pours (BW b m9 l).Keeps (BW b m9 l).Slots c ru wa ma):=by
 obtain⟨k1,k2,k3,k4,k5,k6,k7,k8,k9,k10⟩:=IW b m9 l;exact⟨k1.trans h1,by show 1<=((BW b m9 l).Parts.length:Int)/\((BW b m9 l).Parts.length:Int)<=3;rw[k3];exact h2,by rw[<- k4]at h3;exact h3,k5,k6,k7,k8,k9,k10⟩
theorem gM(l:List (List Int))(nc:List AD)(v5:AF)(v8:Int)(a1 a3 a5:List Ab)(d1:AF)(na:Int)(K0:List AD->AF->Int->(AC×(List AN)))(K1:List Ab->List Ab->List Ab->AF->Int->(AC×(List AN)))(hK:∀a b c d,LL (K1 a b c d (na+1)).1):∀(n:Nat) (x y z:List Ab) (d:AF) (k:Int),0<=k->(((Bq [BM (Ah l 0) (⟨#[82]⟩:my),BM (Ah l 1) (⟨#[81]⟩:my)] (nc.getD na.toNat default).Type').1.Pads.length:Int)-k).toNat<n->LL (EH l nc v5 v8 a1 a3 a5 d1 na K0 K1 n x y z d k).1
 |0,x,y,z,d,k,_,h=>absurd h (lw _)
 |n+1,x,y,z,d,k,k0,h=>by
  unfold EH;show LL (bif decide ((k:Int)<((Bq [BM (Ah l 0) (⟨#[82]⟩:my),BM (Ah l 1) (⟨#[81]⟩:my)] (nc.getD na.toNat default).Type').1.Pads.length:Int))then(_:AC×List AN)else _).1
  by_cases hc:(k:Int)<((Bq [BM (Ah l 0) (⟨#[82]⟩:my),BM (Ah l 1) (⟨#[81]⟩:my)] (nc.getD na.toNat default).Type').1.Pads.length:Int)
  ·rw[lj hc];exact gM l nc v5 v8 a1 a3 a5 d1 na K0 K1 hK n _ _ _ _ _ mz mz
  rw[lk hc];exact hK _ _ _ _
theorem gN(l:List (List Int))(nc:List AD)(v5:AF)(v8:Int)(K0:List AD->AF->Int->(AC×(List AN)))(hp:1<=(nc.length:Int)/\(nc.length:Int)<=3):∀(n:Nat) (x y z:List Ab) (d:AF) (k:Int),0<=k->(W64 (1+(AB (AB (AF.mk (Ah l 2) 0) 3).2 3).1)-k).toNat<n->LL (Dw l nc v5 v8 K0 n x y z d k).1
 |0,x,y,z,d,k,_,h=>absurd h (lw _)
 |n+1,x,y,z,d,k,k0,h=>by
  unfold Dw
  by_cases hc:k<W64 (1+(AB (AB (AF.mk (Ah l 2) 0) 3).2 3).1)
  ·simp only[hc,ml,mi];exact gM l nc v5 v8 x y z d k K0 _ (fun a b c e=>gN l nc v5 v8 K0 hp n a b c e (k+1) mz mz) _ _ _ _ _ 0 mz (lz _)
  simp only[hc,mm,mj];exact xR (ip (x:=[]) (y:=[]) (z:=[]) (w:=[]) rfl hp ⟨_,_,_,rfl⟩)
theorem gO(l:List (List Int)):∀(n:Nat) (v:List AD) (d:AF) (k:Int),0<=k->(v.length:Int)=k->k<=W64 (1+(AB (AB (AF.mk (Ah l 2) 0) 3).2 3).1)->(W64 (1+(AB (AB (AF.mk (Ah l 2) 0) 3).2 3).1)-k).toNat<n->LL (C9 l n v d k).1
 |0,v,d,k,_,_,_,h=>absurd h (lw _)
 |n+1,v,d,k,k0,kv,k1,h=>by
  have hmany:1<=W64 (1+(AB (AB (AF.mk (Ah l 2) 0) 3).2 3).1)/\W64 (1+(AB (AB (AF.mk (Ah l 2) 0) 3).2 3).1)<=3:=by
   have:=D5 (AB (AF.mk (Ah l 2) 0) 3).2 3 m4 m4;rw[Ae mz mz];omega
  unfold C9
  by_cases hc:k<W64 (1+(AB (AB (AF.mk (Ah l 2) 0) 3).2 3).1)
  ·simp only[hc,ml,mi];exact gO l n _ _ _ mz (by simp only[d9,j8,j9];omega) mz mz
  simp only[hc,mm,mj];exact gN l v d k _ mz _ _ _ _ _ 0 mz (lz _)
theorem tF(l:List (List Int)):LL (AW l).1:=by
 have hmany:1<=W64 (1+(AB (AB (AF.mk (Ah l 2) 0) 3).2 3).1):=by
  have:=D5 (AB (AF.mk (Ah l 2) 0) 3).2 3 m4 m4;rw[Ae mz mz];omega
 unfold AW;exact gO l _ _ _ 0 mz rfl mz (lz _)
theorem jI(r:Al):(I9 r).Edges.length=4:=rfl
theorem lG(p:AG)(r:Int):(IP p r).Edges.length=1:=rfl
def QD(n:Nat)(l:List BU):Prop:=l.length<=n/\∀g∈l,N4 g
theorem cZ{n:Nat}{c:Bool}{a b:List BU}(ha:QD n a)(hb:QD n b):QD n (bif c then a else b):=by cases c<;>assumption
theorem cY{n:Nat}:QD n []:=⟨lv _,fun g hg=>by cases hg⟩
theorem XD{n:Nat}{g:BU}{l:List BU}(hg:N4 g)(h:QD n l):QD (n+1) (g::l):=⟨Nat.succ_le_succ h.1,fun x hx=>(List.mem_cons.1 hx).elim (fun e=>e▸hg) (h.2 x)⟩
theorem jd{n:Nat}{g:BU}{l:List BU}(hg:N4 g)(h:QD n l):QD (n+1) (l++[g]):=⟨by rw[d9];exact Nat.succ_le_succ h.1,fun x hx=>(List.mem_append.1 hx).elim (h.2 x) (fun e=>by rw[List.mem_singleton.1 e];exact hg)⟩
theorem gX{k:Int}{a c:CF}:N4 (BU.mk k [a,c]):=(by decide:((2:Nat):Int)<=1000000)
theorem gs_up{n m:Nat}{l:List BU}(h:QD n l)(k:n<=m):QD m l:=⟨ln h.1 k,h.2⟩
theorem kP(l:List Int)(d:AF):QD 3 (Z5I l d):=by
 have h1:QD 2 (Z5u l d):=cZ (XD gX cY) cY;have h2:QD 2 (Z5C l d):=cZ (XD gX (XD gX cY)) h1;exact cZ (jd gX h2) (gs_up h2 m4)
theorem Wy(d:AF)(k:Int):((Z5k d k).length:Int)<=1000000:=by
 unfold Z5k Z5f Z5i;cases decide ((AB (AB d 2).2 3).1=0)with
 |true=>rw[mi,jI];decide
 |false =>
  rw[mj];cases decide ((AB (AB d 2).2 3).1=1)with
  |true=>rw[mi,lG];decide
  |false=>exact(by decide:((1:Nat):Int)<=1000000)
theorem Ui(l:List Int)(name:my):∀(n:Nat) (v:List Bc) (d:AF) (k:Int),(∀p∈v,ZV p)->(v.length:Int)<=1000000->((v.length:Int)+(W64 (2+(AB (AF.mk l 0) 5).1)-k)<=1000000)->((W64 (2+(AB (AF.mk l 0) 5).1))-k).toNat<n ->
  N3 (Dx l name n v d k)
 |0,v,d,k,_,_,_,h=>absurd h (lw _)
 |n+1,v,d,k,hv,h0,h1,h2=>by
  unfold Dx
  by_cases h:k<W64 (2+(AB (AF.mk l 0) 5).1)
  ·rw[lj h,mi];refine Ui l name n _ _ (k+1) (fun p hp=>?_) (by simp only[d9,j8,j9];omega) (by simp only[d9,j8,j9];omega) mz;rcases List.mem_append.1 hp with hp|hp
   ·exact hv p hp
   rw[List.mem_singleton.1 hp];exact Wy d k
  rw[lk h,mj];have hg:=kP l d;exact⟨h0,by have:=hg.1;show((Z5I l d).length:Int)<=1000000;omega,hv,hg.2⟩
theorem Yn(l:List Int)(name:my):N3 (BM l name):=by
 have hn:=D5 (AF.mk l 0) 5 m4 m4;have hw:W64 (2+(AB (AF.mk l 0) 5).1)=2+(AB (AF.mk l 0) 5).1:=Ae mz mz;unfold BM;exact Ui l name _ [] _ 0 (fun p hp=>by cases hp) m4 (by simp only[j9];omega) mz
theorem gJ(l:List (List Int))(nc:List AD)(v5:AF)(v8:Int)(a1 a3 a5:List Ab)(d1:AF)(na:Int)(K0:List AD->AF->Int->(AC×(List AN)))(K1:List Ab->List Ab->List Ab->AF->Int->(AC×(List AN)))(hK:∀a b c d,B7 (K1 a b c d (na+1)).2):∀(n:Nat) (x y z:List Ab) (d:AF) (k:Int),0<=k->(((Bq [BM (Ah l 0) (⟨#[82]⟩:my),BM (Ah l 1) (⟨#[81]⟩:my)] (nc.getD na.toNat default).Type').1.Pads.length:Int)-k).toNat<n->B7 (EH l nc v5 v8 a1 a3 a5 d1 na K0 K1 n x y z d k).2
 |0,x,y,z,d,k,_,h=>absurd h (lw _)
 |n+1,x,y,z,d,k,k0,h=>by
  unfold EH;show B7 (bif decide ((k:Int)<((Bq [BM (Ah l 0) (⟨#[82]⟩:my),BM (Ah l 1) (⟨#[81]⟩:my)] (nc.getD na.toNat default).Type').1.Pads.length:Int))then(_:AC×List AN)else _).2
  by_cases hc:(k:Int)<((Bq [BM (Ah l 0) (⟨#[82]⟩:my),BM (Ah l 1) (⟨#[81]⟩:my)] (nc.getD na.toNat default).Type').1.Pads.length:Int)
  ·rw[lj hc];exact gJ l nc v5 v8 a1 a3 a5 d1 na K0 K1 hK n _ _ _ _ _ mz mz
  rw[lk hc];exact hK _ _ _ _
theorem eu(a c:List Int)(x y:my):B7 [BM a x,BM c y]:=by
 refine⟨(by decide:((2:Nat):Int)<=1000000),fun t ht=>?_⟩;simp only[kg,lg,or_false]at ht;rcases ht with rfl|rfl<;>exact Yn _ _
theorem gK(l:List (List Int))(nc:List AD)(v5:AF)(v8:Int)(K0:List AD->AF->Int->(AC×(List AN))):∀(n:Nat) (x y z:List Ab) (d:AF) (k:Int),0<=k->(W64 (1+(AB (AB (AF.mk (Ah l 2) 0) 3).2 3).1)-k).toNat<n->B7 (Dw l nc v5 v8 K0 n x y z d k).2
 |0,x,y,z,d,k,_,h=>absurd h (lw _)
 |n+1,x,y,z,d,k,k0,h=>by
  unfold Dw
  by_cases hc:k<W64 (1+(AB (AB (AF.mk (Ah l 2) 0) 3).2 3).1)
  ·simp only[hc,ml,mi];exact gJ l nc v5 v8 x y z d k K0 _ (fun a b c e=>gK l nc v5 v8 K0 n a b c e (k+1) mz mz) _ _ _ _ _ 0 mz (lz _)
  simp only[hc,mm,mj];exact eu _ _ _ _
theorem gL(l:List (List Int)):∀(n:Nat) (v:List AD) (d:AF) (k:Int),0<=k->(W64 (1+(AB (AB (AF.mk (Ah l 2) 0) 3).2 3).1)-k).toNat<n->B7 (C9 l n v d k).2
 |0,v,d,k,_,h=>absurd h (lw _)
 |n+1,v,d,k,k0,h=>by
  unfold C9
  by_cases hc:k<W64 (1+(AB (AB (AF.mk (Ah l 2) 0) 3).2 3).1)
  ·simp only[hc,ml,mi];exact gL l n _ _ _ mz mz
  simp only[hc,mm,mj];exact gK l v d k _ _ _ _ _ _ 0 mz (lz _)
theorem S7(l:List (List Int)):B7 (AW l).2:=by
 unfold AW;exact gL l _ _ _ 0 mz (lz _)
def Ix{α:Type}[Inhabited α](P:Nat->α->Prop)(v:List α):Prop:=∀k,k<v.length->P k (v.getD k default)
theorem W5{α:Type}[Inhabited α]{P:Nat->α->Prop}:Ix P ([]:List α):=fun k h=>absurd h (lw _)
theorem W6{α:Type}[Inhabited α]{P:Nat->α->Prop}{v:List α}{x:α}(h:Ix P v)(hx:P v.length x):Ix P (v++[x]):=by
 intro k hk
 by_cases h1:k<v.length
 ·rw[aE,la h1,<- aE];exact h k h1
 have e:k=v.length:=by simp only[d9,j8,j9]at hk;omega
 subst e;rw[aE,kz (lu _),mu];exact hx
theorem tV{α:Type}[Inhabited α]{P:Nat->α->Prop}{v:List α}{x:α}(h:Ix P v)(hx:x∈v):∃k,k<v.length/\v.getD k default=x/\P k x:=by
 obtain⟨k,hk,e⟩:=List.getElem_of_mem hx;have e2:v.getD k default=x:=by rw[aE,ea hk];exact e
 exact⟨k,hk,e2,e2▸h k hk⟩
structure jy (k:Nat) (p:Bc):Prop where
 lt:k<6
 name:p.Name=Ap k
 drill:0<=p.Drill/\p.Drill<=6
 shp:∃ y:Int,0<=y/\y<=10/\p.At=AG.mk (30*(k:Int)) y/\(p.Shape=I9 (Al.mk (30*(k:Int)-6) (y-6) (30*(k:Int)+6) (y+6))\/(∃ r:Int,4<=r/\r<=6/\p.Shape=IP (AG.mk (30*(k:Int)) y) r)\/p.Shape=AQ.mk 1 [AK.mk 1 (AG.mk (30*(k:Int)-2) y) (AG.mk (30*(k:Int)+2) y) (AG.mk 0 0)] 4)
theorem Cw{d:AF}{n:Int}(h0:0<n)(h1:n<=1000000):0<=(AB d n).1/\(AB d n).1<n:=D5 d n h0 mz
theorem Uk(l:List Int)(name:my):∀(n:Nat) (v:List Bc) (d:AF) (k:Int),Ix jy v->(v.length:Int)=k->k<=W64 (2+(AB (AF.mk l 0) 5).1)->(W64 (2+(AB (AF.mk l 0) 5).1)-k).toNat<n->Ix jy (Dx l name n v d k).Pads
 |0,v,d,k,_,_,_,h=>absurd h (lw _)
 |n+1,v,d,k,hv,hl,hk,h=>by
  have hn:=Cw (d:=AF.mk l 0) (n:=5) m4 m4;have hw:W64 (2+(AB (AF.mk l 0) 5).1)=2+(AB (AF.mk l 0) 5).1:=Ae mz mz;unfold Dx
  by_cases hc:k<W64 (2+(AB (AF.mk l 0) 5).1)
  ·rw[lj hc,mi];refine Uk l name n _ _ _ (W6 hv ?_) (by simp only[d9,j8,j9];omega) mz mz;have hk6:v.length<6:=by omega
   have hy:=Cw (d:=d) (n:=2) m4 m4;have hr:=Cw (d:=(AB (AB d 2).2 3).2) (n:=3) m4 m4;have h4:=Cw (d:=Z5j d) (n:=4) m4 m4;have h2:=Cw (d:=(AB (Z5j d) 4).2) (n:=2) m4 m4;have e1:W64 (30*k)=30*(v.length:Int):=by rw[Ae mz mz];omega
   have e2:W64 (10*(AB d 2).1)=10*(AB d 2).1:=Ae mz mz;refine⟨hk6,by rw[<- hl],?_,10*(AB d 2).1,by omega,by omega,by show AG.mk _ _=_;rw[e1,e2],?_⟩
   ·show 0<=W64 (W64 (2*(AB (Z5j d) 4).1)*(AB (AB (Z5j d) 4).2 2).1)/\W64 (W64 (2*(AB (Z5j d) 4).1)*(AB (AB (Z5j d) 4).2 2).1)<=6;rw[Ae (x:=2*(AB (Z5j d) 4).1) mz mz];have h01:(AB (AB (Z5j d) 4).2 2).1=0\/(AB (AB (Z5j d) 4).2 2).1=1:=by omega
    rcases h01 with h01|h01<;>rw[h01]<;>rw[Ae mz mz]<;>omega
   show(AQ.mk _ (Z5k d k) _=_)\/_;unfold Z5k Z5f Z5i;rw[e1,e2];cases decide ((AB (AB d 2).2 3).1=0)with
   |true =>
    simp only[mi];left;rw[Ae (x:=30*(v.length:Int)-6) mz mz,Ae (x:=10*(AB d 2).1-6) mz mz,Ae (x:=30*(v.length:Int)+6) mz mz,Ae (x:=10*(AB d 2).1+6) mz mz]
   |false =>
    simp only[mj];right;cases decide ((AB (AB d 2).2 3).1=1)with
    |true =>
     simp only[mi];left;exact⟨W64 (4+(AB (AB (AB d 2).2 3).2 3).1),by rw[Ae mz mz];omega,by rw[Ae mz mz];omega,rfl⟩
    |false =>
     simp only[mj];right;rw[Ae (x:=30*(v.length:Int)-2) mz mz,Ae (x:=30*(v.length:Int)+2) mz mz]
  rw[lk hc,mj];exact hv
theorem Yo(l:List Int)(name:my):Ix jy (BM l name).Pads:=by
 have hn:=Cw (d:=AF.mk l 0) (n:=5) m4 m4;have hw:W64 (2+(AB (AF.mk l 0) 5).1)=2+(AB (AF.mk l 0) 5).1:=Ae mz mz;unfold BM;exact Uk l name _ [] _ 0 W5 rfl mz mz
abbrev nR:my:=⟨#[82]⟩
abbrev nQ:my:=⟨#[81]⟩
abbrev refs3:List my:=[(⟨#[82,49]⟩:my),(⟨#[82,50]⟩:my),(⟨#[120,47,82,49]⟩:my)]
structure VM (k:Nat) (p:AD):Prop where
 id:p.Id=1+(k:Int)
 ref:p.Ref=refs3.getD k ⟨#[]⟩
 typ:p.Type'=nR\/p.Type'=nQ
 turn:0<=p.Turn/\p.Turn<4
 x:80<=p.At.X/\p.At.X<=300
 y:100<=p.At.Y/\p.At.Y<=270
abbrev Ni(l:List (List Int)):List AN:=[Z6i l,Z6j l]
theorem jA(l:List (List Int)){i:Int}(hi:0<=i/\i<2):((Ni l).getD i.toNat default).Name=nR\/((Ni l).getD i.toNat default).Name=nQ:=by
 have h01:i=0\/i=1:=by omega
 rcases h01 with rfl|rfl
 ·exact .inl (HM _ _).1
 exact .inr (HM _ _).1
theorem Xv(l:List (List Int)){x:my}(h:x=nR\/x=nQ):∃a,Bq (Ni l) x=(BM a x,true)/\BM a x∈Ni l:=by
 have h0:=(HM (Ah l 0) nR).1;have h1:=(HM (Ah l 1) nQ).1;rcases h with rfl|rfl
 ·refine⟨Ah l 0,?_,li ..⟩;have:=Uv (a:=Z6i l) (c:=Z6j l);rw[show(Z6i l).Name=nR from h0]at this;exact this
 refine⟨Ah l 1,?_,lh _ (li ..)⟩;have:=Uu (a:=Z6i l) (c:=Z6j l) (by rw[show(Z6i l).Name=nR from h0,show(Z6j l).Name=nQ from h1];decide +kernel);rw[show(Z6j l).Name=nQ from h1]at this;exact this
theorem uL(l:List (List Int)){x:my}(h:x=nR\/x=nQ):((Bq (Ni l) x).1.Pads.length:Int)<=6:=by
 obtain⟨a,e,_⟩:=Xv l h;rw[e];exact(HM a x).2.2
theorem Sm(nj:AF)(v:List Ab)(nc:List AD)(na:Int)(l:List (List Int))(nb:Int):(Z70 nj v nc na l nb).length<=v.length+1/\(Z71 nj v nc na l nb).length<=v.length+1/\(Z72 nj v nc na l nb).length<=v.length+1:=by
 unfold Z70 Z71 Z72;cases decide ((AB nj 5).1<3)<;>cases decide ((AB nj 5).1=0)<;>cases decide ((AB nj 5).1=1)<;>simp
theorem gP(l:List (List Int))(nc:List AD)(v5:AF)(v8:Int)(a1 a3 a5:List Ab)(d1:AF)(na:Int)(K0:List AD->AF->Int->(AC×(List AN)))(K1:List Ab->List Ab->List Ab->AF->Int->(AC×(List AN)))(Q:AC×List AN->Prop)(M:Nat)(hK:∀a b c d,a.length<=M->b.length<=M->c.length<=M->Q (K1 a b c d (na+1))) :
  ∀(n:Nat) (x y z:List Ab) (d:AF) (k:Int),0<=k->(x.length:Int)+((Z6R l nc na).Pads.length-k)<=M->(y.length:Int)+((Z6R l nc na).Pads.length-k)<=M->(z.length:Int)+((Z6R l nc na).Pads.length-k)<=M->k<=(Z6R l nc na).Pads.length->(((Z6R l nc na).Pads.length:Int)-k).toNat<n->Q (EH l nc v5 v8 a1 a3 a5 d1 na K0 K1 n x y z d k)
 |0,x,y,z,d,k,_,_,_,_,_,h=>absurd h (lw _)
 |n+1,x,y,z,d,k,k0,hx,hy,hz,hk,h=>by
  unfold EH
  by_cases hc:(k:Int)<((Z6R l nc na).Pads.length:Int)
  ·rw[lj hc,mi];have p1:=(Sm d x nc na l k).1;have p2:=(Sm d y nc na l k).2.1;have p3:=(Sm d z nc na l k).2.2;exact gP l nc v5 v8 a1 a3 a5 d1 na K0 K1 Q M hK n _ _ _ _ _ mz mz mz mz mz mz
  rw[lk hc,mj];exact hK _ _ _ _ mz mz mz
theorem gQ(l:List (List Int))(nc:List AD)(v5:AF)(v8:Int)(K0:List AD->AF->Int->(AC×(List AN)))(Q:AC×List AN->Prop)(hp:Ix VM nc)(hm:(nc.length:Int)=W64 (1+(AB (AB (AF.mk (Ah l 2) 0) 3).2 3).1))(h3:nc.length<=3)(hQ:∀x y z:List Ab,x.length<=18->y.length<=18->z.length<=18->Q ((Z78 l nc x y z).1,Ni l)) :
  ∀(n:Nat) (x y z:List Ab) (d:AF) (k:Int),0<=k->(x.length:Int)<=6*k->(y.length:Int)<=6*k->(z.length:Int)<=6*k->k<=(nc.length:Int)->((nc.length:Int)-k).toNat<n->Q (Dw l nc v5 v8 K0 n x y z d k)
 |0,x,y,z,d,k,_,_,_,_,_,h=>absurd h (lw _)
 |n+1,x,y,z,d,k,k0,hx,hy,hz,hk,h=>by
  unfold Dw;rw[<- hm]
  by_cases hc:k<(nc.length:Int)
  ·rw[lj hc,mi];have hg:=uL l (hp k.toNat mz).typ;have hg:((Z6R l nc k).Pads.length:Int)<=6:=hg;exact gP l nc v5 v8 x y z d k K0 _ Q (6*(k+1)).toNat (fun a b c e ha hb hc'=>gQ l nc v5 v8 K0 Q hp hm h3 hQ n a b c e (k+1) mz mz mz mz mz mz) _ _ _ _ _ 0 mz mz mz mz mz mz
  rw[lk hc,mj];exact hQ _ _ _ mz mz mz
theorem gR(l:List (List Int))(Q:AC×List AN->Prop)(hQ:∀(v:List AD) (x y z:List Ab),Ix VM v->1<=v.length->v.length<=3->x.length<=18->y.length<=18->z.length<=18->Q ((Z78 l v x y z).1,Ni l)) :
  ∀(n:Nat) (v:List AD) (d:AF) (k:Int),Ix VM v->(v.length:Int)=k->k<=W64 (1+(AB (AB (AF.mk (Ah l 2) 0) 3).2 3).1)->(W64 (1+(AB (AB (AF.mk (Ah l 2) 0) 3).2 3).1)-k).toNat<n->Q (C9 l n v d k)
 |0,v,d,k,_,_,_,h=>absurd h (lw _)
 |n+1,v,d,k,hv,hl,hk,h=>by
  have hn:=Cw (d:=(AB (AF.mk (Ah l 2) 0) 3).2) (n:=3) m4 m4;have hw:W64 (1+(AB (AB (AF.mk (Ah l 2) 0) 3).2 3).1)=1+(AB (AB (AF.mk (Ah l 2) 0) 3).2 3).1:=Ae mz mz;unfold C9
  by_cases hc:k<W64 (1+(AB (AB (AF.mk (Ah l 2) 0) 3).2 3).1)
  ·rw[lj hc,mi];refine gR l Q hQ n _ _ _ (W6 hv ?_) (by simp only[d9,j8,j9];omega) mz mz;have h2:=Cw (d:=d) (n:=2) m4 m4;have h4:=Cw (d:=(AB d 2).2) (n:=4) m4 m4;have h5:=Cw (d:=Z6D d) (n:=5) m4 m4;have h6:=Cw (d:=(AB (Z6D d) 5).2) (n:=3) m4 m4;have h7:=Cw (d:=Z6G d) (n:=3) m4 m4;refine⟨?_,by rw[<- hl];rfl,jA l h2,h4,?_,?_⟩
   ·show W64 (1+k)=_;rw[Ae mz mz];omega
   ·show 80<=W64 (W64 (80+W64 (100*k))+W64 (5*(AB (Z6D d) 5).1))/\W64 (W64 (80+W64 (100*k))+W64 (5*(AB (Z6D d) 5).1))<=300;rw[Ae (x:=100*k) mz mz,Ae (x:=80+100*k) mz mz,Ae (x:=5*(AB (Z6D d) 5).1) mz mz,Ae mz mz];omega
   show 100<=W64 (W64 (100+W64 (80*(AB (AB (Z6D d) 5).2 3).1))+W64 (5*(AB (Z6G d) 3).1))/\W64 (W64 (100+W64 (80*(AB (AB (Z6D d) 5).2 3).1))+W64 (5*(AB (Z6G d) 3).1))<=270;rw[Ae (x:=80*(AB (AB (Z6D d) 5).2 3).1) mz mz,Ae (x:=100+80*(AB (AB (Z6D d) 5).2 3).1) mz mz,Ae (x:=5*(AB (Z6G d) 3).1) mz mz,Ae mz mz];omega
  rw[lk hc,mj];exact gQ l v d k _ Q hv mz mz (fun x y z hx hy hz=>hQ v x y z hv mz mz hx hy hz) _ [] [] [] _ 0 mz m3 m3 m3 mz mz
theorem S8(l:List (List Int))(Q:AC×List AN->Prop)(hQ:∀(v:List AD) (x y z:List Ab),Ix VM v->1<=v.length->v.length<=3->x.length<=18->y.length<=18->z.length<=18->Q ((Z78 l v x y z).1,Ni l)):Q (AW l):=by
 have hn:=Cw (d:=(AB (AF.mk (Ah l 2) 0) 3).2) (n:=3) m4 m4;have hw:W64 (1+(AB (AB (AF.mk (Ah l 2) 0) 3).2 3).1)=1+(AB (AB (AF.mk (Ah l 2) 0) 3).2 3).1:=Ae mz mz;unfold AW;exact gR l Q hQ _ [] _ 0 W5 rfl mz mz
def PtB(p:AG):Prop:=(-900<=p.X/\p.X<=900) /\ -900<=p.Y/\p.Y<=900
theorem S2{x:Int}(h : -500<=x/\x<=500) : -500<=W64 (0-x)/\W64 (0-x)<=500:=by rw[Ae mz mz];omega
theorem wU{x y:Int}(h : -500<=x/\x<=500)(k : -400<=y/\y<=400) : -900<=W64 (x+y)/\W64 (x+y)<=900:=by rw[Ae mz mz];omega
theorem wO{m:Am}{p:AG}(hp:(-500<=p.X/\p.X<=500) /\ -500<=p.Y/\p.Y<=500)(ha:(-400<=m.At.X/\m.At.X<=400) /\ -400<=m.At.Y/\m.At.Y<=400):PtB (BB m p):=by
 have h1:(-500<=(C1 p m.Mirror).X/\(C1 p m.Mirror).X<=500) /\ -500<=(C1 p m.Mirror).Y/\(C1 p m.Mirror).Y<=500:=by
  unfold C1;cases m.Mirror with
  |true=>exact⟨S2 hp.1,hp.2⟩
  |false=>exact hp
 have h2:∀q:AG,((-500<=q.X/\q.X<=500) /\ -500<=q.Y/\q.Y<=500)->(-500<=(Cs q m.Turn).X/\(Cs q m.Turn).X<=500) /\ -500<=(Cs q m.Turn).Y/\(Cs q m.Turn).Y<=500:=fun q hq=>by
  unfold Cs;cases decide (DF m.Turn=1)with
  |true=>exact⟨S2 hq.2,hq.1⟩
  |false =>
   cases decide (DF m.Turn=2)with
   |true=>exact⟨S2 hq.1,S2 hq.2⟩
   |false =>
    cases decide (DF m.Turn=3)with
    |true=>exact⟨hq.2,S2 hq.1⟩
    |false=>exact hq
 have h3:=h2 _ h1;exact⟨wU h3.1 ha.1,wU h3.2 ha.2⟩
theorem xL(b:AC)(l:List (List Int))(d:AF)(hP:Ix VM b.Parts):PtB (CD b (Ni l) d).1:=by
 have h12:=Cw (d:=d) (n:=12) m4 m4;have h6:=Cw (d:=(AB d 12).2) (n:=6) m4 m4;unfold CD;cases hq:(bif decide ((AB d 12).1<8)then decide ((0:Int)<(b.Parts.length:Int))else false)with
 |true =>
  have hi:=Xy hq;rw[mi];show PtB (Z2d b d (Ni l));have hp:=hP (Int.tmod (AB d 12).1 (b.Parts.length:Int)).toNat mz;obtain⟨a,e,_⟩:=Xv l hp.typ;have hx:=hp.x;have hy:=hp.y;unfold Z2d;refine wO ?_ (by show(-400<=(Z2b b d).At.X/\(Z2b b d).At.X<=400) /\ -400<=(Z2b b d).At.Y/\(Z2b b d).At.Y<=400;unfold Z2b;omega);unfold Z2c Z2b;rw[e];generalize (Int.tmod (AB (AB d 12).2 6).1 _).toNat=k
  by_cases hk:k<(BM a (b.Parts.getD (Int.tmod (AB d 12).1 (b.Parts.length:Int)).toNat default).Type').Pads.length
  ·obtain⟨h1,_,_,y,hy0,hy1,hat,_⟩:=Yo a _ k hk;show(-500<=((BM a (b.Parts.getD (Int.tmod (AB d 12).1 (b.Parts.length:Int)).toNat default).Type').Pads.getD k default).At.X/\_)/\_;rw[hat];simp only;omega
  rw[aE,cw (by show(BM a (b.Parts.getD (Int.tmod (AB d 12).1 (b.Parts.length:Int)).toNat default).Type').Pads.length<=k;omega)];exact(by decide:(-500<=(0:Int)/\(0:Int)<=500) /\ -500<=(0:Int)/\(0:Int)<=500)
 |false =>
  rw[mj];show(-900<=W64 (30+Int.tmod (W64 (40*(AB d 12).1)) 360)/\W64 (30+Int.tmod (W64 (40*(AB d 12).1)) 360)<=900) /\ -900<=W64 (30+W64 (60*(AB (AB d 12).2 6).1))/\W64 (30+W64 (60*(AB (AB d 12).2 6).1))<=900;rw[Ae (x:=40*(AB d 12).1) mz mz,Int.tmod_eq_emod_of_nonneg mz,Ae (x:=60*(AB (AB d 12).2 6).1) mz mz,Ae mz mz,Ae mz mz];omega
structure Tm (k:Nat) (t:AM):Prop where
 id:t.Id=11+(k:Int)
 lay:1<=t.Layer/\t.Layer<=2
 kind:t.Shape.Kind=1
 r:3<=t.Shape.R/\t.Shape.R<=6
 edg:∃ a c d,PtB a/\PtB c/\t.Shape.Edges=(DX a c d).1
structure b7 (k:Nat) (v:Ak):Prop where
 id:v.Id=21+(k:Int)
 lay:v.From=1/\v.To=2
 r:6<=v.R/\v.R<=10
 at_:PtB v.At
 drill:4<=v.Drill/\v.Drill<=8
def d7(s:AX):Prop:=∃r p,3<=r/\r<=6/\PtB p/\s.Shape=AQ.mk 1 [E2 p (AG.mk (W64 (p.X+25)) (W64 (p.Y+10)))] r
def iW(p:A8):Prop:=p.Rects.length<=2
def iX(p:BA):Prop:=p.Shape.Edges.length=4
abbrev iT(b:AC)(m9:List AN):Prop:=∀d,PtB (CD (AC.mk b.Layers b.Outline b.Parts [] [] [] [] [] [] [] [] [] []) m9 d).1
abbrev b9(b:AC)(Q:AC->Prop):Prop:=∀(v1:List AM) (v2:List Ak) (v3:List A8) (v4:List BA) (v5:List AX),Ix Tm v1->v1.length<=5->Ix b7 v2->v2.length<=2->v3.length<=2->v4.length<=1->v5.length<=1->(∀s∈v5,d7 s)->(∀p∈v3,iW p)->(∀p∈v4,iX p)->Q (AC.mk b.Layers b.Outline b.Parts b.Nets v1 v2 v3 v4 v5 [] [] [] [])
theorem sI(b:AC)(m9:List AN)(l:List (List Int))(v1:List AM)(v6:AF)(v7:my)(v9:Int)(v2:List Ak)(nk:AF)(ob:Int)(K0:List AM->AF->my->Int->AC)(K1:List Ak->AF->Int->AC)(Q:AC->Prop)(hs:iT b m9)(hQ:b9 b Q)(h1:Ix Tm v1)(h1l:v1.length<=5)(h2:Ix b7 v2)(h2l:v2.length<=2) :
  ∀(n:Nat) (v:List A8) (d:AF) (k:Int),(∀p∈v,iW p)->0<=k->(v.length:Int)<=k->k<=(AB nk 3).1->((AB nk 3).1-k).toNat<n->Q (Co b m9 l v1 v6 v7 v9 v2 nk ob K0 K1 n v d k)
 |0,v,d,k,_,_,_,_,h=>absurd h (lw _)
 |n+1,v,d,k,hv,k0,kv,kk,h=>by
  have hb:=Cw (d:=nk) (n:=3) m4 m4;unfold Co
  by_cases hc:k<(AB nk 3).1
  ·rw[lj hc,mi];exact sI b m9 l v1 v6 v7 v9 v2 nk ob K0 K1 Q hs hQ h1 h1l h2 h2l n _ _ _ (fun p hp=>by
    rcases List.mem_append.1 hp with hp|hp
    ·exact hv p hp
    rw[List.mem_singleton.1 hp];show(Z3G b d).length<=2;unfold Z3G;cases decide ((AB (AB (Z3y b d) 6).2 3).1=0)<;>simp) mz (by simp only[d9,j8,j9];omega) mz mz
  rw[lk hc,mj];have h4:(Z2D l b m9).length<=1:=by
   unfold Z2D;cases decide ((AB (AF.mk (Ah l 6) 0) 3).1=0)<;>simp
  have h4k:∀p∈Z2D l b m9,iX p:=by
   unfold Z2D;cases decide ((AB (AF.mk (Ah l 6) 0) 3).1=0)with
   |true=>intro p hp;rw[mi]at hp;rw[List.mem_singleton.1 hp];rfl
   |false=>intro p hp;cases hp
  cases decide ((AB (Z2C l b m9) 3).1=0)with
  |true =>
   rw[mi];refine hQ _ _ _ _ _ h1 h1l h2 h2l mz h4 m3 (fun s hm=>?_) hv h4k;rw[List.mem_singleton.1 hm];have hr:=Cw (d:=Z2I b m9 l) (n:=4) m4 m4;exact⟨W64 (3+(AB (Z2I b m9 l) 4).1),Z2J b m9 l,by rw[Ae mz mz];omega,by rw[Ae mz mz];omega,hs _,rfl⟩
  |false =>
   rw[mj];exact hQ _ _ _ _ _ h1 h1l h2 h2l mz h4 m3 (fun s hm=>by cases hm) hv h4k
theorem sJ(b:AC)(m9:List AN)(l:List (List Int))(v1:List AM)(v6:AF)(v7:my)(v9:Int)(K0:List AM->AF->my->Int->AC)(Q:AC->Prop)(hs:iT b m9)(hQ:b9 b Q)(h1:Ix Tm v1)(h1l:v1.length<=5) :
  ∀(n:Nat) (v:List Ak) (d:AF) (k:Int),Ix b7 v->(v.length:Int)=k->k<=(AB (AF.mk (Ah l 5) 0) 3).1->((AB (AF.mk (Ah l 5) 0) 3).1-k).toNat<n->Q (C2 b m9 l v1 v6 v7 v9 K0 n v d k)
 |0,v,d,k,_,_,_,h=>absurd h (lw _)
 |n+1,v,d,k,hv,kv,kk,h=>by
  have hb:=Cw (d:=AF.mk (Ah l 5) 0) (n:=3) m4 m4;unfold C2
  by_cases hc:k<(AB (AF.mk (Ah l 5) 0) 3).1
  ·rw[lj hc,mi];refine sJ b m9 l v1 v6 v7 v9 K0 Q hs hQ h1 h1l n _ _ _ (W6 hv ?_) (by simp only[d9,j8,j9];omega) mz mz;have h5:=Cw (d:=Z3d b m9 d) (n:=5) m4 m4;have h3:=Cw (d:=(AB (Z3d b m9 d) 5).2) (n:=3) m4 m4;refine⟨?_,⟨rfl,rfl⟩,?_,hs _,?_⟩
   ·show W64 (21+k)=_;rw[Ae mz mz];omega
   ·show 6<=W64 (6+_)/\W64 (6+_)<=10;rw[Ae mz mz];omega
   show 4<=W64 (4+W64 (2*_))/\W64 (4+W64 (2*_))<=8;rw[Ae (x:=2*_) mz mz,Ae mz mz];omega
  rw[lk hc,mj];have hd:=Cw (d:=d) (n:=3) m4 m4;exact sI b m9 l v1 v6 v7 v9 v d k K0 _ Q hs hQ h1 h1l hv mz _ [] _ 0 (fun p hp=>by cases hp) mz m3 mz mz
theorem sK(b:AC)(m9:List AN)(l:List (List Int))(Q:AC->Prop)(hs:iT b m9)(hQ:b9 b Q) :
  ∀(n:Nat) (v:List AM) (d:AF) (s:my) (k:Int),Ix Tm v->(v.length:Int)=k->k<=(AB (Z2o b l) 6).1->((AB (Z2o b l) 6).1-k).toNat<n->Q (CU b m9 l n v d s k)
 |0,v,d,s,k,_,_,_,h=>absurd h (lw _)
 |n+1,v,d,s,k,hv,kv,kk,h=>by
  have hb:=Cw (d:=Z2o b l) (n:=6) m4 m4;unfold CU
  by_cases hc:k<(AB (Z2o b l) 6).1
  ·rw[lj hc,mi];refine sK b m9 l Q hs hQ n _ _ _ _ (W6 hv ?_) (by simp only[d9,j8,j9];omega) mz mz;have h2:=Cw (d:=d) (n:=2) m4 m4;have h4:=Cw (d:=(AB d 2).2) (n:=4) m4 m4;refine⟨?_,?_,rfl,?_,_,_,_,?_,?_,rfl⟩
   ·show W64 (11+k)=_;rw[Ae mz mz];omega
   ·show 1<=W64 (1+_)/\W64 (1+_)<=2;rw[Ae mz mz];omega
   ·show 3<=W64 (3+_)/\W64 (3+_)<=6;rw[Ae mz mz];omega
   ·exact hs _
   exact hs _
  rw[lk hc,mj];exact sJ b m9 l v d s k _ Q hs hQ hv mz _ [] _ 0 W5 rfl (by have:=Cw (d:=AF.mk (Ah l 5) 0) (n:=3) m4 m4;omega) mz
theorem zU(b:AC)(m9:List AN)(l:List (List Int))(Q:AC->Prop)(hs:iT b m9)(hQ:b9 b Q):Q (BW b m9 l):=by
 have hb:=Cw (d:=Z2o b l) (n:=6) m4 m4;unfold BW;exact sK b m9 l Q hs hQ _ [] _ _ 0 W5 rfl mz mz
structure Ql (B:AC) (T:List AN) (l:List (List Int)):Prop where
 lay:B.Layers=2
 types:T=Ni l
 par:Ix VM B.Parts
 parl:1<=B.Parts.length/\B.Parts.length<=3
 net:∃ p q r,B.Nets=[A7.mk nN1 p,A7.mk nN2 q,A7.mk ac r]/\p.length<=18/\q.length<=18/\r.length<=18
 trk:Ix Tm B.Tracks
 trkl:B.Tracks.length<=5
 via:Ix b7 B.Vias
 vial:B.Vias.length<=2
 slot:∀ s∈B.Slots,d7 s
 slotl:B.Slots.length<=1
 poul:B.Pours.length<=2
 keel:B.Keeps.length<=1
 pour:∀ p∈B.Pours,iW p
 keep:∀ p∈B.Keeps,iX p
theorem iu{α:Type}{c:Bool}{a b:AC×α}{T:List AN}{l:List (List Int)}(h:Ql a.1 T l)(k:Ql b.1 T l):Ql (bif c then a else b).1 T l:=by cases c<;>assumption
theorem Wx(l:List (List Int)):Ql (AW l).1 (AW l).2 l:=by
 refine S8 l (fun x=>Ql x.1 x.2 l) fun v x y z hv h1 h3 hx hy hz=>?_;show Ql (Z78 l v x y z).1 (Ni l) l;unfold Z78;have ho:=zU (AC.mk 2 (Z6q l) v [A7.mk nN1 x,A7.mk nN2 y,A7.mk ac z] [] [] [] [] [] [] [] [] []) (Ni l) l
  (fun B=>Ql B (Ni l) l) (fun d=>xL _ l d hv) (fun v1 v2 v3 v4 v5 a b c e f g h i j k=>⟨rfl,rfl,hv,⟨h1,h3⟩,⟨x,y,z,rfl,hx,hy,hz⟩,a,b,c,e,i,h,f,g,j,k⟩)
 have ho:Ql (Z76 l v x y z) (Ni l) l:=ho;obtain⟨a1,a2,a3,a4,a5,a6,a7,a8,a9,a10,a11,a12,a13,a14,a15⟩:=ho;unfold DW;exact iu ⟨a1,a2,a3,a4,a5,a6,a7,a8,a9,a10,a11,a12,a13,a14,a15⟩ ⟨a1,a2,a3,a4,a5,a6,a7,a8,a9,a10,a11,a12,a13,a14,a15⟩
def C27(x:Int):Prop := -67108864<=x/\x<=67108864
def RP(p:AG):Prop:=C27 p.X/\C27 p.Y
instance (x:Int):Decidable (C27 x):=by unfold C27;infer_instance
instance (p:AG):Decidable (RP p):=by unfold RP;infer_instance
def Odd(e:AK):Prop:=¬ (e.A.X-e.C.X=0↔e.A.Y-e.C.Y=0)
def QL(e:AK):Prop:=Odd e/\e.B.X-e.C.X = -(e.A.Y-e.C.Y)/\e.B.Y-e.C.Y=e.A.X-e.C.X
def QR(e:AK):Prop:=Odd e/\e.B.X-e.C.X=e.A.Y-e.C.Y/\e.B.Y-e.C.Y = -(e.A.X-e.C.X)
def dZ(e:AK):Prop:=RP e.A/\RP e.B/\RP e.C
def j1(e:AK):Prop:=(e.Kind=1/\e.C.X=0/\e.C.Y=0)\/(e.Kind=2/\QL e)\/(e.Kind=3/\QR e)
def OkE(e:AK):Prop:=dZ e/\j1 e
instance (e:AK):Decidable (QL e):=by unfold QL Odd;infer_instance
instance (e:AK):Decidable (QR e):=by unfold QR Odd;infer_instance
instance (e:AK):Decidable (dZ e):=by unfold dZ;infer_instance
instance (e:AK):Decidable (j1 e):=by unfold j1;infer_instance
instance (e:AK):Decidable (OkE e):=by unfold OkE;infer_instance
def cr(a b p:AG):Int:=(b.X-a.X)*(p.Y-a.Y)-(b.Y-a.Y)*(p.X-a.X)
def d2(p c:AG):Int:=(p.X-c.X)*(p.X-c.X)+(p.Y-c.Y)*(p.Y-c.Y)
def InB(e:AK)(p:AG):Prop:=(min e.A.X e.B.X<=p.X/\p.X<=max e.A.X e.B.X)/\min e.A.Y e.B.Y<=p.Y/\p.Y<=max e.A.Y e.B.Y
instance (e:AK) (p:AG):Decidable (InB e p):=by unfold InB;infer_instance
def QB(e:AK):Prop:=e.C.X<e.A.X\/e.C.X<e.B.X
instance (e:AK):Decidable (QB e):=by unfold QB;infer_instance
def Bey(e:AK)(p:AG):Prop:=if e.Kind=1 then(if e.A.Y<e.B.Y then 0<cr e.A e.B p else cr e.A e.B p<0)else if QB e then d2 p e.C<d2 e.A e.C else d2 e.A e.C<d2 p e.C
instance (e:AK) (p:AG):Decidable (Bey e p):=by unfold Bey;infer_instance
def InR(e:AK)(p:AG):Prop:=(min e.A.Y e.B.Y<=p.Y/\p.Y<max e.A.Y e.B.Y)/\p.X<max e.A.X e.B.X
instance (e:AK) (p:AG):Decidable (InR e p):=by unfold InR;infer_instance
theorem dJ{α:Type}[Inhabited α]{l:List α}{k:Nat}(h:k<l.length):l.drop k=l.getD k default::l.drop (k+1):=by
 rw[List.drop_eq_getElem_cons h,aE,ea h];rfl
theorem Yh(s:AQ)(m:Am):∀(n k:Nat) (l:List AK),k<=s.Edges.length->s.Edges.length-k<n->l=(s.Edges.take k).map (fun e=>FD e m)++s.Edges.drop k->HZ s m n l (k:Int)=⟨s.Kind,s.Edges.map (fun e=>FD e m),s.R⟩
 |0,k,l,hk,hn,_=>by omega
 |n+1,k,l,hk,hn,hl=>by
  unfold HZ
  by_cases hlt:k<s.Edges.length
  ·rw[lj (show(k:Int)<(s.Edges.length:Int)by omega)];simp only[mi,l9];rw[show((k:Int)+1)=((k+1:Nat):Int)by omega];refine Yh s m n (k+1) _ mz mz ?_;subst hl;have hlen:((s.Edges.take k).map (fun e=>FD e m)).length=k:=by simp;omega
   have hd:s.Edges.drop k=s.Edges[k]::s.Edges.drop (k+1):=List.drop_eq_getElem_cons hlt;rw[hd];have h1:((s.Edges.take k).map (fun e=>FD e m)++s.Edges[k]::s.Edges.drop (k+1)).getD k default=s.Edges[k]:=by
    rw[aE,kz mz,hlen,mu];rfl
   rw[h1,List.set_append_right _ _ mz,hlen,mu,List.set_cons_zero,List.take_succ_eq_append_getElem hlt,List.map_append,List.append_assoc];rfl
  rw[lk (show ¬ (k:Int)<(s.Edges.length:Int)by omega)];subst hl;rw[List.drop_of_length_le mz,ky mz,ko];rfl
theorem Yi(s:AQ)(m:Am):Ha s m=⟨s.Kind,s.Edges.map (fun e=>FD e m),s.R⟩:=by
 unfold Ha;have:=Yh s m (((s.Edges.length:Int)-0).toNat+1) 0 s.Edges mz mz m3;exact this
theorem kL(s:AQ)(m:Am):(Ha s m).Edges.length=s.Edges.length:=by rw[Yi];simp
theorem ct(t:Int):A64 t 3=t % 4:=by
 unfold A64;have h3:(BitVec.ofInt 64 3).toNat=2 ^ 2-1:=by decide
 rw[BitVec.toNat_and,h3,Nat.and_two_pow_sub_one_eq_mod,BitVec.toNat_ofInt,IntKind.wrap_i64];omega
theorem bA(t:Int):DF t=t % 4:=by
 unfold DF;rcases Int.lt_or_le t 0 with h|h
 ·have b1:=Int.emod_nonneg (-t) (show(4:Int)≠0 by omega);rw[show t.tmod 4 = -((-t) % 4)by rw[<- Int.tmod_eq_emod_of_nonneg mz,Int.neg_tmod,Int.neg_neg]];rw[Ae mz mz,Int.tmod_eq_emod_of_nonneg mz];omega
 rw[Int.tmod_eq_emod_of_nonneg h,Ae mz mz,Int.tmod_eq_emod_of_nonneg mz];omega
structure Mat where
 a:Int
 b:Int
 c:Int
 d:Int
def Mat.ok(M:Mat)(s:Int):Prop:=(M.a=0/\M.d=0/\(M.b=1\/M.b = -1)/\M.c = -s*M.b)\/(M.b=0/\M.c=0/\(M.a=1\/M.a = -1)/\M.d=s*M.a)
theorem RB(a c:Ab):BR a c=true↔a=c:=by
 constructor
 ·intro h;unfold BR at h;obtain⟨a1,a2⟩:=a;obtain⟨c1,c2⟩:=c;simp only[me]at h;rw[wK h.1,wK h.2]
 rintro rfl;unfold BR eqS;simp
def TC(v:List (Ab×my))(q:Ab):my:=match v.find? (fun e=>BR e.1 q)with
 |some e=>e.2
 |none=>⟨#[]⟩
theorem ap(v:List (Ab×my))(q:Ab):(bif GB BR v q then(v.getD (Ec BR v q) default).2 else⟨#[]⟩)=TC v q:=by
 unfold GB Ec TC;induction v with
 |nil=>rfl
 |cons e v ih =>
  rw[List.any_cons,List.findIdx_cons,List.find?_cons];cases h:BR e.1 q with
  |true=>rfl
  |false=>exact ih
theorem tM(v:List (Ab×my))(k q:Ab)(x:my):TC (J7 BR v k x) q=bif BR k q then x else TC v q:=by
 have hn:J7 BR [] k x=[(k,x)]:=rfl;have hc:∀e (w:List (Ab×my)),J7 BR (e::w) k x=bif BR e.1 k then(k,x)::w else e::J7 BR w k x:=fun e w=>by
  unfold J7 GB Ec;rw[List.any_cons,List.findIdx_cons];cases h:BR e.1 k with
  |true=>rfl
  |false =>
   simp only[mh,mj];cases w.any (fun e=>BR e.1 k)<;>rfl
 induction v with
 |nil =>
  rw[hn];unfold TC;rw[List.find?_cons];cases BR k q<;>rfl
 |cons e v ih =>
  rw[hc];cases h1:BR e.1 k with
  |true =>
   have e1:=(RB e.1 k).1 h1;rw[mi];unfold TC;rw[List.find?_cons,List.find?_cons,e1];cases BR k q<;>rfl
  |false =>
   rw[mj];unfold TC at ih ⊢;rw[List.find?_cons,List.find?_cons];cases h2:BR e.1 q with
   |true =>
    have e2:=(RB e.1 q).1 h2;cases h3:BR k q with
    |true =>
     rw[(RB k q).1 h3,<- e2,(RB e.1 e.1).2 rfl]at h1;cases h1
    |false=>rfl
   |false=>exact ih
theorem Yp(n:A7)(q:Ab):∀(ps:List Ab) (v:List (Ab×my)),TC (ps.foldl (fun v p=>J7 BR v p n.Name) v) q=bif ps.any (fun p=>BR p q)then n.Name else TC v q
 |[],v=>rfl
 |p::ps,v=>by
  rw[List.foldl_cons,Yp n q ps,tM,List.any_cons];cases h1:BR p q with
  |true =>
   cases ps.any (fun p=>BR p q)<;>rfl
  |false=>rw[mj,mh]
theorem kR(b:AC)(q:Ab):TC (M8 b) q=match b.Nets.find? (fun n=>n.Pins.any fun p=>BR p q)with|some n=>n.Name|none=>⟨#[]⟩:=by
 unfold M8;rw[List.foldl_reverse];generalize b.Nets=l;induction l with
 |nil=>rfl
 |cons n l ih =>
  rw[List.foldr_cons,List.find?_cons];unfold sV;rw[Yp];cases n.Pins.any (fun p=>BR p q)with
  |true=>rfl
  |false=>exact ih
theorem EL(m:Am)(p:AG):BV m p=BB m p:=by
 have ht:Da m=m.Turn % 4:=ct m.Turn;unfold BB Z09 C1 Cs BV;rw[bA];generalize (bif m.Mirror then(W64 (0-p.X))else p.X)=x at *;have h4:m.Turn % 4=0\/m.Turn % 4=1\/m.Turn % 4=2\/m.Turn % 4=3:=by omega
 rcases h4 with h|h|h|h<;>rw[h]at ht ⊢<;>rw[ht]
 ·show Cr m p 1 ⟨x,p.Y⟩ 0=_;simp only[Cr,ht,Int.reduceLT,mm,mj,LC,Fp,Int.reduceEq,if_true]
 ·show Cr m p 2 ⟨x,p.Y⟩ 0=_;simp only[Cr,ht,Int.reduceLT,Int.reduceAdd,ml,mi,mm,mj,LC,Fp,Int.reduceEq,if_true,if_false]
 ·show Cr m p 3 ⟨x,p.Y⟩ 0=_;simp only[Cr,ht,Int.reduceLT,Int.reduceAdd,ml,mi,mm,mj,LC,Fp,Int.reduceEq,if_true,if_false]
 show Cr m p 4 ⟨x,p.Y⟩ 0=_;have e:∀u v:Int,W64 (W64 (0-W64 (0-u))+v)=W64 (u+v):=fun u v=>by simp only[Bz];omega
 simp only[Cr,ht,Int.reduceLT,Int.reduceAdd,ml,mi,mm,mj,LC,Fp,Int.reduceEq,if_false,e]
theorem sW(e:AK)(m:Am):FD e m=I7 e m:=by
 obtain⟨k,a,b,c⟩:=e;unfold FD I7;simp only
 by_cases h1:k=1
 ·subst h1;rw[if_pos rfl];unfold T9 Dt;rw[EL,EL];cases m.Mirror<;>rfl
 rw[if_neg h1]
 by_cases h2:k=2
 ·subst h2;rw[if_pos rfl];unfold T8 Dt;rw[EL,EL,EL];cases m.Mirror<;>rfl
 rw[if_neg h2]
 by_cases h3:k=3
 ·subst h3;rw[if_pos rfl];unfold T7 Dt;rw[EL,EL,EL];cases m.Mirror<;>rfl
 rw[if_neg h3];unfold T6 Dt;simp only;rw[EL,EL,EL,lk h2,lk h3];cases m.Mirror<;>rfl
theorem Yj(s:AQ)(m:Am):∀(n k:Nat) (l:List AK),k<=s.Edges.length->s.Edges.length-k<n->GS s m n l (k:Int)=⟨s.Kind,l++(s.Edges.drop k).map (fun e=>FD e m),s.R⟩
 |0,k,l,hk,hn=>by omega
 |n+1,k,l,hk,hn=>by
  unfold GS
  by_cases hlt:k<s.Edges.length
  ·rw[lj (show(k:Int)<(s.Edges.length:Int)by omega)];simp only[mi];rw[show((k:Int)+1)=((k+1:Nat):Int)by omega,Yj s m n (k+1) _ mz mz,dJ hlt];unfold Z1h;rw[l9,<- sW];simp
  rw[lk (show ¬ (k:Int)<(s.Edges.length:Int)by omega)];rw[List.drop_of_length_le mz];simp
theorem sX(s:AQ)(m:Am):LE s m=Ha s m:=by
 rw[Yi];unfold LE;have:=Yj s m (((s.Edges.length:Int)-0).toNat+1) 0 [] mz mz;exact this
theorem iq(b:AC)(q:Ab)(k:Nat)(K0:Int->my)(m:Nat)(hm:(b.Nets.getD k default).Pins.length<m):Fq b q k K0 m 0=bif (b.Nets.getD k default).Pins.any (fun p=>BR p q)then(b.Nets.getD k default).Name else K0 ((k:Int)+1):=by
 have h:=XJ (fun p=>BR p q) (fun _=>(b.Nets.getD k default).Name) (K0 ((k:Int)+1)) (b.Nets.getD k default).Pins (Fq b q k K0) (fun m v=>by
  rw[Fq];unfold Z1d Z1c BR eqS;rw[l9,l9,Bool.and_true]) (b.Nets.getD k default).Pins.length 0 m rfl (lv _) hm
 rw[km]at h;refine h.trans ?_;cases hf:(b.Nets.getD k default).Pins.find? (fun p=>BR p q)with
 |some x =>
  have:(b.Nets.getD k default).Pins.any (fun p=>BR p q)=true:=List.any_eq_true.2 ⟨x,List.mem_of_find?_eq_some hf,List.find?_some (p:=fun p=>BR p q) hf⟩;rw[this];rfl
 |none =>
  have:(b.Nets.getD k default).Pins.any (fun p=>BR p q)=false:=List.any_eq_false.2 fun x hx=>List.find?_eq_none.1 hf x hx;rw[this];rfl
theorem ir(b:AC)(q:Ab):I8 b q=TC (M8 b) q:=by
 rw[kR];have h:=XJ (fun n:A7=>n.Pins.any fun p=>BR p q) (fun n=>n.Name) (⟨#[]⟩:my) b.Nets (Fs b q) (fun m v=>by
  rw[Fs];have:=iq b q v (Fs b q m) ((((b.Nets.getD ((v:Nat):Int).toNat default).Pins.length:Int)-0).toNat+1) (by rw[l9];omega);rw[this]) b.Nets.length 0 (((((b.Nets.length:Int)))-0).toNat+1) rfl (lv _) mz
 rw[km]at h;unfold I8;refine h.trans ?_;cases b.Nets.find? (fun n=>n.Pins.any fun p=>BR p q)<;>rfl
theorem ay(b:AC)(x:AD×Bc):Ot b x.1 x.2=Iz b (M8 b) x:=by
 unfold Ot Iz;rw[ir,<- ap,sX];rfl
theorem uK{m9:List AN}{name:my}(h:(CM m9 name).2=false):(CM m9 name).1.Pads=[]:=by
 rw[LG]at *;unfold ZE at *;cases hf:m9.find? (fun t=>IU t name)with
 |none=>rfl
 |some t=>rw[hf]at h;cases h
theorem TO{α γ:Type}(f:α->List γ):∀(xs:List α) (acc:List γ),xs.foldl (fun acc x=>acc++f x) acc=acc++xs.flatMap f
 |[],acc=>by simp
 |x::xs,acc=>by rw[List.foldl_cons,TO f xs,List.flatMap_cons,List.append_assoc]
theorem T5(b:AC)(m9:List AN):Ds b m9=Ed b m9:=by
 rw[T4];have h:=F7 (B5 b) (fun acc p=>acc++(El m9 p).map (Iz b (M8 b))) (Dv b m9) (fun acc _=>acc) (fun m acc v=>by
  rw[Dv];generalize hp:(B5 b).getD v default=p;have hw:Z1q m9 b v=(CM m9 p.Type').1:=by unfold Z1q;rw[l9,hp,Ij]
  have h1:=F7 (CM m9 p.Type').1.Pads (fun acc q=>acc++[Iz b (M8 b) (p,q)]) (Fc b m9 acc v (Dv b m9 m)) (fun acc _=>Dv b m9 m acc ((v:Int)+1)) (fun m2 acc2 i=>by
   rw[Fc];unfold Z1u Z1t;rw[hw,l9,l9,hp,Ij,<- ay];cases hk:(CM m9 p.Type').2 with
   |true=>rfl
   |false =>
    rw[uK hk,lk (by simp only[j9];omega)];rfl) (CM m9 p.Type').1.Pads.length 0 ((((Z1q m9 b v).Pads.length:Int)-0).toNat+1) acc rfl (lv _) (by rw[hw];omega)
  rw[km,En]at h1;have e:(El m9 p).map (Iz b (M8 b))=(CM m9 p.Type').1.Pads.map fun q=>Iz b (M8 b) (p,q):=by unfold El;rw[List.map_map];rfl
  rw[e];have h2:Fc b m9 acc v (Dv b m9 m) ((((Z1q m9 b v).Pads.length:Int)-0).toNat+1) acc 0=Dv b m9 m (acc++(CM m9 p.Type').1.Pads.map fun q=>Iz b (M8 b) (p,q)) ((v:Int)+1):=h1;rw[<- h2]) (B5 b).length 0 (((((B5 b).length:Int))-0).toNat+1) [] rfl (lv _) mz
 rw[km,TO,kn,Sp]at h;unfold BT;rw[List.map_flatMap];rw[<- h];unfold Ds;rw[Sp];rfl
section
open Go.RowKit
variable (b:AC)(m9:List AN)(v7 v9:Int)
def Z7g:Tv:=.av (.one (.own 12 9 (Ds b m9).length))
def Z7h:Blk:=.row 9 (Ds b m9).length (AL AV.c (Ds b m9)) 61
def Z7i:Tv:=.av (.one (.own 14 6 (BS b).length))
def Z7j:Blk:=.row 6 (BS b).length (AL AM.c (BS b)) 131
def Z7k:Tv:=.av (.one (.own 52 8 (BD b).length))
def Z7l:Blk:=.row 8 (BD b).length (AL Ak.c (BD b)) 133
def Z7m:AQ:=IP ((BD b).getD v9.toNat default).At ((BD b).getD v9.toNat default).R
def Z7n:AQ:=((BS b).getD v7.toNat default).Shape
abbrev Xq:=[AV.mk ((BS b).getD v7.toNat default).Id (⟨#[]⟩) 2 ((BS b).getD v7.toNat default).Net ((BS b).getD v7.toNat default).Layer ((BS b).getD v7.toNat default).Layer (LD (Z7n b v7))]
abbrev Xo:=[AV.mk ((BD b).getD v9.toNat default).Id (⟨#[]⟩) 3 ((BD b).getD v9.toNat default).Net ((BD b).getD v9.toNat default).From ((BD b).getD v9.toNat default).To (Z7m b v9)]
def Hy(b:AC)(m9:(List AN))(v5:List AV)(v7:Int)(K0:List AV->Int->(List AV)):Nat->List AV->Int->(List AV)
 |0,_,_=>default
 |n1+1,nl,v9=>bif decide ((v9:Int)<((BD b).length:Int))then((Hy b m9 v5 v7 K0 n1) (nl++[AV.mk ((BD b).getD v9.toNat default).Id (⟨#[]⟩) 3 ((BD b).getD v9.toNat default).Net ((BD b).getD v9.toNat default).From ((BD b).getD v9.toNat default).To (Z7m b v9)]) (v9+1))else nl
def G2(b:AC)(m9:(List AN)):Nat->List AV->Int->(List AV)
 |0,_,_=>default
 |n0+1,v5,v7=>bif decide ((v7:Int)<((BS b).length:Int))then((G2 b m9 n0) (v5++[AV.mk ((BS b).getD v7.toNat default).Id (⟨#[]⟩) 2 ((BS b).getD v7.toNat default).Net ((BS b).getD v7.toNat default).Layer ((BS b).getD v7.toNat default).Layer (LD (Z7n b v7))]) (v7+1))else(Hy b m9 v5 v7 (G2 b m9 n0) ((((BD b).length:Int)-0).toNat+1) v5 0)
def G8(b:AC)(m9:(List AN)):(List AV):=G2 b m9 ((((BS b).length:Int)-0).toNat+1) (Ds b m9) 0
theorem qAllR(b:AC)(m9:(List AN))(hp:b.Parts.length<20)(ht:B7 m9)(hn:(b.Nets.length:Int)<=1000000)(hq:∀n∈b.Nets,(n.Pins.length:Int)<=1000000)(h3:(b.Tracks.length:Int)<=1000000)(h4:(b.Vias.length:Int)<=1000000)(hte:∀t∈b.Tracks,(t.Shape.Edges.length:Int)<=1000000):Fr Tryz.prog 15 [.agg (CE b),.one (lst 3 AN.c m9)] (.row 9 (G8 b m9).length (AL AV.c (G8 b m9)) 61) (fun d=>tO (.own d 9 (G8 b m9).length)):=by
 refine DC Tryz.func15 rfl kr (Df _ _) fun W0 M0=>?_;have hpl:=HJ hp ht;have hp1:=QI b m9;have hp2:(Ds b m9).length=(Ed b m9).length:=by rw[T5]
 have ht1:=Xe b h3;have hv1:=Tp b h4;refine AA<|on<|AA<|oq 12 _ (sE b m9 (by first|(exact Kj h3 hte _)|with_reducible assumption|omega|decide|(simp only[j8,j9,d9];omega)|assumption) (by first|(exact Kj h3 hte _)|with_reducible assumption|omega|decide|(simp only[j8,j9,d9];omega)|assumption) (by first|(exact Kj h3 hte _)|with_reducible assumption|omega|decide|(simp only[j8,j9,d9];omega)|assumption) (by first|(exact Kj h3 hte _)|with_reducible assumption|omega|decide|(simp only[j8,j9,d9];omega)|assumption))<|AE<|AA<|oq 14 _ (kA b (by first|(exact Kj h3 hte _)|with_reducible assumption|omega|decide|(simp only[j8,j9,d9];omega)|assumption))<|AE<|AA<|AA<|rn ⟨[(2,tP 2 0),(5,Z7g b m9),(6,Z7i b),(7,tI 0)],[(Dl b),(12,Z7h b m9),(14,Z7j b)]⟩<|AJ ?_;refine lpC (κ:=List AV×Int) (fun x=>⟨[(2,tP 2 0),(5,tO (.own 12 9 x.2.1.length)),(6,Z7i b),(7,tI x.2.2)],[(Dl b),(12,.row 9 x.2.1.length (AL AV.c x.2.1) 61),(14,Z7j b)]⟩) (fun x=>(((BS b).length:Int)-x.2.2).toNat) (fun x=>(0<=x.2.2/\(x.2.2<=((BS b).length:Int)\/x.2.2=0)/\(x.2.1.length:Int)<=((Ds b m9).length:Int)+1*(x.2.2-0))/\G2 b m9 x.1 x.2.1 x.2.2=G8 b m9) ?_ ((((BS b).length:Int)-0).toNat+1,Ds b m9,0) ⟨lz _,⟨ax0,ax0,ax0⟩,(by simp only[G8,mi,mj])⟩;rintro n0 ⟨v5,v7⟩ nq ⟨nm,ng⟩
 try dsimp only at nq nm ng
 refine AA<|AA<|on<|kb (decide ((v7:Int)<((BS b).length:Int))) (fun h1=>?_) (fun h1=>?_)
 ·have g1:=oT h1;refine AP<|AE<|AA<|AJ<|oe [] _ [0<=(v7:Int)/\(v7:Int)<((BS b).length:Int),v7.toNat<(BS b).length,0<=(v7:Int)/\(v7:Int)<((BS b).length:Int),v7.toNat<(BS b).length,0<=(v7:Int)/\(v7:Int)<((BS b).length:Int),v7.toNat<(BS b).length,0<=(v7:Int)/\(v7:Int)<((BS b).length:Int),v7.toNat<(BS b).length,0<=(v7:Int)/\(v7:Int)<((BS b).length:Int),v7.toNat<(BS b).length,none,v5.length=v5.length,v5.length+1<=maxLen,(v5.length+1)*104<=140737488355328] (J1 47 (YX (Z7n b v7) (by first|(exact Kj h3 hte _)|with_reducible assumption|omega|decide|(simp only[j8,j9,d9];omega)|assumption))) (.cons au0 (.cons au0 (.cons au0 (.cons au0 (.cons au0 (.cons au0 (.cons au0 (.cons au0 (.cons au0 (.cons au0 (.cons rfl (.cons au2 (.cons au2 .nil)))))))))))))<|Ao<|AE<|AZ (Ag 50 (Ac (AU 9 AV.c v5) (Ai 9 AV.c ((Xq b v7):List AV))))<|rg ⟨[(2,tP 2 0),(5,.av (.one (.own 50 9 (v5++(Xq b v7)).length))),(6,Z7i b),(7,tI (W64 (v7+1)))],[(Dl b),(14,Z7j b),(50,.row 9 (v5++(Xq b v7)).length (AL AV.c (v5++(Xq b v7))) 61)]⟩ ?_
  (try rw[(show W64 (v7+1)=v7+1 from Ae oM au5)])
  refine AE ?_;refine⟨(n0,v5++(Xq b v7),v7+1),⟨?_,?_,(by rw[<- ng];simp only[G2,h1,mi,mj])⟩,lz _,Cv.trans (vr 50 12 hk0) (Cv.trans (vk [2,5,6,7] [2,12,14]) (Az kr))⟩
  ·dsimp only;omega
  exact⟨ax0,ax0,ax0⟩
 have g1:=oF h1;refine Aw<|Aj<|Aj<|Ay<|AE<|AA<|oq 52 _ (fV b (by first|(exact Kj h3 hte _)|with_reducible assumption|omega|decide|(simp only[j8,j9,d9];omega)|assumption))<|AE<|AA<|AA<|rn ⟨[(5,tO (.own 12 9 v5.length)),(8,Z7k b),(9,tI 0)],[(12,.row 9 v5.length (AL AV.c v5) 61),(52,Z7l b)]⟩<|AJ<|lpC (κ:=List AV×Int) (fun x=>⟨[(5,tO (.own 12 9 x.2.1.length)),(8,Z7k b),(9,tI x.2.2)],[(12,.row 9 x.2.1.length (AL AV.c x.2.1) 61),(52,Z7l b)]⟩) (fun x=>(((BD b).length:Int)-x.2.2).toNat) (fun x=>(0<=x.2.2/\(x.2.2<=((BD b).length:Int)\/x.2.2=0)/\(x.2.1.length:Int)<=(v5.length:Int)+1*(x.2.2-0))/\Hy b m9 v5 v7 (G2 b m9 n0) x.1 x.2.1 x.2.2=G8 b m9) ?_ ((((BD b).length:Int)-0).toNat+1,v5,0) ⟨lz _,⟨ax0,ax0,ax0⟩,(by rw[<- ng];simp only[G2,h1,mi,mj])⟩;rintro n1 ⟨nl,v9⟩ o0 ⟨ox,np⟩
 try dsimp only at o0 ox np
 refine AA<|AA<|on<|kb (decide ((v9:Int)<((BD b).length:Int))) (fun h2=>?_) (fun h2=>?_)
 ·have g2:=oT h2;refine AP<|AE<|AA<|AJ<|oe [] _ [0<=(v9:Int)/\(v9:Int)<((BD b).length:Int),v9.toNat<(BD b).length,0<=(v9:Int)/\(v9:Int)<((BD b).length:Int),v9.toNat<(BD b).length,0<=(v9:Int)/\(v9:Int)<((BD b).length:Int),v9.toNat<(BD b).length,0<=(v9:Int)/\(v9:Int)<((BD b).length:Int),v9.toNat<(BD b).length,0<=(v9:Int)/\(v9:Int)<((BD b).length:Int),v9.toNat<(BD b).length,0<=(v9:Int)/\(v9:Int)<((BD b).length:Int),v9.toNat<(BD b).length,none,nl.length=nl.length,nl.length+1<=maxLen,(nl.length+1)*104<=140737488355328] (J1 90 (MX (m7 (BD b) v9).At (m7 (BD b) v9).R)) (.cons au0 (.cons au0 (.cons au0 (.cons au0 (.cons au0 (.cons au0 (.cons au0 (.cons au0 (.cons au0 (.cons au0 (.cons au0 (.cons au0 (.cons rfl (.cons au2 (.cons au2 .nil)))))))))))))))<|Ao<|AE<|AZ (Ag 93 (Ac (AU 9 AV.c nl) (Ai 9 AV.c ((Xo b v9):List AV))))<|rg ⟨[(5,.av (.one (.own 93 9 (nl++(Xo b v9)).length))),(8,Z7k b),(9,tI (W64 (v9+1)))],[(52,Z7l b),(93,.row 9 (nl++(Xo b v9)).length (AL AV.c (nl++(Xo b v9))) 61)]⟩ ?_
  (try rw[(show W64 (v9+1)=v9+1 from Ae oM au5)])
  refine AE ?_;refine⟨(n1,nl++(Xo b v9),v9+1),⟨?_,?_,(by rw[<- np];simp only[Hy,h2,mi,mj])⟩,lz _,Cv.trans (vr 93 12 hk0) (Cv.trans (vk [5,8,9] [12,52]) (Az kr))⟩
  ·dsimp only;omega
  exact⟨ax0,ax0,ax0⟩
 exact Aw<|Aj<|Aj<|Ay<|AE<|AA<|on<|AO<|xl (tO (.own 12 9 nl.length)) (frE (c:=AV.c) (xs:=nl) (by rw[<- np];first|(simp only[Hy,h2,mi,mj]<;>rfl)) kr)
def N1:CT:=(15,[.agg (CE b),.one (FT m9)],.val [] (.av (.one (lst 9 AV.c (G8 b m9)))))
theorem Wp(b:AC)(m9:(List AN))(hp:b.Parts.length<20)(ht:B7 m9)(hn:(b.Nets.length:Int)<=1000000)(hq:∀n∈b.Nets,(n.Pins.length:Int)<=1000000)(h3:(b.Tracks.length:Int)<=1000000)(h4:(b.Vias.length:Int)<=1000000)(hte:∀t∈b.Tracks,(t.Shape.Edges.length:Int)<=1000000):OKc (N1 b m9):=cPu<|Iu (qAllR b m9 hp ht hn hq h3 h4 hte)
theorem wH{α:Type}(c:Bool)(l:List α)(x:α):((bif c then l++[x]else l).length:Int)<=(l.length:Int)+1:=by cases c<;>simp<;>omega
end
theorem wR{p:Prop}[Decidable p]{q:Bool}(h:(bif decide p then q else false)=true):p:=by
 by_cases hp:p
 ·exact hp
 rw[lk hp]at h;cases h
theorem S9(l:List (List Int)):Fg (AW l).1:=by
 have h:=Wx l;obtain⟨p,q,r,e,h1,h2,h3⟩:=h.net;refine⟨by have:=h.parl;omega,by have:=h.trkl;omega,by have:=h.vial;omega,by have:=h.slotl;omega,?_,?_,?_,?_⟩
 ·rw[e];show((3:Nat):Int)<=1000000;decide
 ·rw[e];intro n hn;simp only[kg,lg,or_false]at hn;rcases hn with rfl|rfl|rfl<;>(simp only;omega)
 ·intro t ht;obtain⟨k,hk,_,hm⟩:=tV h.trk ht;obtain⟨a,c,d,_,_,e2⟩:=hm.edg;rw[e2];have:=P3 a c d;omega
 intro s hs;obtain⟨r,p,_,_,_,e2⟩:=h.slot s hs;rw[e2];show((1:Nat):Int)<=1000000;decide
def trkI(t:AM):AV:=AV.mk t.Id ⟨#[]⟩ 2 t.Net t.Layer t.Layer (JP t.Shape)
def xI(v:Ak):AV:=AV.mk v.Id ⟨#[]⟩ 3 v.Net v.From v.To (D7 v.At v.R)
theorem Xg(b:AC)(m9:List AN):GG b m9=Ed b m9++(Bv b).map trkI++(BL b).map xI:=by
 have h1:∀out nr K0 ,JQ b m9 out nr K0 ((((BL b).length:Int)-0).toNat+1) out 0=out++(BL b).map xI:=fun out nr K0=>by
  have:=F7 (BL b) (fun acc v=>acc++[xI v]) (JQ b m9 out nr K0) (fun acc _=>acc) (fun m acc v=>by rw[JQ];unfold Z0D;rw[l9];rfl) (BL b).length 0 ((((BL b).length:Int)-0).toNat+1) out rfl (lv _) mz;rw[km,En]at this;exact this
 have:=F7 (Bv b) (fun acc t=>acc++[trkI t]) (Ib b m9) (fun acc _=>acc++(BL b).map xI) (fun m acc v=>by rw[Ib,h1];unfold Z0E;rw[l9];rfl) (Bv b).length 0 ((((Bv b).length:Int)-0).toNat+1) (Ed b m9) rfl (lv _) mz;rw[km,En]at this;exact this
section
open Go.RowKit
variable (b:AC)(v7 nb o9:Int)
def Z7u:Tv:=.av (.one (.own 17 7 (Bo b).length))
def Z7v:Blk:=.row 7 (Bo b).length (AL AD.c (Bo b)) 78
def Z7y(m9:(List AN))(b:AC)(v7:Int):AN:=(Bq m9 ((Bo b).getD v7.toNat default).Type').1
def Z7z(m9:(List AN))(b:AC)(v7:Int):Tv:=tB (Bq m9 ((Bo b).getD v7.toNat default).Type').2
def Z7A(m9:(List AN))(b:AC)(v7:Int):Blk:=.cells (AN.c (Z7y m9 b v7)) 82
def Z7B:Am:=KJ ((Bo b).getD v7.toNat default)
def Z7C(m9:(List AN))(b:AC)(v7:Int)(na:Int):AG:=((Z7y m9 b v7).Pads.getD na.toNat default).At
def Z7D(b:AC)(v7:Int)(m9:(List AN))(na:Int):AG:=BB (Z7B b v7) (Z7C m9 b v7 na)
def Z7E(b:AC)(v7:Int)(m9:(List AN))(na:Int):AQ:=IP (Z7D b v7 m9 na) (W64 (Int.tdiv ((Z7y m9 b v7).Pads.getD na.toNat default).Drill 2))
abbrev NZ(nl:List Ad)(b:AC)(v7:Int)(m9:List AN)(na:Int):=nl++[Ad.mk (Z7E b v7 m9 na) 1 b.Layers true]
def Z7G:Tv:=.av (.one (.own 79 8 (BD b).length))
def Z7H:Blk:=.row 8 (BD b).length (AL Ak.c (BD b)) 133
def Z7I:AQ:=IP ((BD b).getD nb.toNat default).At (W64 (Int.tdiv ((BD b).getD nb.toNat default).Drill 2))
abbrev SJ:=[Ad.mk (Z7I b nb) ((BD b).getD nb.toNat default).From ((BD b).getD nb.toNat default).To true]
def Z7K(nl:List Ad)(b:AC)(nb:Int):Blk:=.row 6 (nl++(SJ b nb)).length (AL Ad.c (nl++(SJ b nb))) 70
def Z7L:Tv:=.av (.one (.own 113 4 (Cc b).length))
def Z7M:Blk:=.row 4 (Cc b).length (AL AX.c (Cc b)) 112
def Z7N:AQ:=((Cc b).getD o9.toNat default).Shape
abbrev Rt:=[Ad.mk (LD (Z7N b o9)) 1 b.Layers false]
def Z7O(nj:List Ad)(b:AC)(o9:Int):Tv:=.av (.one (.own 131 6 (nj++(Rt b o9)).length))
def Z7P(nj:List Ad)(b:AC)(o9:Int):Blk:=.row 6 (nj++(Rt b o9)).length (AL Ad.c (nj++(Rt b o9))) 70
def Fe(b:AC)(m9:(List AN))(v5:List Ad)(v7:Int)(K0:List Ad->Int->(List Ad)):Nat->List Ad->Int->(List Ad)
 |0,_,_=>default
 |n1+1,nl,na=>bif bif decide ((na:Int)<((Z7y m9 b v7).Pads.length:Int))then(Bq m9 ((Bo b).getD v7.toNat default).Type').2 else false then((Fe b m9 v5 v7 K0 n1) (bif !decide ((((Z7y m9 b v7).Pads.getD na.toNat default).Drill:Int)=0)then(nl++[Ad.mk (Z7E b v7 m9 na) 1 b.Layers true])else nl) (na+1))else(K0 nl (v7+1))
def Fd(b:AC)(m9:(List AN))(v5:List Ad)(v7:Int)(nl:List Ad)(nb:Int)(K0:List Ad->Int->(List Ad))(K1:List Ad->Int->(List Ad)):Nat->List Ad->Int->(List Ad)
 |0,_,_=>default
 |n3+1,nj,o9=>bif decide ((o9:Int)<((Cc b).length:Int))then((Fd b m9 v5 v7 nl nb K0 K1 n3) (nj++[Ad.mk (LD (Z7N b o9)) 1 b.Layers false]) (o9+1))else nj
def Eb(b:AC)(m9:(List AN))(v5:List Ad)(v7:Int)(K0:List Ad->Int->(List Ad)):Nat->List Ad->Int->(List Ad)
 |0,_,_=>default
 |n2+1,nl,nb=>bif decide ((nb:Int)<((BD b).length:Int))then((Eb b m9 v5 v7 K0 n2) (nl++[Ad.mk (Z7I b nb) ((BD b).getD nb.toNat default).From ((BD b).getD nb.toNat default).To true]) (nb+1))else(Fd b m9 v5 v7 nl nb K0 (Eb b m9 v5 v7 K0 n2) ((((Cc b).length:Int)-0).toNat+1) nl 0)
def Dy(b:AC)(m9:(List AN)):Nat->List Ad->Int->(List Ad)
 |0,_,_=>default
 |n0+1,v5,v7=>bif decide ((v7:Int)<((Bo b).length:Int))then(Fe b m9 v5 v7 (Dy b m9 n0) ((((Z7y m9 b v7).Pads.length:Int)-0).toNat+1) v5 0)else(Eb b m9 v5 v7 (Dy b m9 n0) ((((BD b).length:Int)-0).toNat+1) v5 0)
def C4(b:AC)(m9:(List AN)):(List Ad):=Dy b m9 ((((Bo b).length:Int)-0).toNat+1) ([]:List Ad) 0
abbrev WS(m9:List AN)(b:AC)(v7:Int)(na:Int)(nl:List Ad):=(bif !decide ((((Z7y m9 b v7).Pads.getD na.toNat default).Drill:Int)=0)then(NZ nl b v7 m9 na)else nl)
theorem au28{p:Prop}(h:p:=by first|(exact Mk ht _)|(exact xQ hq3 hse _)|with_reducible assumption|omega|decide|(simp only[j8,j9,d9];omega)|assumption):p:=h
theorem yF(b:AC)(m9:(List AN))(hp:b.Parts.length<20)(ht:B7 m9)(hq3:(b.Slots.length:Int)<=1000000)(hq4:(b.Vias.length:Int)<=1000000)(hse:∀t∈b.Slots,(t.Shape.Edges.length:Int)<=1000000):Fr Tryz.prog 18 [.agg (CE b),.one (lst 3 AN.c m9)] (.row 6 (C4 b m9).length (AL Ad.c (C4 b m9)) 70) (fun d=>tO (.own d 6 (C4 b m9).length)):=by
 refine DC Tryz.func18 rfl kr (Df _ _) fun W0 M0=>?_;have ht9:=ht.1;have hp1:=Zd b oM;have hs1:=Zc b hq3;have hv1:=Tp b hq4;refine AA<|on<|AA<|on<|AA<|oq 17 _ (rY b au28)<|AE<|AA<|AA<|rn ⟨[(D8 m9),(2,tP 2 0),(5,.av (.one vN)),(6,Z7u b),(7,tI 0)],[(Dl b),(17,Z7v b)]⟩<|AJ<|AZ (Cv.trans (vg 2000 6 m8 70 [(5,[0])] [] hk0) (Cv.trans (Ag 2000 (Bh 6 m8 Ad.c)) (ck (⟨[(D8 m9),(2,tP 2 0),(5,.av (.one (.own 2000 6 ([]:List Ad).length))),(6,Z7u b),(7,tI 0)],[(Dl b),(17,Z7v b),(2000,.row 6 ([]:List Ad).length (AL Ad.c ([]:List Ad)) 70)]⟩))))<|lpC (κ:=List Ad×Int) (fun x=>⟨[(D8 m9),(2,tP 2 0),(5,tO (.own 2000 6 x.2.1.length)),(6,Z7u b),(7,tI x.2.2)],[(Dl b),(17,Z7v b),(2000,.row 6 x.2.1.length (AL Ad.c x.2.1) 70)]⟩) (fun x=>(((Bo b).length:Int)-x.2.2).toNat) (fun x=>((x.2.1.length:Int)<=1000000*x.2.2/\0<=x.2.2/\(x.2.2<=((Bo b).length:Int)\/x.2.2=0))/\Dy b m9 x.1 x.2.1 x.2.2=C4 b m9) ?_ ((((Bo b).length:Int)-0).toNat+1,([]:List Ad),0) ⟨lz _,⟨ax0,ax0,ax0⟩,(by simp only[C4,mi,mj])⟩;rintro n0 ⟨v5,v7⟩ nq ⟨nm,ng⟩
 try dsimp only at nq nm ng
 refine AA<|AA<|on<|kb (decide ((v7:Int)<((Bo b).length:Int))) (fun h1=>?_) (fun h1=>?_)
 ·have g1:=oT h1;refine AP<|AE<|AA<|AJ<|AA<|oo _ [0<=(v7:Int)/\(v7:Int)<((Bo b).length:Int),v7.toNat<(Bo b).length,none] (J1 31 (RF m9 (m7 (Bo b) v7).Type' au28)) (H2 au0 au0)<|AE<|AA<|rn ⟨[(D8 m9),(2,tP 2 0),(5,tO (.own 2000 6 v5.length)),(6,Z7u b),(7,tI v7),(8,tP 8 0),(9,Z7z m9 b v7),(10,tI 0)],[(Dl b),(8,Z7A m9 b v7),(17,Z7v b),(2000,.row 6 v5.length (AL Ad.c v5) 70)]⟩<|AJ<|lpC (κ:=List Ad×Int) (fun x=>⟨[(D8 m9),(2,tP 2 0),(5,tO (.own 2000 6 x.2.1.length)),(6,Z7u b),(7,tI v7),(8,tP 8 0),(9,Z7z m9 b v7),(10,tI x.2.2)],[(Dl b),(8,Z7A m9 b v7),(17,Z7v b),(2000,.row 6 x.2.1.length (AL Ad.c x.2.1) 70)]⟩) (fun x=>(((Z7y m9 b v7).Pads.length:Int)-x.2.2).toNat) (fun x=>(0<=x.2.2/\x.2.2<=((Z7y m9 b v7).Pads.length:Int)/\(x.2.1.length:Int)<=1000000*v7+x.2.2/\0<=x.2.2)/\Fe b m9 v5 v7 (Dy b m9 n0) x.1 x.2.1 x.2.2=C4 b m9) ?_ ((((Z7y m9 b v7).Pads.length:Int)-0).toNat+1,v5,0) ⟨lz _,⟨ax0,ax0,ax0,ax0⟩,(by rw[<- ng];simp only[Dy,h1,mi,mj])⟩;rintro n1 ⟨nl,na⟩ o0 ⟨ox,np⟩
  try dsimp only at o0 ox np
  have hb1:((Z7y m9 b v7).Pads.length:Int)<=1000000:=Mk ht (m7 (Bo b) v7).Type';refine AA<|AA<|oc [] [gt (decide ((na:Int)<((Z7y m9 b v7).Pads.length:Int)))] .nil (ci .nil)<|AE<|kb (bif decide ((na:Int)<((Z7y m9 b v7).Pads.length:Int))then(Bq m9 (m7 (Bo b) v7).Type').2 else false) (fun h2=>?_) (fun h2=>?_)
  ·have g2:=wR h2;refine AP<|AE<|AA<|B4 (⟨[(D8 m9),(2,tP 2 0),(5,tO (.own 2001 6 (bif !decide (((m7 (Z7y m9 b v7).Pads na).Drill:Int)=0)then(NZ nl b v7 m9 na)else nl).length)),(6,tO (.own 17 7 (Bo b).length)),(7,tI v7),(8,tP 8 0),(9,tB (Bq m9 (m7 (Bo b) v7).Type').2),(10,tI na)],[(Dl b),(8,.cells (AN.c (Z7y m9 b v7)) 82),(17,.row 7 (Bo b).length (AL AD.c (Bo b)) 78),(2001,.row 6 (bif !decide (((m7 (Z7y m9 b v7).Pads na).Drill:Int)=0)then(NZ nl b v7 m9 na)else nl).length (AL Ad.c (bif !decide (((m7 (Z7y m9 b v7).Pads na).Drill:Int)=0)then(NZ nl b v7 m9 na)else nl)) 70)]⟩) ?_ ?_
   ·refine AJ<|AA<|oc [] [0<=(na:Int)/\(na:Int)<((Z7y m9 b v7).Pads.length:Int)] .nil (H1 au0)<|AE<|kb (!decide (((m7 (Z7y m9 b v7).Pads na).Drill:Int)=0)) (fun h3=>?_) (fun h3=>?_)
    ·have g3:=B8 h3;refine AA<|oe [] _ [0<=(v7:Int)/\(v7:Int)<((Bo b).length:Int),v7.toNat<(Bo b).length,none,0<=(na:Int)/\(na:Int)<((Z7y m9 b v7).Pads.length:Int),none] (J2 55 62 (Sy (m7 (Bo b) v7)) (E1 (Z7B b v7) (Z7C m9 b v7 na))) (H3 au0 au0 au0)<|AE<|dO [] _ [0<=(na:Int)/\(na:Int)<((Z7y m9 b v7).Pads.length:Int),(2:Int)≠0,none,nl.length=nl.length,nl.length+1<=maxLen,(nl.length+1)*64<=140737488355328] ⟨[(D8 m9),(2,tP 2 0),(5,tO (.own 77 6 (nl.length+1))),(6,Z7u b),(7,tI v7),(8,tP 8 0),(9,Z7z m9 b v7),(10,tI na)],[(Dl b),(8,Z7A m9 b v7),(17,Z7v b),(77,.row 6 (nl.length+1) (fun i_ j_=>if i_<nl.length then(AL Ad.c nl) i_ j_ else(A9 6 1 [.i (Z7E b v7 m9 na).Kind,lst 7 AK.c (Z7E b v7 m9 na).Edges,.i (Z7E b v7 m9 na).R,.i 1,.i b.Layers,.b true]) (i_-nl.length) j_) 70)]⟩ (J1 72 (MX (Z7D b v7 m9 na) (W64 (Int.tdiv (m7 (Z7y m9 b v7).Pads na).Drill 2)))) (H5 au0 au11 rfl au4 au4)<|Ao<|AE ?_;refine Cv.trans (Ag 77 (Ac (AU 6 Ad.c nl) (Ai 6 Ad.c ([Ad.mk (Z7E b v7 m9 na) 1 b.Layers true]:List Ad)))) (Cv.trans (wr (⟨[(D8 m9),(2,tP 2 0),(5,tO (.own 2001 6 (NZ nl b v7 m9 na).length)),(6,Z7u b),(7,tI v7),(8,tP 8 0),(9,Z7z m9 b v7),(10,tI na)],[(Dl b),(8,Z7A m9 b v7),(17,Z7v b),(2001,.row 6 (NZ nl b v7 m9 na).length (AL Ad.c (NZ nl b v7 m9 na)) 70)]⟩) 77 2001 hk0) (Az ?_))
     first|rfl|(simp only[h3,mi,mj]<;>rfl)
    have g3:=B3 h3;refine AP<|Ao<|AE<|Cv.trans (vk [1,2,5,6,7,8,9,10] [2,8,17,2000]) (Cv.trans (wr (⟨[(D8 m9),(2,tP 2 0),(5,tO (.own 2001 6 nl.length)),(6,Z7u b),(7,tI v7),(8,tP 8 0),(9,Z7z m9 b v7),(10,tI na)],[(Dl b),(8,Z7A m9 b v7),(17,Z7v b),(2001,.row 6 nl.length (AL Ad.c nl) 70)]⟩) 2000 2001 hk0) (Az ?_))
    first|rfl|(simp only[h3,mi,mj]<;>rfl)
   refine rg ⟨[(D8 m9),(2,tP 2 0),(5,tO (.own 2001 6 (WS m9 b v7 na nl).length)),(6,Z7u b),(7,tI v7),(8,tP 8 0),(9,Z7z m9 b v7),(10,tI (W64 (na+1)))],[(Dl b),(8,Z7A m9 b v7),(17,Z7v b),(2001,.row 6 (WS m9 b v7 na nl).length (AL Ad.c (WS m9 b v7 na nl)) 70)]⟩ ?_
   (try rw[(show W64 (na+1)=na+1 from Ae oM oM)])
   refine AE ?_;refine⟨(n1,bif !decide (((m7 (Z7y m9 b v7).Pads na).Drill:Int)=0)then(NZ nl b v7 m9 na)else nl,na+1),⟨?_,?_,(by rw[<- np];simp only[Fe,h2,mi,mj])⟩,lz _,Cv.trans (vr 2001 2000 hk0) (Az kr)⟩
   ·dsimp only;omega
   exact(by show 0<=(na+1)/\(na+1)<=((Z7y m9 b v7).Pads.length:Int)/\((WS m9 b v7 na nl).length:Int)<=1000000*v7+(na+1)/\0<=(na+1);exact⟨by omega,by omega,Int.le_trans (wH _ _ _) oM,by omega⟩)
  refine Aw<|Aj<|Aj<|Ay<|Ao<|AE<|rg ⟨[(D8 m9),(2,tP 2 0),(5,tO (.own 2000 6 nl.length)),(6,Z7u b),(7,tI (W64 (v7+1)))],[(Dl b),(17,Z7v b),(2000,.row 6 nl.length (AL Ad.c nl) 70)]⟩ ?_
  (try rw[(show W64 (v7+1)=v7+1 from Ae oM au5)])
  refine AE ?_;refine⟨(n0,nl,v7+1),⟨?_,?_,(by rw[<- np];simp only[Fe,h2,mi,mj])⟩,lz _,Az kr⟩
  ·dsimp only;omega
  exact⟨ax0,ax0,ax0⟩
 have g1:=oF h1;refine Aw<|Aj<|Aj<|Ay<|AE<|AA<|oq 79 _ (fV b au28)<|AE<|AA<|AA<|rn ⟨[(2,tP 2 0),(5,tO (.own 2000 6 v5.length)),(12,Z7G b),(13,tI 0)],[(Dl b),(79,Z7H b),(2000,.row 6 v5.length (AL Ad.c v5) 70)]⟩<|AJ<|lpC (κ:=List Ad×Int) (fun x=>⟨[(2,tP 2 0),(5,tO (.own 2000 6 x.2.1.length)),(12,Z7G b),(13,tI x.2.2)],[(Dl b),(79,Z7H b),(2000,.row 6 x.2.1.length (AL Ad.c x.2.1) 70)]⟩) (fun x=>(((BD b).length:Int)-x.2.2).toNat) (fun x=>((x.2.1.length:Int)<=20000000+x.2.2/\0<=x.2.2/\(x.2.2<=((BD b).length:Int)\/x.2.2=0)/\(x.2.1.length:Int)<=(v5.length:Int)+1*(x.2.2-0))/\Eb b m9 v5 v7 (Dy b m9 n0) x.1 x.2.1 x.2.2=C4 b m9) ?_ ((((BD b).length:Int)-0).toNat+1,v5,0) ⟨lz _,⟨ax0,ax0,ax0,ax0⟩,(by rw[<- ng];simp only[Dy,h1,mi,mj])⟩;rintro n2 ⟨nl,nb⟩ pd ⟨pg,oy⟩
 try dsimp only at pd pg oy
 refine AA<|AA<|on<|kb (decide ((nb:Int)<((BD b).length:Int))) (fun h2=>?_) (fun h2=>?_)
 ·have g2:=oT h2;refine AP<|AE<|AA<|AJ<|oe [] _ [0<=(nb:Int)/\(nb:Int)<((BD b).length:Int),nb.toNat<(BD b).length,0<=(nb:Int)/\(nb:Int)<((BD b).length:Int),nb.toNat<(BD b).length,(2:Int)≠0,none,0<=(nb:Int)/\(nb:Int)<((BD b).length:Int),nb.toNat<(BD b).length,0<=(nb:Int)/\(nb:Int)<((BD b).length:Int),nb.toNat<(BD b).length,nl.length=nl.length,nl.length+1<=maxLen,(nl.length+1)*64<=140737488355328] (J1 98 (MX (m7 (BD b) nb).At (W64 (Int.tdiv (m7 (BD b) nb).Drill 2)))) (.cons au0 (.cons au0 (.cons au0 (.cons au0 (.cons au11 (.cons au0 (.cons au0 (.cons au0 (.cons au0 (.cons rfl (.cons au4 (.cons au4 .nil))))))))))))<|Ao<|AE<|AZ (Ag 111 (Ac (AU 6 Ad.c nl) (Ai 6 Ad.c ((SJ b nb):List Ad))))<|rg ⟨[(2,tP 2 0),(5,.av (.one (.own 111 6 (nl++(SJ b nb)).length))),(12,Z7G b),(13,tI (W64 (nb+1)))],[(Dl b),(79,Z7H b),(111,Z7K nl b nb)]⟩ ?_
  (try rw[(show W64 (nb+1)=nb+1 from Ae oM au5)])
  refine AE ?_;refine⟨(n2,nl++(SJ b nb),nb+1),⟨?_,?_,(by rw[<- oy];simp only[Eb,h2,mi,mj])⟩,lz _,Cv.trans (vr 111 2000 hk0) (Az kr)⟩
  ·dsimp only;omega
  exact⟨ax0,ax0,ax0,ax0⟩
 have g2:=oF h2;refine Aw<|Aj<|Aj<|Ay<|AE<|AA<|oq 113 _ (rV b au28)<|AE<|AA<|AA<|rn ⟨[(2,tP 2 0),(5,tO (.own 2000 6 nl.length)),(14,Z7L b),(15,tI 0)],[(Dl b),(113,Z7M b),(2000,.row 6 nl.length (AL Ad.c nl) 70)]⟩<|AJ<|lpC (κ:=List Ad×Int) (fun x=>⟨[(2,tP 2 0),(5,tO (.own 2000 6 x.2.1.length)),(14,Z7L b),(15,tI x.2.2)],[(Dl b),(113,Z7M b),(2000,.row 6 x.2.1.length (AL Ad.c x.2.1) 70)]⟩) (fun x=>(((Cc b).length:Int)-x.2.2).toNat) (fun x=>((x.2.1.length:Int)<=30000000+x.2.2/\0<=x.2.2/\(x.2.2<=((Cc b).length:Int)\/x.2.2=0)/\(x.2.1.length:Int)<=(nl.length:Int)+1*(x.2.2-0))/\Fd b m9 v5 v7 nl nb (Dy b m9 n0) (Eb b m9 v5 v7 (Dy b m9 n0) n2) x.1 x.2.1 x.2.2=C4 b m9) ?_ ((((Cc b).length:Int)-0).toNat+1,nl,0) ⟨lz _,⟨ax0,ax0,ax0,ax0⟩,(by rw[<- oy];simp only[Eb,h2,mi,mj])⟩;rintro n3 ⟨nj,o9⟩ pn ⟨po,ph⟩
 try dsimp only at pn po ph
 refine AA<|AA<|on<|kb (decide ((o9:Int)<((Cc b).length:Int))) (fun h3=>?_) (fun h3=>?_)
 ·have g3:=oT h3;refine AP<|AE<|AA<|AJ<|oe [] _ [0<=(o9:Int)/\(o9:Int)<((Cc b).length:Int),o9.toNat<(Cc b).length,none,nj.length=nj.length,nj.length+1<=maxLen,(nj.length+1)*64<=140737488355328] (J1 126 (YX (Z7N b o9) au28)) (H5 au0 au0 rfl au4 au4)<|Ao<|AE<|AZ (Ag 131 (Ac (AU 6 Ad.c nj) (Ai 6 Ad.c ((Rt b o9):List Ad))))<|rg ⟨[(2,tP 2 0),(5,Z7O nj b o9),(14,Z7L b),(15,tI (W64 (o9+1)))],[(Dl b),(113,Z7M b),(131,Z7P nj b o9)]⟩ ?_
  (try rw[(show W64 (o9+1)=o9+1 from Ae oM au5)])
  refine AE ?_;refine⟨(n3,nj++(Rt b o9),o9+1),⟨?_,?_,(by rw[<- ph];simp only[Fd,h3,mi,mj])⟩,lz _,Cv.trans (vr 131 2000 hk0) (Az kr)⟩
  ·dsimp only;omega
  exact⟨ax0,ax0,ax0,ax0⟩
 exact Aw<|Aj<|Aj<|Ay<|AE<|AA<|on<|AO<|xl (tO (.own 2000 6 nj.length)) (frE (c:=Ad.c) (xs:=nj) (by rw[<- ph];first|(simp only[Fd,h3,mi,mj]<;>rfl)) kr)
end
def Wl(b:AC)(x:AD×Bc):Ad:=Ad.mk (D7 (BV (G1 x.1) x.2.At) (W64 (Int.tdiv x.2.Drill 2))) 1 b.Layers true
def aY(v:Ak):Ad:=Ad.mk (D7 v.At (W64 (Int.tdiv v.Drill 2))) v.From v.To true
def Lz(b:AC)(s:AX):Ad:=Ad.mk (JP s.Shape) 1 b.Layers false
def drl(x:AD×Bc):Bool:=!decide (x.2.Drill=0)
theorem Nv{α β γ:Type}(p:β->Bool)(f:β->γ)(g:α->β):∀(xs:List α) (acc:List γ),xs.foldl (fun acc x=>bif p (g x)then acc++[f (g x)]else acc) acc=acc++((xs.map g).filter p).map f
 |[],acc=>(ko acc).symm
 |x::xs,acc=>by
  rw[List.foldl_cons,Nv p f g xs,List.map_cons];cases hq:p (g x)with
  |true=>rw[List.filter_cons_of_pos hq,List.map_cons];simp
  |false=>rw[List.filter_cons_of_neg (by rw[hq];decide)];rfl
theorem MC{α γ:Type}(f:α->List γ):∀(xs:List α) (acc:List γ),xs.foldl (fun acc x=>acc++f x) acc=acc++xs.flatMap f
 |[],acc=>(ko acc).symm
 |x::xs,acc=>by rw[List.foldl_cons,MC f xs,List.flatMap_cons,List.append_assoc]
theorem QN(b:AC)(m9:List AN):DA b m9=((((Bd b).flatMap (El m9)).filter drl).map (Wl b))++(BL b).map aY++(CO b).map (Lz b):=by
 have h3:∀o v o' w K0 K1,Gf b m9 o v o' w K0 K1 ((((CO b).length:Int)-0).toNat+1) o' 0=o'++(CO b).map (Lz b):=fun o v o' w K0 K1=>by
  have:=F7 (CO b) (fun acc s=>acc++[Lz b s]) (Gf b m9 o v o' w K0 K1) (fun acc _=>acc) (fun m acc v=>by rw[Gf,l9];rfl) (CO b).length 0 ((((CO b).length:Int)-0).toNat+1) o' rfl (lv _) mz;rw[km,En]at this;exact this
 have h2:∀o v K0,FI b m9 o v K0 ((((BL b).length:Int)-0).toNat+1) o 0=o++(BL b).map aY++(CO b).map (Lz b):=fun o v K0=>by
  have:=F7 (BL b) (fun acc v=>acc++[aY v]) (FI b m9 o v K0) (fun acc _=>acc++(CO b).map (Lz b)) (fun m acc w=>by rw[FI,h3,l9];rfl) (BL b).length 0 ((((BL b).length:Int)-0).toNat+1) o rfl (lv _) mz;rw[km,En]at this;exact this
 have h1:∀(o:List Ad) (k:Nat) K0,Gg b m9 o (k:Int) K0 ((((CM m9 ((Bd b).getD (k:Int).toNat default).Type').1.Pads.length:Int)-0).toNat+1) o 0=K0 (o++((El m9 ((Bd b).getD k default)).filter drl).map (Wl b)) ((k:Int)+1):=fun o k K0=>by
  rw[l9];have:=F7 (CM m9 ((Bd b).getD k default).Type').1.Pads (fun acc q=>bif drl ((Bd b).getD k default,q)then acc++[Wl b ((Bd b).getD k default,q)]else acc) (Gg b m9 o (k:Int) K0) (fun acc _=>K0 acc ((k:Int)+1)) (fun m acc w=>by
   rw[Gg,l9,l9];rfl) (CM m9 ((Bd b).getD k default).Type').1.Pads.length 0 (((((((CM m9 ((Bd b).getD k default).Type').1).Pads).length:Int))-0).toNat+1) o rfl (lv _) mz
  rw[km,Nv drl (Wl b) (fun q=>((Bd b).getD k default,q))]at this;exact this
 have:=F7 (Bd b) (fun acc p=>acc++((El m9 p).filter drl).map (Wl b)) (EM b m9) (fun acc _=>acc++(BL b).map aY++(CO b).map (Lz b)) (fun m acc v=>by rw[EM,h1,h2]) (Bd b).length 0 ((((Bd b).length:Int)-0).toNat+1) [] rfl (lv _) mz;rw[km,MC,kn]at this;refine this.trans ?_;rw[List.filter_flatMap,List.map_flatMap]
def trkR(t:AM):AV:=AV.mk t.Id ⟨#[]⟩ 2 t.Net t.Layer t.Layer (LD t.Shape)
def xH(v:Ak):AV:=AV.mk v.Id ⟨#[]⟩ 3 v.Net v.From v.To (IP v.At v.R)
theorem xE(b:AC)(m9:List AN):G8 b m9=Ds b m9++(BS b).map trkR++(BD b).map xH:=by
 have h1:∀v5 v7 K0,Hy b m9 v5 v7 K0 ((((BD b).length:Int)-0).toNat+1) v5 0=v5++(BD b).map xH:=fun v5 v7 K0=>by
  have:=F7 (BD b) (fun acc x=>acc++[xH x]) (Hy b m9 v5 v7 K0) (fun acc _=>acc) (fun m acc v=>by
   rw[Hy];unfold Z7m;rw[l9];rfl) (BD b).length 0 ((((((BD b).length:Int)))-0).toNat+1) v5 rfl (lv _) mz
  rw[km,En]at this;exact this
 have:=F7 (BS b) (fun acc x=>acc++[trkR x]) (G2 b m9) (fun acc _=>acc++(BD b).map xH) (fun m acc v=>by
  rw[G2];unfold Z7n;rw[l9,h1];rfl) (BS b).length 0 ((((((BS b).length:Int)))-0).toNat+1) (Ds b m9) rfl (lv _) mz
 rw[km,En]at this;exact this
section
open Go.RowKit
def Bn(op:Int)(tx:my)(n:Int)(bx:Al):Bu:=Bu.mk op tx n bx (OpL.mk 0 m8)
abbrev Mz:Nat×Blk:=(2,.cells [.i 0,.s (⟨#[]⟩),.i 0,.i 0,.i 0,.i 0,.i 0,vN] 145)
variable (xop:Int)(xtx:my)(xn yop op:Int)(xbx:Al)(ytx tx:my)(yn n:Int)(bx:Al)(c:Bu)(f:Nat->Cl)(ybx:Al)
abbrev Gm(t_:List Cl):List Cl:=(.i op)::(.s tx)::(.i n)::(.i bx.X0)::(.i bx.Y0)::(.i bx.X1)::(.i bx.Y1)::t_
theorem Wk (op:Int)(tx:my)(n:Int)(bx:Al):G4 Tryz.prog 103 [.agg [.i op,.s tx,.i n,.i bx.X0,.i bx.Y0,.i bx.X1,.i bx.Y1,vN]] (.av (.agg (Bu.c (Bn op tx n bx)))):=by
 refine pwf Tryz.func103 fun W0 M0=>?_;exact AA<|on<|AA<|on<|AA<|on<|AA<|AA<|rn ⟨[(1,tP 1 0),(2,tP 2 0),(3,.av (.one vN)),(4,tI 0)],[(1,.cells ((Gm op tx n bx [vN])) 145),Mz]⟩<|AJ<|Dq 1<|Bs<|AA<|AA<|on<|An kr<|Aw<|Aj<|Aj<|Ay<|AE<|AA<|on<|AO<|xl (.av (.agg ((Gm op tx n bx [vN])))) (De (y:=.av (.agg (Gm op tx n bx [opL (OpL.mk 0 m8)]))) (.av (.agg (rr5 (rr2 (.cons (.nil _ _) .nil))))) (by rfl))
abbrev Ry:List Cl:=[.i xop,.s xtx,.i xn,.i xbx.X0,.i xbx.Y0,.i xbx.X1,.i xbx.Y1,vN]
def Z7Q:CT:=(103,[.agg (Ry xop xtx xn xbx)],.val [] (.av (.agg (Bu.c (Bn xop xtx xn xbx)))))
def cg(xop:Int)(xtx:my)(xn:Int)(xbx:Al)(op:Int)(tx:my)(n:Int)(bx:Al):Bu:=Bu.mk op tx n bx (OpL.mk ([Bn xop xtx xn xbx].length) (AL Bu.c [Bn xop xtx xn xbx]))
theorem yX (xop:Int)(xtx:my)(xn:Int)(xbx:Al)(op:Int)(tx:my)(n:Int)(bx:Al):G4 Tryz.prog 103 [.agg [.i op,.s tx,.i n,.i bx.X0,.i bx.Y0,.i bx.X1,.i bx.Y1,.list false 8 1 (A9 8 1 [.i xop,.s xtx,.i xn,.i xbx.X0,.i xbx.Y0,.i xbx.X1,.i xbx.Y1,vN])]] (.av (.agg (Bu.c (cg xop xtx xn xbx op tx n bx)))):=by
 refine pwf Tryz.func103 fun W0 M0=>?_;refine AA<|on<|AA<|on<|AA<|on<|AA<|AA<|rn ⟨[(1,tP 1 0),(2,tP 2 0),(3,.av (.one (.list false 8 1 (A9 8 1 (Ry xop xtx xn xbx))))),(4,tI 0)],[(1,.cells ((Gm op tx n bx [vN])) 145),Mz]⟩<|AJ<|Dq 2<|Bs<|AA<|AA<|on<|CN kr<|AP<|AE<|AA<|AJ<|oe [] [(20,(Z7Q xop xtx xn xbx))] [0<=(0:Int)/\(0:Int)<((1:Nat):Int),none,1<=maxLen,1*88<=140737488355328] (.cons (cPu<|Wk xop xtx xn xbx) .nil) (H3 au0 au2 au2)<|Ao<|AE<|AZ (Ag 22 (Ai 8 Bu.c ([Bn xop xtx xn xbx]:List Bu)))<|rn ⟨[(1,tP 1 0),(2,tP 2 0),(3,.av (.one (.list false 8 1 (A9 8 1 (Ry xop xtx xn xbx))))),(4,tI 1)],[(1,.cells (Gm op tx n bx [.own 22 8 ([Bn xop xtx xn xbx].length)]) 145),Mz,(22,.row 8 ([Bn xop xtx xn xbx].length) (AL Bu.c [Bn xop xtx xn xbx]) 145)]⟩<|Bs<|AZ (wr (⟨[(1,tP 1 0),(2,tP 2 0),(3,.av (.one (.list false 8 1 (A9 8 1 (Ry xop xtx xn xbx))))),(4,tI 1)],[(1,.cells (Gm op tx n bx [.own 2000 8 ([Bn xop xtx xn xbx].length)]) 145),Mz,(2000,.row 8 ([Bn xop xtx xn xbx].length) (AL Bu.c [Bn xop xtx xn xbx]) 145)]⟩) 22 2000 hk0)<|AA<|AA<|on<|An kr<|Aw<|Aj<|Aj ?_;exact Ay<|AE<|AA<|on<|AO<|zy (vf 2000 hk0)
def Z7R:CT:=(103,[.agg (Ry xop xtx xn xbx)],.val [] (.av (.agg (Bu.c (Bn xop xtx xn xbx)))))
def Z7S:CT:=(103,[.agg [.i yop,.s ytx,.i yn,.i ybx.X0,.i ybx.Y0,.i ybx.X1,.i ybx.Y1,vN]],.val [] (.av (.agg (Bu.c (Bn yop ytx yn ybx)))))
def ce(xop:Int)(xtx:my)(xn:Int)(xbx:Al)(yop:Int)(ytx:my)(yn:Int)(ybx:Al)(op:Int)(tx:my)(n:Int)(bx:Al):Bu:=Bu.mk op tx n bx (OpL.mk ([Bn xop xtx xn xbx]++[Bn yop ytx yn ybx]).length (AL Bu.c ([Bn xop xtx xn xbx]++[Bn yop ytx yn ybx])))
abbrev ST(xop:Int)(xtx:my)(xn:Int)(xbx:Al)(yop:Int)(ytx:my)(yn:Int)(ybx:Al):Nat×Tv:=(3,.av (.one (.list false 8 2 (A9 8 2 [.i xop,.s xtx,.i xn,.i xbx.X0,.i xbx.Y0,.i xbx.X1,.i xbx.Y1,vN,.i yop,.s ytx,.i yn,.i ybx.X0,.i ybx.Y0,.i ybx.X1,.i ybx.Y1,vN]))))
theorem yW (xop:Int)(xtx:my)(xn:Int)(xbx:Al)(yop:Int)(ytx:my)(yn:Int)(ybx:Al)(op:Int)(tx:my)(n:Int)(bx:Al):G4 Tryz.prog 103 [.agg [.i op,.s tx,.i n,.i bx.X0,.i bx.Y0,.i bx.X1,.i bx.Y1,.list false 8 2 (A9 8 2 [.i xop,.s xtx,.i xn,.i xbx.X0,.i xbx.Y0,.i xbx.X1,.i xbx.Y1,vN,.i yop,.s ytx,.i yn,.i ybx.X0,.i ybx.Y0,.i ybx.X1,.i ybx.Y1,vN])]] (.av (.agg (Bu.c (ce xop xtx xn xbx yop ytx yn ybx op tx n bx)))):=by
 refine pwf Tryz.func103 fun W0 M0=>?_;refine AA<|on<|AA<|on<|AA<|on<|AA<|AA<|rn ⟨[(1,tP 1 0),(2,tP 2 0),(ST xop xtx xn xbx yop ytx yn ybx),(4,tI 0)],[(1,.cells ((Gm op tx n bx [vN])) 145),Mz]⟩<|AJ<|Dq 3<|Bs<|AA<|AA<|on<|CN kr<|AP<|AE<|AA<|AJ<|oe [] [(20,(Z7R xop xtx xn xbx))] [0<=(0:Int)/\(0:Int)<((2:Nat):Int),none,1<=maxLen,1*88<=140737488355328] (.cons (cPu<|Wk xop xtx xn xbx) .nil) (H3 au0 au2 au2)<|Ao<|AE<|AZ (Ag 22 (Ai 8 Bu.c ([Bn xop xtx xn xbx]:List Bu)))<|rn ⟨[(1,tP 1 0),(2,tP 2 0),(ST xop xtx xn xbx yop ytx yn ybx),(4,tI 1)],[(1,.cells (Gm op tx n bx [.own 22 8 ([Bn xop xtx xn xbx].length)]) 145),Mz,(22,.row 8 ([Bn xop xtx xn xbx].length) (AL Bu.c [Bn xop xtx xn xbx]) 145)]⟩<|Bs<|AZ (wr (⟨[(1,tP 1 0),(2,tP 2 0),(ST xop xtx xn xbx yop ytx yn ybx),(4,tI 1)],[(1,.cells (Gm op tx n bx [.own 2000 8 ([Bn xop xtx xn xbx].length)]) 145),Mz,(2000,.row 8 ([Bn xop xtx xn xbx].length) (AL Bu.c [Bn xop xtx xn xbx]) 145)]⟩) 22 2000 hk0)<|AA<|AA<|on<|CN kr<|AP<|AE<|AA<|AJ ?_
 exact oe [] [(20,(Z7S yop ytx yn ybx))] [0<=(1:Int)/\(1:Int)<((2:Nat):Int),none,[Bn xop xtx xn xbx].length=[Bn xop xtx xn xbx].length,([Bn xop xtx xn xbx].length)+1<=maxLen,(([Bn xop xtx xn xbx].length)+1)*88<=140737488355328] (.cons (cPu<|Wk yop ytx yn ybx) .nil) (H4 au0 rfl au2 au2)<|Ao<|AE<|AZ (Ag 22 (Ac (AU 8 Bu.c [Bn xop xtx xn xbx]) (Ai 8 Bu.c ([Bn yop ytx yn ybx]:List Bu))))<|rn ⟨[(1,tP 1 0),(2,tP 2 0),(ST xop xtx xn xbx yop ytx yn ybx),(4,tI 2)],[(1,.cells (Gm op tx n bx [.own 22 8 ([Bn xop xtx xn xbx]++[Bn yop ytx yn ybx]).length]) 145),Mz,(22,.row 8 ([Bn xop xtx xn xbx]++[Bn yop ytx yn ybx]).length (AL Bu.c ([Bn xop xtx xn xbx]++[Bn yop ytx yn ybx])) 145)]⟩<|Bs<|AZ (wr (⟨[(1,tP 1 0),(2,tP 2 0),(ST xop xtx xn xbx yop ytx yn ybx),(4,tI 2)],[(1,.cells (Gm op tx n bx [.own 2001 8 ([Bn xop xtx xn xbx]++[Bn yop ytx yn ybx]).length]) 145),Mz,(2001,.row 8 ([Bn xop xtx xn xbx]++[Bn yop ytx yn ybx]).length (AL Bu.c ([Bn xop xtx xn xbx]++[Bn yop ytx yn ybx])) 145)]⟩) 22 2001 hk0)<|AA<|AA<|on<|An kr<|Aw<|Aj<|Aj<|Ay<|AE<|AA<|on<|AO<|zy (vf 2001 hk0)
def cd(f:Nat->Nat->Cl)(op:Int)(tx:my)(n:Int)(bx:Al):Bu:=Bu.mk op tx n bx (OpL.mk 0 m8)
theorem yV (f:Nat->Nat->Cl)(op:Int)(tx:my)(n:Int)(bx:Al):G4 Tryz.prog 103 [.agg [.i op,.s tx,.i n,.i bx.X0,.i bx.Y0,.i bx.X1,.i bx.Y1,.list false 8 0 f]] (.av (.agg (Bu.c (cd f op tx n bx)))):=by
 refine pwf Tryz.func103 fun W0 M0=>?_;exact AA<|on<|AA<|on<|AA<|on<|AA<|AA<|rn ⟨[(1,tP 1 0),(2,tP 2 0),(3,.av (.one (.list false 8 0 f))),(4,tI 0)],[(1,.cells ((Gm op tx n bx [vN])) 145),Mz]⟩<|AJ<|Dq 1<|Bs<|AA<|AA<|on<|An kr<|Aw<|Aj<|Aj<|Ay<|AE<|AA<|on<|AO<|xl (.av (.agg ((Gm op tx n bx [vN])))) (De (y:=.av (.agg (Gm op tx n bx [opL (OpL.mk 0 m8)]))) (.av (.agg (rr5 (rr2 (.cons (.nil _ _) .nil))))) (by rfl))
def clI:Cl->Int
 |.val (.int _ n)=>n
 |_=>0
def clS:Cl->my
 |.val (.string s)=>s
 |_=>⟨#[]⟩
def CP(c:Bu):Prop:=(∃f,c.L=OpL.mk 0 f)\/(∃(xop:Int) (xtx:my) (xn:Int) (xbx:Al),c.L=OpL.mk 1 (A9 8 1 [.i xop,.s xtx,.i xn,.i xbx.X0,.i xbx.Y0,.i xbx.X1,.i xbx.Y1,vN]))\/∃(xop:Int) (xtx:my) (xn:Int) (xbx:Al) (yop:Int) (ytx:my) (yn:Int) (ybx:Al),c.L=OpL.mk 2 (A9 8 2 [.i xop,.s xtx,.i xn,.i xbx.X0,.i xbx.Y0,.i xbx.X1,.i xbx.Y1,vN,.i yop,.s ytx,.i yn,.i ybx.X0,.i ybx.Y0,.i ybx.X1,.i ybx.Y1,vN])
def VD:Bu:=Bn (clI (f 0)) (clS (f 1)) (clI (f 2)) (Al.mk (clI (f 3)) (clI (f 4)) (clI (f 5)) (clI (f 6)))
def copyL:OpL->OpL
 |⟨0,_⟩=>OpL.mk 0 m8
 |⟨1,f⟩=>OpL.mk ([VD (f 0)].length) (AL Bu.c [VD (f 0)])
 |⟨_+2,f⟩=>OpL.mk ([VD (f 0)]++[VD (f 1)]).length (AL Bu.c ([VD (f 0)]++[VD (f 1)]))
def Mt(c:Bu):Bu:=Bu.mk c.Op c.Text c.N c.Box (copyL c.L)
def VG:CT:=(103,[.agg (Bu.c c)],.val [] (.av (.agg (Bu.c (Mt c)))))
theorem jR(c:Bu)(h:CP c):PuP 103 (VG c).2.1 (.av (.agg (Bu.c (Mt c)))):=by
 obtain⟨op,tx,n,bx,l⟩:=c;rcases h with ⟨f,e⟩|⟨xop,xtx,xn,xbx,e⟩|⟨xop,xtx,xn,xbx,yop,ytx,yn,ybx,e⟩
 ·have e:l=OpL.mk 0 f:=e;subst e;exact yV f op tx n bx
 ·have e:l=OpL.mk 1 _:=e;subst e;exact yX xop xtx xn xbx op tx n bx
 have e:l=OpL.mk 2 _:=e;subst e;exact yW xop xtx xn xbx yop ytx yn ybx op tx n bx
theorem Sw(c:Bu)(h:CP c):OKc (VG c):=cPu<|jR c h
def XX(b:AC):Prop:=∀r∈b.Rules,CP r.A/\CP r.B
theorem OM{b:AC}(h:XX b)(k:Nat):CP (b.Rules.getD k default).A/\CP (b.Rules.getD k default).B:=ER (p:=fun r:A5=>CP r.A/\CP r.B) ⟨.inl ⟨_,rfl⟩,.inl ⟨_,rfl⟩⟩ h k
end
structure Ct (b:AC):Prop where
 lParts:(b.Parts.length:Int)<=1000000
 lNets:(b.Nets.length:Int)<=1000000
 lTracks:(b.Tracks.length:Int)<=1000000
 lVias:(b.Vias.length:Int)<=1000000
 lPours:(b.Pours.length:Int)<=1000000
 lKeeps:(b.Keeps.length:Int)<=1000000
 lSlots:(b.Slots.length:Int)<=1000000
 lClasses:(b.Classes.length:Int)<=1000000
 lWaivers:(b.Waivers.length:Int)<=1000000
 lMatches:(b.Matches.length:Int)<=1000000
 lRules:(b.Rules.length:Int)<=1000000
 out:(b.Outline.Edges.length:Int)<=1000000
 pin:∀ k,((b.Nets.getD k default).Pins.length:Int)<=1000000
 ted:∀ k,((b.Tracks.getD k default).Shape.Edges.length:Int)<=1000000
 rec':∀ k,((b.Pours.getD k default).Rects.length:Int)<=1000000
 ked:∀ k,((b.Keeps.getD k default).Shape.Edges.length:Int)<=1000000
 sed:∀ k,((b.Slots.getD k default).Shape.Edges.length:Int)<=1000000
 cnt:∀ k,((b.Classes.getD k default).Nets.length:Int)<=1000000
 mnt:∀ k,((b.Matches.getD k default).Nets.length:Int)<=1000000
 rok:XX b
end Go.Proofs.YtheobjkgllmnmaaGreat
