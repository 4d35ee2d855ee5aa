/-
  No statement is proved in this text. It holds a part of what the proof of PlaceInside needs.
-/
import Derived.Test.YtdbampcfmjbgmaaGreatPlaceInsideQd
namespace Go.Proofs.YtdbampcfmjbgmaaGreat
set_option maxRecDepth 100000
set_option linter.unusedVariables false
set_option linter.unusedSimpArgs false
section
open Go.RowKit
def Z1j (l:(List (List Int))):Tv:=.av (oL l)
abbrev Xj (b:AF):List Cl:=(A6 b [vN,vN,vN,vN,vN,vN,vN,vN,vN])
def Z1k (b:AF):Blk:=.cells (Xj b) 40
abbrev R6 (b:AF):List Cl:=(A6 b [lst 6 Az.c [],lst 8 CG.c [],lst 8 Bk.c [],lst 5 Cs.c [],lst 4 Dh.c [],lst 2 B5.c [],lst 20 A5.c [],lst 3 B1.c [],lst 3 Di.c []])
abbrev LT (b:AF):=AF.mk b.Layers b.Outline b.Parts b.Nets [] [] [] [] [] [] [] [] []
abbrev Np:List Av:=[.one (.ptr 1000 0),.one (.ptr 1001 0)]
def Z1l (b:AF) (l:(List (List Int))):FuncId×List Av×Ef:=(90,(Np:List Av).map (E9 1000 1000 1001 22),wqV 1000 22 [6,7,8,9,10,11,12,13,14] (R6 b) 40 (.cells [lst 1 (fun x=>[.i x]) (AU l 4),.i 0] 146) (.av (.one (.s (CR (LT b) (AD.mk (AU l 4) 0)).1))) (.cells (AD.c (CR (LT b) (AD.mk (AU l 4) 0)).2) 146))
abbrev Z1m (b:AF) (l:(List (List Int))):AD:=(CR (AF.mk b.Layers b.Outline b.Parts b.Nets [] [] [] [] [] [] [] [] []) (AD.mk (AU l 4) 0)).2
def Z1n (b:AF) (l:(List (List Int))):Tv:=.av (.one (.s (CR (LT b) (AD.mk (AU l 4) 0)).1))
def Z1o (b:AF) (l:(List (List Int))):FuncId×List Av×Ef:=(48,(Nn:List Av).map (Bh 1000 22),wrI 22 (.cells (AD.c (Z1m b l)) 146) (tI (AA (Z1m b l) 6).1) (.cells (AD.c (AA (Z1m b l) 6).2) 146))
def Z1p (b:AF) (l:(List (List Int))):Blk:=.cells (AD.c (AA (Z1m b l) 6).2) 146
abbrev Ep:List Av:=[.one (.ptr 1000 0),.one (.i 3)]
def Z1q (l:(List (List Int))):FuncId×List Av×Ef:=(48,(Ep:List Av).map (Bh 1000 75),wrI 75 (.cells [lst 1 (fun x=>[.i x]) (AU l 5),.i 0] 146) (tI (AA (AD.mk (AU l 5) 0) 3).1) (.cells (AD.c (AA (AD.mk (AU l 5) 0) 3).2) 146))
def Z1r (l:(List (List Int))):Tv:=tI (AA (AD.mk (AU l 5) 0) 3).1
def Z1s (l:(List (List Int))):Blk:=.cells (AD.c (AA (AD.mk (AU l 5) 0) 3).2) 146
abbrev J6 (l:List (List Int)):=AA (AD.mk (AU l 6) 0) 3
def Z1t (l:(List (List Int))):FuncId×List Av×Ef:=(48,(Ep:List Av).map (Bh 1000 189),wrI 189 (.cells [lst 1 (fun x=>[.i x]) (AU l 6),.i 0] 146) (tI (J6 l).1) (.cells (AD.c (J6 l).2) 146))
def Z1u (l:(List (List Int))):Blk:=.cells (AD.c (J6 l).2) 146
abbrev Jk (b:AF):=AF.mk b.Layers b.Outline b.Parts [] [] [] [] [] [] [] [] [] []
abbrev Nm (b:AF) (types:List AL):List Av:=[.agg (fG b),.one (Gp types),.one (.ptr 1000 0)]
def Z1v (b:AF) (types:(List AL)) (l:(List (List Int))):FuncId×List Av×Ef:=(92,((Nm b types):List Av).map (Bh 1000 189),wrI 189 (.cells (AD.c (J6 l).2) 146) (.av (.agg (AB.c (Be (Jk b) types (J6 l).2).1))) (.cells (AD.c (Be (Jk b) types (J6 l).2).2) 146))
abbrev Z1w (b:AF) (types:(List AL)) (l:(List (List Int))):AD:=(Be (AF.mk b.Layers b.Outline b.Parts [] [] [] [] [] [] [] [] [] []) types (AA (AD.mk (AU l 6) 0) 3).2).2
def Z1x (b:AF) (types:(List AL)) (l:(List (List Int))):AB:=(Be (AF.mk b.Layers b.Outline b.Parts [] [] [] [] [] [] [] [] [] []) types (AA (AD.mk (AU l 6) 0) 3).2).1
def Z1y (b:AF) (types:(List AL)) (l:(List (List Int))):FuncId×List Av×Ef:=(48,(Ep:List Av).map (Bh 1000 189),wrI 189 (.cells (AD.c (Z1w b types l)) 146) (tI (AA (Z1w b types l) 3).1) (.cells (AD.c (AA (Z1w b types l) 3).2) 146))
def Z1z (b:AF) (types:(List AL)) (l:(List (List Int))):AW:=Cn (An.mk (Z1x b types l).X (Z1x b types l).Y (W64 ((Z1x b types l).X+30)) (W64 ((Z1x b types l).Y+20)))
abbrev Z1A (l:(List (List Int))) (b:AF) (types:(List AL)):AD:=bif decide (((AA (AD.mk (AU l 6) 0) 3).1:Int)=0) then (AA (Z1w b types l) 3).2 else (AA (AD.mk (AU l 6) 0) 3).2
def Z1B (l:(List (List Int))) (b:AF) (types:(List AL)):(List Cs):=bif decide (((AA (AD.mk (AU l 6) 0) 3).1:Int)=0) then [Cs.mk 41 (AA (Z1w b types l) 3).1 (Z1z b types l)] else []
def Z1C (l:(List (List Int))) (b:AF) (types:(List AL)):FuncId×List Av×Ef:=(48,(Ep:List Av).map (Bh 1000 189),wrI 189 (.cells (AD.c (Z1A l b types)) 146) (tI (AA (Z1A l b types) 3).1) (.cells (AD.c (AA (Z1A l b types) 3).2) 146))
def Z1D (l:(List (List Int))) (b:AF) (types:(List AL)):Tv:=tB (decide (((AA (Z1A l b types) 3).1:Int)=0))
def Z1E (l:(List (List Int))) (b:AF) (types:(List AL)):Blk:=.cells (AD.c (AA (Z1A l b types) 3).2) 146
def Z1F (b:AF) (types:(List AL)) (l:(List (List Int))):FuncId×List Av×Ef:=(92,((Nm b types):List Av).map (Bh 1000 189),wrI 189 (.cells (AD.c (AA (Z1A l b types) 3).2) 146) (.av (.agg (AB.c (Be (Jk b) types (AA (Z1A l b types) 3).2).1))) (.cells (AD.c (Be (Jk b) types (AA (Z1A l b types) 3).2).2) 146))
abbrev Z1G (b:AF) (types:(List AL)) (l:(List (List Int))):AD:=(Be (AF.mk b.Layers b.Outline b.Parts [] [] [] [] [] [] [] [] [] []) types (AA (Z1A l b types) 3).2).2
def Z1H (b:AF) (types:(List AL)) (l:(List (List Int))):AB:=(Be (AF.mk b.Layers b.Outline b.Parts [] [] [] [] [] [] [] [] [] []) types (AA (Z1A l b types) 3).2).1
def Z1I (b:AF) (types:(List AL)) (l:(List (List Int))):FuncId×List Av×Ef:=(48,(Jh:List Av).map (Bh 1000 189),wrI 189 (.cells (AD.c (Z1G b types l)) 146) (tI (AA (Z1G b types l) 4).1) (.cells (AD.c (AA (Z1G b types l) 4).2) 146))
def Z1J (b:AF) (types:(List AL)) (l:(List (List Int))):AE:=Em (Z1H b types l) (AB.mk (W64 ((Z1H b types l).X+25)) (W64 ((Z1H b types l).Y+10)))
def Z1K:Blk:=.row 8 ([]:List Bk).length (Ak Bk.c ([]:List Bk)) 92
def Z1L (Am:List Bk):Blk:=.row 8 Am.length (Ak Bk.c Am) 92
def Z1M:Blk:=.row 8 ([]:List CG).length (Ak CG.c ([]:List CG)) 89
def Z1N (AX:List CG):Blk:=.row 8 AX.length (Ak CG.c AX) 89
def Z1O:Blk:=.row 6 ([]:List Az).length (Ak Az.c ([]:List Az)) 87
def Z1P (b:AF):Blk:=.cells (A6 b [.own 100000 6 ([]:List Az).length,vN,vN,vN,vN,vN,vN,vN,vN]) 40
abbrev R2 (b:AF) (AN:List Az):List Cl:=(A6 b [.own 100000 6 AN.length,vN,vN,vN,vN,vN,vN,vN,vN])
def Z1Q (b:AF) (AN:List Az):Blk:=.cells (R2 b AN) 40
def Z1R (AN:List Az):Blk:=.row 6 AN.length (Ak Az.c AN) 87
abbrev HC:List Av:=[.one (.ptr 1000 0),.one (.i 2)]
def Z1S (v6:AD):FuncId×List Av×Ef:=(48,(HC:List Av).map (Bh 1000 22),wrI 22 (.cells (AD.c v6) 146) (tI (AA v6 2).1) (.cells (AD.c (AA v6 2).2) 146))
abbrev Hh (v6:AD):=AA (AA v6 2).2 4
def Z1T (v6:AD):FuncId×List Av×Ef:=(48,(Jh:List Av).map (Bh 1000 22),wrI 22 (.cells (AD.c (AA v6 2).2) 146) (tI (Hh v6).1) (.cells (AD.c (Hh v6).2) 146))
def Z1U (b:AF) (types:(List AL)) (v6:AD):FuncId×List Av×Ef:=(92,((Nm b types):List Av).map (Bh 1000 22),wrI 22 (.cells (AD.c (Hh v6).2) 146) (.av (.agg (AB.c (Be (Jk b) types (Hh v6).2).1))) (.cells (AD.c (Be (Jk b) types (Hh v6).2).2) 146))
abbrev Z1V (b:AF) (types:(List AL)) (v6:AD):AD:=(Be (AF.mk b.Layers b.Outline b.Parts [] [] [] [] [] [] [] [] [] []) types (AA (AA v6 2).2 4).2).2
def Z1W (b:AF) (types:(List AL)) (v6:AD):AB:=(Be (AF.mk b.Layers b.Outline b.Parts [] [] [] [] [] [] [] [] [] []) types (AA (AA v6 2).2 4).2).1
def Z1X (b:AF) (types:(List AL)) (v6:AD):FuncId×List Av×Ef:=(92,((Nm b types):List Av).map (Bh 1000 22),wrI 22 (.cells (AD.c (Z1V b types v6)) 146) (.av (.agg (AB.c (Be (Jk b) types (Z1V b types v6)).1))) (.cells (AD.c (Be (Jk b) types (Z1V b types v6)).2) 146))
abbrev Z1Y (b:AF) (types:(List AL)) (v6:AD):AD:=(Be (AF.mk b.Layers b.Outline b.Parts [] [] [] [] [] [] [] [] [] []) types (Z1V b types v6)).2
def Z1Z (b:AF) (types:(List AL)) (v6:AD):AB:=(Be (AF.mk b.Layers b.Outline b.Parts [] [] [] [] [] [] [] [] [] []) types (Z1V b types v6)).1
abbrev VK (b:AF) (types:List AL) (v6:AD):=CO (Z1W b types v6) (Z1Z b types v6) (Z1Y b types v6)
def Z20 (b:AF) (types:(List AL)) (v6:AD):FuncId×List Av×Ef:=(91,([.agg (AB.c (Z1W b types v6)),.agg (AB.c (Z1Z b types v6)),.one (.ptr 1000 0)]:List Av).map (Bh 1000 22),wrI 22 (.cells (AD.c (Z1Y b types v6)) 146) (.av (.one (lst 7 AE.c (VK b types v6).1))) (.cells (AD.c (VK b types v6).2) 146))
abbrev Z21 (b:AF) (types:(List AL)) (v6:AD):AD:=(CO (Z1W b types v6) (Z1Z b types v6) (Z1Y b types v6)).2
abbrev Xn (v9:Int) (v7:ByteArray) (v6:AD) (b:AF) (types:List AL):=[Az.mk (W64 (11+v9)) v7 (W64 (1+(AA v6 2).1)) (AW.mk 1 (VK b types v6).1 (W64 (3+(Hh v6).1)))]
def Z22 (AN:List Az) (v9:Int) (v7:ByteArray) (v6:AD) (b:AF) (types:(List AL)):Blk:=.row 6 (AN++(Xn v9 v7 v6 b types)).length (Ak Az.c (AN++(Xn v9 v7 v6 b types))) 87
abbrev Xq (b:AF) (AN:List Az) (v9:Int) (v7:ByteArray) (v6:AD) (types:List AL):List Cl:=(A6 b [.own 66 6 (AN++(Xn v9 v7 v6 b types)).length,vN,vN,vN,vN,vN,vN,vN,vN])
def Z23 (b:AF) (AN:List Az) (v9:Int) (v7:ByteArray) (v6:AD) (types:(List AL)):Blk:=.cells (Xq b AN v9 v7 v6 types) 40
def Z24 (b:AF) (types:(List AL)) (v6:AD):FuncId×List Av×Ef:=(90,(Np:List Av).map (E9 1000 1000 1001 22),wqV 1000 22 [6,7,8,9,10,11,12,13,14] (R6 b) 40 (.cells (AD.c (Z21 b types v6)) 146) (.av (.one (.s (CR (LT b) (Z21 b types v6)).1))) (.cells (AD.c (CR (LT b) (Z21 b types v6)).2) 146))
abbrev Z25 (b:AF) (types:(List AL)) (v6:AD):AD:=(CR (AF.mk b.Layers b.Outline b.Parts b.Nets [] [] [] [] [] [] [] [] []) (Z21 b types v6)).2
def Z26 (b:AF) (types:(List AL)) (v6:AD):Tv:=.av (.one (.s (CR (LT b) (Z21 b types v6)).1))
def Z27 (b:AF) (types:(List AL)) (v6:AD):Blk:=.cells (AD.c (Z25 b types v6)) 146
def Z28 (b:AF) (v6':AD):FuncId×List Av×Ef:=(90,(Np:List Av).map (E9 1000 1000 1001 75),wqV 1000 75 [6,7,8,9,10,11,12,13,14] (R6 b) 40 (.cells (AD.c v6') 146) (.av (.one (.s (CR (LT b) v6').1))) (.cells (AD.c (CR (LT b) v6').2) 146))
abbrev Z29 (b:AF) (v6':AD):AD:=(CR (AF.mk b.Layers b.Outline b.Parts b.Nets [] [] [] [] [] [] [] [] []) v6').2
def Z2a (b:AF) (types:(List AL)) (v6':AD):FuncId×List Av×Ef:=(92,((Nm b types):List Av).map (Bh 1000 75),wrI 75 (.cells (AD.c (Z29 b v6')) 146) (.av (.agg (AB.c (Be (Jk b) types (Z29 b v6')).1))) (.cells (AD.c (Be (Jk b) types (Z29 b v6')).2) 146))
abbrev Z2b (b:AF) (types:(List AL)) (v6':AD):AD:=(Be (AF.mk b.Layers b.Outline b.Parts [] [] [] [] [] [] [] [] [] []) types (Z29 b v6')).2
def Z2c (b:AF) (types:(List AL)) (v6':AD):AB:=(Be (AF.mk b.Layers b.Outline b.Parts [] [] [] [] [] [] [] [] [] []) types (Z29 b v6')).1
abbrev KE:List Av:=[.one (.ptr 1000 0),.one (.i 5)]
def Z2d (b:AF) (types:(List AL)) (v6':AD):FuncId×List Av×Ef:=(48,(KE:List Av).map (Bh 1000 75),wrI 75 (.cells (AD.c (Z2b b types v6')) 146) (tI (AA (Z2b b types v6') 5).1) (.cells (AD.c (AA (Z2b b types v6') 5).2) 146))
def Z2e (b:AF) (types:(List AL)) (v6':AD):FuncId×List Av×Ef:=(48,(Ep:List Av).map (Bh 1000 75),wrI 75 (.cells (AD.c (AA (Z2b b types v6') 5).2) 146) (tI (AA (AA (Z2b b types v6') 5).2 3).1) (.cells (AD.c (AA (AA (Z2b b types v6') 5).2 3).2) 146))
abbrev Z2f (b:AF) (types:(List AL)) (v6':AD):AD:=(AA (AA (Z2b b types v6') 5).2 3).2
def Z2g (b:AF) (types:(List AL)) (v6':AD):Blk:=.cells (AD.c (Z2f b types v6')) 146
abbrev Qr (v11:Int) (b:AF) (v6':AD) (types:List AL):=[CG.mk (W64 (21+v11)) (CR (LT b) v6').1 (Z2c b types v6') (W64 (6+(AA (Z2b b types v6') 5).1)) (W64 (4+(W64 (2*(AA (AA (Z2b b types v6') 5).2 3).1)))) 1 2]
def Z2h (AX:List CG) (v11:Int) (b:AF) (v6':AD) (types:(List AL)):Blk:=.row 8 (AX++(Qr v11 b v6' types)).length (Ak CG.c (AX++(Qr v11 b v6' types))) 89
def Z2i (b:AF) (AN:List Az) (AX:List CG) (v11:Int) (v6':AD) (types:(List AL)):Blk:=.cells (A6 b [.own 100000 6 AN.length,.own 108 8 (AX++(Qr v11 b v6' types)).length,vN,vN,vN,vN,vN,vN,vN]) 40
def Z2j (v6':AD):FuncId×List Av×Ef:=(48,(Ep:List Av).map (Bh 1000 75),wrI 75 (.cells (AD.c v6') 146) (tI (AA v6' 3).1) (.cells (AD.c (AA v6' 3).2) 146))
def Z2k (v6'':AD):FuncId×List Av×Ef:=(48,(Tm:List Av).map (Bh 1000 75),wrI 75 (.cells (AD.c v6'') 146) (tI (AA v6'' 12).1) (.cells (AD.c (AA v6'' 12).2) 146))
abbrev Gn (v6'':AD):=AA (AA v6'' 12).2 12
def Z2l (v6'':AD):FuncId×List Av×Ef:=(48,(Tm:List Av).map (Bh 1000 75),wrI 75 (.cells (AD.c (AA v6'' 12).2) 146) (tI (Gn v6'').1) (.cells (AD.c (Gn v6'').2) 146))
def Z2m (v6'':AD):FuncId×List Av×Ef:=(48,(Nn:List Av).map (Bh 1000 75),wrI 75 (.cells (AD.c (Gn v6'').2) 146) (tI (AA (Gn v6'').2 6).1) (.cells (AD.c (AA (Gn v6'').2 6).2) 146))
abbrev Z2n (v6'':AD):AD:=(AA (AA (AA v6'' 12).2 12).2 6).2
abbrev MJ (v6'':AD):=AA (Z2n v6'') 5
def Z2o (v6'':AD):FuncId×List Av×Ef:=(48,(KE:List Av).map (Bh 1000 75),wrI 75 (.cells (AD.c (Z2n v6'')) 146) (tI (MJ v6'').1) (.cells (AD.c (MJ v6'').2) 146))
abbrev Tu (b:AF) (v6'':AD):=CR (LT b) (MJ v6'').2
def Z2p (b:AF) (v6'':AD):FuncId×List Av×Ef:=(90,(Np:List Av).map (E9 1000 1000 1001 75),wqV 1000 75 [6,7,8,9,10,11,12,13,14] (R6 b) 40 (.cells (AD.c (MJ v6'').2) 146) (.av (.one (.s (Tu b v6'').1))) (.cells (AD.c (Tu b v6'').2) 146))
abbrev Z2q (b:AF) (v6'':AD):AD:=(CR (AF.mk b.Layers b.Outline b.Parts b.Nets [] [] [] [] [] [] [] [] []) (AA (Z2n v6'') 5).2).2
abbrev Lr (b:AF) (v6'':AD):=AA (Z2q b v6'') 2
def Z2r (b:AF) (v6'':AD):FuncId×List Av×Ef:=(48,(HC:List Av).map (Bh 1000 75),wrI 75 (.cells (AD.c (Z2q b v6'')) 146) (tI (Lr b v6'').1) (.cells (AD.c (Lr b v6'').2) 146))
abbrev Nu (b:AF) (v6'':AD):=AA (Lr b v6'').2 3
def Z2s (b:AF) (v6'':AD):FuncId×List Av×Ef:=(48,(Ep:List Av).map (Bh 1000 75),wrI 75 (.cells (AD.c (Lr b v6'').2) 146) (tI (Nu b v6'').1) (.cells (AD.c (Nu b v6'').2) 146))
abbrev Z2t (b:AF) (v6'':AD):AD:=(AA (AA (Z2q b v6'') 2).2 3).2
abbrev Lq (b:AF) (v6'':AD):=AA (Z2t b v6'') 2
def Z2u (b:AF) (v6'':AD):FuncId×List Av×Ef:=(48,(HC:List Av).map (Bh 1000 75),wrI 75 (.cells (AD.c (Z2t b v6'')) 146) (tI (Lq b v6'').1) (.cells (AD.c (Lq b v6'').2) 146))
abbrev Nt (b:AF) (v6'':AD):=AA (Lq b v6'').2 4
def Z2v (b:AF) (v6'':AD):FuncId×List Av×Ef:=(48,(Jh:List Av).map (Bh 1000 75),wrI 75 (.cells (AD.c (Lq b v6'').2) 146) (tI (Nt b v6'').1) (.cells (AD.c (Nt b v6'').2) 146))
abbrev Z2w (b:AF) (v6'':AD):AD:=(AA (AA (Z2t b v6'') 2).2 4).2
abbrev Hj (b:AF) (v6'':AD):=AA (Z2w b v6'') 6
def Z2x (b:AF) (v6'':AD):FuncId×List Av×Ef:=(48,(Nn:List Av).map (Bh 1000 75),wrI 75 (.cells (AD.c (Z2w b v6'')) 146) (tI (Hj b v6'').1) (.cells (AD.c (Hj b v6'').2) 146))
abbrev Ls (v6'':AD):=[An.mk (AA v6'' 12).1 (Gn v6'').1 (W64 ((W64 ((AA v6'' 12).1+1))+(AA (Gn v6'').2 6).1)) (W64 ((W64 ((Gn v6'').1+1))+(MJ v6'').1))]
abbrev LY (v12:Int) (b:AF) (v6'':AD) (t_:List Cl):List Cl:=(.i (W64 (31+v12)))::(.s (Tu b v6'').1)::(.i (W64 (1+(Lr b v6'').1)))::(.i (W64 (20+(W64 (5*(Nu b v6'').1)))))::(.i (Lq b v6'').1)::(.i (([0,0,5,9]:List Int).getD (Nt b v6'').1.toNat 0))::(.i (W64 (4+(Hj b v6'').1)))::t_
def Z2y (v12:Int) (b:AF) (v6'':AD):Blk:=.cells (LY v12 b v6'' [.own 158 4 ((Ls v6'').length)]) 92
def Z2z (v6'':AD):Blk:=.row 4 ((Ls v6'').length) (Ak An.c (Ls v6'')) 74
def Z2A (b:AF) (v6'':AD):FuncId×List Av×Ef:=(48,(Ep:List Av).map (Bh 1000 75),wrI 75 (.cells (AD.c (Hj b v6'').2) 146) (tI (AA (Hj b v6'').2 3).1) (.cells (AD.c (AA (Hj b v6'').2 3).2) 146))
abbrev Z2B (b:AF) (v6'':AD):AD:=(AA (AA (Z2w b v6'') 6).2 3).2
def Z2C (b:AF) (v6'':AD):Blk:=.cells (AD.c (Z2B b v6'')) 146
abbrev Qo (v6'':AD):=[An.mk (W64 ((AA v6'' 12).1-2)) (Gn v6'').1 (W64 ((AA v6'' 12).1+1)) (W64 ((Gn v6'').1+2))]
def Z2D (v6'':AD):Blk:=.row 4 ((Ls v6'')++(Qo v6'')).length (Ak An.c ((Ls v6'')++(Qo v6''))) 74
def Z2E (b:AF) (v6'':AD):(List An):=bif decide (((AA (AA (Z2w b v6'') 6).2 3).1:Int)=0) then ([An.mk (AA v6'' 12).1 (AA (AA v6'' 12).2 12).1 (W64 ((W64 ((AA v6'' 12).1+1))+(AA (AA (AA v6'' 12).2 12).2 6).1)) (W64 ((W64 ((AA (AA v6'' 12).2 12).1+1))+(AA (Z2n v6'') 5).1))]++[An.mk (W64 ((AA v6'' 12).1-2)) (AA (AA v6'' 12).2 12).1 (W64 ((AA v6'' 12).1+1)) (W64 ((AA (AA v6'' 12).2 12).1+2))]) else [An.mk (AA v6'' 12).1 (AA (AA v6'' 12).2 12).1 (W64 ((W64 ((AA v6'' 12).1+1))+(AA (AA (AA v6'' 12).2 12).2 6).1)) (W64 ((W64 ((AA (AA v6'' 12).2 12).1+1))+(AA (Z2n v6'') 5).1))]
abbrev Qt (v12:Int) (b:AF) (v6'':AD):=[Bk.mk (W64 (31+v12)) (Tu b v6'').1 (W64 (1+(Lr b v6'').1)) (W64 (20+(W64 (5*(Nu b v6'').1)))) (Lq b v6'').1 (([0,0,5,9]:List Int).getD (Nt b v6'').1.toNat 0) (W64 (4+(Hj b v6'').1)) (Z2E b v6'')]
def Z2F (Am:List Bk) (v12:Int) (b:AF) (v6'':AD):Blk:=.row 8 (Am++(Qt v12 b v6'')).length (Ak Bk.c (Am++(Qt v12 b v6''))) 92
def Z2G (b:AF) (AN:List Az) (v9:Int) (v7:ByteArray) (v6:AD) (types:(List AL)):Blk:=.cells (A6 b [.own 100000 6 (AN++(Xn v9 v7 v6 b types)).length,vN,vN,vN,vN,vN,vN,vN,vN]) 40
def Z2H (b:AF) (AN:List Az):Blk:=.cells (A6 b [.own 100000 6 AN.length,.own 100001 8 ([]:List CG).length,vN,vN,vN,vN,vN,vN,vN]) 40
abbrev Eh (AN:List Az) (AX:List CG) (t_:List Cl):List Cl:=(.own 100000 6 AN.length)::(.own 100001 8 AX.length)::t_
abbrev R3 (b:AF) (AN:List Az) (AX:List CG):List Cl:=(A6 b (Eh AN AX [vN,vN,vN,vN,vN,vN,vN]))
def Z2I (b:AF) (AN:List Az) (AX:List CG):Blk:=.cells (R3 b AN AX) 40
def Z2J (b:AF) (AN:List Az) (AX:List CG) (Am:List Bk) (v12:Int) (v6'':AD):Blk:=.cells (A6 b (Eh AN AX [.own 183 8 (Am++(Qt v12 b v6'')).length,vN,vN,vN,vN,vN,vN])) 40
def Z2K (b:AF) (AN:List Az) (AX:List CG) (v11:Int) (v6':AD) (types:(List AL)):Blk:=.cells (A6 b [.own 100000 6 AN.length,.own 100001 8 (AX++(Qr v11 b v6' types)).length,vN,vN,vN,vN,vN,vN,vN]) 40
def Z2L (b:AF) (AN:List Az) (AX:List CG):Blk:=.cells (A6 b (Eh AN AX [.own 100002 8 ([]:List Bk).length,vN,vN,vN,vN,vN,vN])) 40
abbrev R5 (b:AF) (AN:List Az) (AX:List CG) (Am:List Bk):List Cl:=(A6 b (Eh AN AX [.own 100002 8 Am.length,vN,vN,vN,vN,vN,vN]))
def Z2M (b:AF) (AN:List Az) (AX:List CG) (Am:List Bk):Blk:=.cells (R5 b AN AX Am) 40
def Z2N (b:AF) (AN:List Az) (AX:List CG) (Am:List Bk) (l:(List (List Int))) (types:(List AL)):Blk:=.cells (A6 b (Eh AN AX [.own 100002 8 Am.length,lst 5 Cs.c (Z1B l b types),vN,vN,vN,vN,vN])) 40
def Z2O (v12:Int) (b:AF) (v6'':AD):Blk:=.cells (LY v12 b v6'' [.own 100003 4 ((Ls v6'')++(Qo v6'')).length]) 92
def Z2P (v12:Int) (b:AF) (v6'':AD):Blk:=.cells (LY v12 b v6'' [.own 100003 4 ((Ls v6'').length)]) 92
def Z2Q (b:AF) (AN:List Az) (AX:List CG) (Am:List Bk) (v12:Int) (v6'':AD):Blk:=.cells (A6 b (Eh AN AX [.own 100002 8 (Am++(Qt v12 b v6'')).length,vN,vN,vN,vN,vN,vN])) 40
def B4 (b:AF) (types:(List AL)) (l:(List (List Int))) (AN:List Az) (v6:AD) (v7:ByteArray) (v9:Int) (AX:List CG) (v6':AD) (v11:Int) (K0:List Az->AD->ByteArray->Int->AF) (K1:List CG->AD->Int->AF):Nat->List Bk->AD->Int->AF
 | 0,_,_,_=>default
 | n2+1,Am,v6'',v12=>bif decide ((v12:Int)<(AA v6' 3).1) then ((B4 b types l AN v6 v7 v9 AX v6' v11 K0 K1 n2) (Am++[Bk.mk (W64 (31+v12)) (CR (AF.mk b.Layers b.Outline b.Parts b.Nets [] [] [] [] [] [] [] [] []) (AA (Z2n v6'') 5).2).1 (W64 (1+(AA (Z2q b v6'') 2).1)) (W64 (20+(W64 (5*(AA (AA (Z2q b v6'') 2).2 3).1)))) (AA (Z2t b v6'') 2).1 (([0,0,5,9]:List Int).getD (AA (AA (Z2t b v6'') 2).2 4).1.toNat 0) (W64 (4+(AA (Z2w b v6'') 6).1)) (Z2E b v6'')]) (Z2B b v6'') (v12+1)) else (bif decide (((AA (Z1A l b types) 3).1:Int)=0) then (AF.mk b.Layers b.Outline b.Parts b.Nets AN AX Am (Z1B l b types) [Dh.mk 51 (AW.mk 1 [Z1J b types l] (W64 (3+(AA (Z1G b types l) 4).1)))] [] [] [] []) else (AF.mk b.Layers b.Outline b.Parts b.Nets AN AX Am (Z1B l b types) [] [] [] [] []))
def CI (b:AF) (types:(List AL)) (l:(List (List Int))) (AN:List Az) (v6:AD) (v7:ByteArray) (v9:Int) (K0:List Az->AD->ByteArray->Int->AF):Nat->List CG->AD->Int->AF
 | 0,_,_,_=>default
 | n1+1,AX,v6',v11=>bif decide ((v11:Int)<(AA (AD.mk (AU l 5) 0) 3).1) then ((CI b types l AN v6 v7 v9 K0 n1) (AX++[CG.mk (W64 (21+v11)) (CR (AF.mk b.Layers b.Outline b.Parts b.Nets [] [] [] [] [] [] [] [] []) v6').1 (Z2c b types v6') (W64 (6+(AA (Z2b b types v6') 5).1)) (W64 (4+(W64 (2*(AA (AA (Z2b b types v6') 5).2 3).1)))) 1 2]) (Z2f b types v6') (v11+1)) else (B4 b types l AN v6 v7 v9 AX v6' v11 K0 (CI b types l AN v6 v7 v9 K0 n1) (((AA v6' 3).1-0).toNat+1) ([]:List Bk) (AA v6' 3).2 0)
def Bv (b:AF) (types:(List AL)) (l:(List (List Int))):Nat->List Az->AD->ByteArray->Int->AF
 | 0,_,_,_,_=>default
 | n0+1,AN,v6,v7,v9=>bif decide ((v9:Int)<(AA (Z1m b l) 6).1) then ((Bv b types l n0) (AN++[Az.mk (W64 (11+v9)) v7 (W64 (1+(AA v6 2).1)) (AW.mk 1 (CO (Z1W b types v6) (Z1Z b types v6) (Z1Y b types v6)).1 (W64 (3+(AA (AA v6 2).2 4).1)))]) (Z25 b types v6) (CR (AF.mk b.Layers b.Outline b.Parts b.Nets [] [] [] [] [] [] [] [] []) (Z21 b types v6)).1 (v9+1)) else (CI b types l AN v6 v7 v9 (Bv b types l n0) (((AA (AD.mk (AU l 5) 0) 3).1-0).toNat+1) ([]:List CG) (AA (AD.mk (AU l 5) 0) 3).2 0)
def BA (b:AF) (types:(List AL)) (l:(List (List Int))):AF:=Bv b types l (((AA (Z1m b l) 6).1-0).toNat+1) ([]:List Az) (AA (Z1m b l) 6).2 (CR (AF.mk b.Layers b.Outline b.Parts b.Nets [] [] [] [] [] [] [] [] []) (AD.mk (AU l 4) 0)).1 0
abbrev G5 (v6':AD):Nat×Tv:=(8,tI (AA v6' 3).1)
abbrev G4 (b:AF) (l:List (List Int)):Nat×Tv:=(8,tI (AA (Z1m b l) 6).1)
abbrev CC (types:List AL) (l:List (List Int)) (t_:List (Nat×Tv)):List (Nat×Tv):=(0,tP 1000 0)::(Ez types)::(2,Z1j l)::t_
abbrev Nr (types:List AL) (l:List (List Int)) (v6':AD) (v12:Int):List (Nat×Tv):=(CC types l [(6,tP 75 0),(G5 v6'),(12,tI v12),(16,tP 16 0)])
abbrev Qm (types:List AL) (l:List (List Int)) (b:AF):List (Nat×Tv):=(CC types l [(6,tP 22 0),(7,Z1n b l),(G4 b l),(9,tI 0)])
abbrev Qi (types:List AL) (l:List (List Int)):List (Nat×Tv):=(CC types l [(6,tP 75 0),(8,Z1r l),(11,tI 0)])
abbrev Ln (types:List AL):List (Nat×Tv):=[(0,tP 1000 0),(Ez types),(6,tP 189 0)]
abbrev X9 (v6'':AD):List Cl:=[.i (AA v6'' 12).1,.i (Gn v6'').1,.i (W64 ((W64 ((AA v6'' 12).1+1))+(AA (Gn v6'').2 6).1)),.i (W64 ((W64 ((Gn v6'').1+1))+(MJ v6'').1))]
abbrev Tt (b:AF) (types:List AL) (l:List (List Int)):List Cl:=[.i 51,.i 1,.list true 7 1 (A8 7 1 (AE.c (Z1J b types l))),.i (W64 (3+(AA (Z1G b types l) 4).1))]
abbrev Qb (types:List AL) (l:List (List Int)) (v6':AD):List (Nat×Tv):=(CC types l [(6,tP 75 0),(G5 v6'),(12,tI 0)])
abbrev Nj (v6':AD):Nat×Blk:=(75,.cells (AD.c (AA v6' 3).2) 146)
abbrev Tj (v12:Int) (b:AF) (v6'':AD) (t_:List Cl):List Cl:=(.i (W64 (31+v12)))::(.s (CR (LT b) (MJ v6'').2).1)::(.i (W64 (1+(Lr b v6'').1)))::(.i (W64 (20+(W64 (5*(Nu b v6'').1)))))::(.i (Lq b v6'').1)::(.i (([0,0,5,9]:List Int).getD (Nt b v6'').1.toNat 0))::(.i (W64 (4+(AA (Z2w b v6'') 6).1)))::t_
abbrev NN (v6':AD) (v12:Int) (v6'':AD) (t_:List (Nat×Tv)):List (Nat×Tv):=(6,tP 75 0)::(G5 v6')::(12,tI v12)::(13,tI (AA v6'' 12).1)::(14,tI (Gn v6'').1)::t_
theorem au4 {p:Prop} (h:p:=by repeat (first | with_reducible assumption | exact CX (DH hll _) | with_reducible refine BI ?_ | with_reducible refine EU ?_ | with_reducible refine DY ?_ | with_reducible refine C5 ?_  | with_reducible refine Ce ?_ ?_)):p:=h
set_option maxHeartbeats 2000000 in
theorem UJ  (b:AF) (types:(List AL)) (l:(List (List Int))) (hb:(b.Parts.length:Int)<=1000000) (ht:(types.length:Int)<=1000000) (hg:NE b types) (hn:1<=(b.Nets.length:Int)/\(b.Nets.length:Int)<=1000000) (hl:(l.length:Int)<=9223372036854775807) (hll:∀ x∈l,(x.length:Int)<=9223372036854775807):Wr Tryz.prog 50 1000 [.one (.ptr 1000 0),.one (lst 3 AL.c types),.one (lst 1 (fun x=>[lst 1 (fun x=>[.i x]) x]) l)] (.cells [.i b.Layers,.i b.Outline.Kind,lst 7 AE.c b.Outline.Edges,.i b.Outline.R,lst 7 AG.c b.Parts,lst 2 BO.c b.Nets,vN,vN,vN,vN,vN,vN,vN,vN,vN] 40) (.tup []) (.cells [.i (BA b types l).Layers,.i (BA b types l).Outline.Kind,lst 7 AE.c (BA b types l).Outline.Edges,.i (BA b types l).Outline.R,lst 7 AG.c (BA b types l).Parts,lst 2 BO.c (BA b types l).Nets,lst 6 Az.c (BA b types l).Tracks,lst 8 CG.c (BA b types l).Vias,lst 8 Bk.c (BA b types l).Pours,lst 5 Cs.c (BA b types l).Keeps,lst 4 Dh.c (BA b types l).Slots,vN,vN,vN,vN] 40):=by
 refine HI Tryz.func50 rfl kr kr kr kr fun W0 M0 X hX => ?_
 refine AC<|rs 20 (Du l 4) ⟨(CC types l [(6,tP 22 0)]),[(22,.cells [lst 1 (fun x=>[.i x]) (AU l 4),.i 0] 146),(1000,Z1k b)]⟩ (FY l 4 au6)<|AH<|AC ?_
 refine rc [(25,(Z1l b l))] [Ap (Z1l b l).2.1,Blk.cells (Xj b) 40=Blk.cells (PK [6,7,8,9,10,11,12,13,14] 0 (Xj b) (R6 b)) 40,Bo (.cells [lst 1 (fun x=>[.i x]) (AU l 4),.i 0] 146)] ⟨(CC types l [(6,tP 22 0),(7,Z1n b l)]),[(22,.cells (AD.c (Z1m b l)) 146),(1000,Z1k b)]⟩ (.cons (IA (B0:=fun vs=>(A6 b [.val (vs 6),.val (vs 7),.val (vs 8),.val (vs 9),.val (vs 10),.val (vs 11),.val (vs 12),.val (vs 13),.val (vs 14)])) (fun _ _=>kr) kr rfl rfl kr (fun vs=>by kernel_rfl) (fun vs=>by kernel_rfl) (fun vs=>Q2 (AF.mk b.Layers b.Outline b.Parts b.Nets [] [] [] [] [] [] [] [] []) (AD.mk (AU l 4) 0) vs au4 (by omega))) .nil) (.cons rfl (.cons rfl (.cons rfl .nil)))<|AH<|AC ?_
 refine rb 27 (Z1o b l) (.cells (AD.c (Z1m b l)) 146) ⟨(CC types l [(6,tP 22 0),(7,Z1n b l),(G4 b l)]),[(22,Z1p b l),(1000,Z1k b)]⟩ (Ag (fun _ _=>kr) kr kr (BJ (Z1m b l) 6 au4 au7))<|AH ?_
 refine AC<|AC ?_
 refine rn ⟨(Qm types l b),[(22,Z1p b l),(1000,Z1k b)]⟩<|Af ?_
 refine Bq (Cv.trans (wg (⟨(Qm types l b),[(100000,.row 6 0 (fun _ _=>default) 87),(22,Z1p b l),(1000,.cells (A6 b [.own 100000 6 0,vN,vN,vN,vN,vN,vN,vN,vN]) 40)]⟩) 100000 6 (fun _ _=>default) 87 [] [(1000,[6])] (K:=[1000]) hX) (Cv.trans (BS (⟨(Qm types l b),[(100000,Z1O),(22,Z1p b l),(1000,Z1P b)]⟩) lr (.cons ⟨rfl,Aw 87 (C3 6 (fun _ _=>default) Az.c)⟩ (.cons ⟨rfl,.refl _⟩ (.cons ⟨rfl,.cells _ (rr (rr (rr (rr (rr (rr (.cons (.own _ _ au2) (rr (rr (rr (rr (rr (rr (rr (rr .nil)))))))))))))))⟩ .nil)))) (Cv.trans (ck (⟨(Qm types l b),[(22,Z1p b l),(1000,Z1P b),(100000,Z1O)]⟩)) (Cv.refl _)))) ?_
 refine BL (ι:=Nat×List Az×AD×ByteArray×Int) (fun x=>⟨(CC types l [(6,tP 22 0),(7,tO (.s x.2.2.2.1)),(G4 b l),(9,tI x.2.2.2.2)]),[(22,.cells (AD.c x.2.2.1) 146),(1000,.cells (A6 b [.own 100000 6 x.2.1.length,vN,vN,vN,vN,vN,vN,vN,vN]) 40),(100000,.row 6 x.2.1.length (Ak Az.c x.2.1) 87)]⟩) (fun x=>((AA (Z1m b l) 6).1-x.2.2.2.2).toNat<x.1/\(Ba x.2.2.1/\0<=x.2.2.2.2/\(x.2.2.2.2<=(AA (Z1m b l) 6).1\/x.2.2.2.2=0)/\(x.2.1.length:Int)<=0+1*(x.2.2.2.2-0))/\Bv b types l x.1 x.2.1 x.2.2.1 x.2.2.2.1 x.2.2.2.2=BA b types l) (fun x=>x.1) ?_ (((AA (Z1m b l) 6).1-0).toNat+1,([]:List Az),(AA (Z1m b l) 6).2,(CR (AF.mk b.Layers b.Outline b.Parts b.Nets [] [] [] [] [] [] [] [] []) (AD.mk (AU l 4) 0)).1,0) ⟨Nat.lt_succ_self _,⟨(by show Ba ((AA (Z1m b l) 6).2);repeat (first | with_reducible assumption | exact CX (DH hll _) | with_reducible refine BI ?_ | with_reducible refine EU ?_ | with_reducible refine DY ?_ | with_reducible refine C5 ?_  | with_reducible refine Ce ?_ ?_)),ax0,ax0,ax0⟩,(by simp only [BA,cond_true,cond_false])⟩
 rintro ⟨n0,AN,v6,v7,v9⟩ ⟨hn,hinv,hF⟩
 have hm0:=hn;have hinv0:=hinv;have hF0:=hF;try dsimp only at hm0 hinv0 hF0
 clear hn hinv hF
 cases n0 with
 | zero=>exact absurd hm0 (Nat.not_lt_zero _)
 | succ n0 =>
  have hi0_0:=hinv0.1
  refine AC<|AC ?_
  refine rn ⟨(CC types l [(6,tP 22 0),(7,tO (.s v7)),(G4 b l),(9,tI v9),(30,tB (decide ((v9:Int)<(AA (Z1m b l) 6).1)))]),[(22,.cells (AD.c v6) 146),(1000,Z1Q b AN),(100000,Z1R AN)]⟩ ?_
  refine AY _ rfl (fun h1 => ?_) (fun h1 => ?_)
  ·have g1:=oT h1
   have k1:=RR g1 (by decide) (by decide)
   refine Ae<|AH ?_
   refine AC<|Af<|AC ?_
   refine rb 37 (Z1S v6) (.cells (AD.c v6) 146) ⟨(CC types l [(6,tP 22 0),(G4 b l),(9,tI v9),(10,tP 10 0)]),[(10,.cells [.i (W64 (11+v9)),.s v7,.i (W64 (1+(AA v6 2).1)),.i 0,vN,.i 0] 87),(22,.cells (AD.c (AA v6 2).2) 146),(1000,Z1Q b AN),(100000,Z1R AN)]⟩ (Ag (fun _ _=>kr) kr kr (BJ v6 2 au4 au7))<|AH<|AC ?_
   refine dw [] [(41,(Z1T v6)),(48,ceI [.agg (R2 b AN),.one (Gp types),.one (.ptr 22 0)] (Z1U b types v6)),(54,ceI [.agg (R2 b AN),.one (Gp types),.one (.ptr 22 0)] (Z1X b types v6)),(56,(Z20 b types v6))] [Ap (Z1T v6).2.1,Bo (.cells (AD.c (AA v6 2).2) 146),Ap (ceI [.agg (R2 b AN),.one (lst 3 AL.c types),.one (.ptr 22 0)] (Z1U b types v6)).2.1,Bo (.cells (AD.c (AA (AA v6 2).2 4).2) 146),Ap (ceI [.agg (R2 b AN),.one (lst 3 AL.c types),.one (.ptr 22 0)] (Z1X b types v6)).2.1,Bo (.cells (AD.c (Z1V b types v6)) 146),Ap (Z20 b types v6).2.1,Bo (.cells (AD.c (Z1Y b types v6)) 146)] ⟨(CC types l [(6,tP 22 0),(G4 b l),(9,tI v9),(10,tP 10 0)]),[(10,.cells [.i (W64 (11+v9)),.s v7,.i (W64 (1+(AA v6 2).1)),.i 1,lst 7 AE.c (VK b types v6).1,.i (W64 (3+(Hh v6).1))] 87),(22,.cells (AD.c (Z21 b types v6)) 146),(1000,Z1Q b AN),(100000,Z1R AN)]⟩ (.cons (Ag (fun _ _=>kr) kr kr (BJ (AA v6 2).2 4 au4 au7)) (.cons (C1 (Ag (fun _ _=>kr) kr kr (Kr (AF.mk b.Layers b.Outline b.Parts [] [] [] [] [] [] [] [] [] []) types (AA (AA v6 2).2 4).2 au4 (by omega) (by omega) (by assumption))) (.cons (.agg (rr (rr (rr (rr (rr (.cons (.any _) (.cons (.any _) (.cons (.any _) (.cons (.any _) (.cons (.any _) (.cons (.any _) (.cons (.any _) (.cons (.any _) (.cons (.any _) (.cons (.any _) .nil)))))))))))))))) (.cons (AvE.refl _) (.cons (AvE.refl _) .nil)))) (.cons (C1 (Ag (fun _ _=>kr) kr kr (Kr (AF.mk b.Layers b.Outline b.Parts [] [] [] [] [] [] [] [] [] []) types (Z1V b types v6) au4 (by omega) (by omega) (by assumption))) (.cons (.agg (rr (rr (rr (rr (rr (.cons (.any _) (.cons (.any _) (.cons (.any _) (.cons (.any _) (.cons (.any _) (.cons (.any _) (.cons (.any _) (.cons (.any _) (.cons (.any _) (.cons (.any _) .nil)))))))))))))))) (.cons (AvE.refl _) (.cons (AvE.refl _) .nil)))) (.cons (Ag (fun _ _=>kr) kr kr (Yj (Z1W b types v6) (Z1Z b types v6) (Z1Y b types v6) au4)) .nil)))) (.cons rfl (.cons rfl (.cons rfl (.cons rfl (.cons rfl (.cons rfl (.cons rfl (.cons rfl .nil))))))))<|AH<|AC ?_
   refine dw [] [] [AN.length=AN.length,AN.length+1<=maxLen,(AN.length+1)*72<=140737488355328] ⟨(CC types l [(6,tP 22 0),(G4 b l),(9,tI v9)]),[(22,.cells (AD.c (Z21 b types v6)) 146),(66,.row 6 (AN.length+1) (fun i_ j_=>if i_<AN.length then (Ak Az.c AN) i_ j_ else (A8 6 1 [.i (W64 (11+v9)),.s v7,.i (W64 (1+(AA v6 2).1)),.i 1,lst 7 AE.c (VK b types v6).1,.i (W64 (3+(Hh v6).1))]) (i_-AN.length) j_) 87),(1000,.cells (A6 b [.own 66 6 (AN.length+1),vN,vN,vN,vN,vN,vN,vN,vN]) 40)]⟩ .nil (.cons rfl (.cons au3 (.cons au3 .nil)))<|AH ?_
   refine Bq (Cv.trans (BS (⟨(CC types l [(6,tP 22 0),(G4 b l),(9,tI v9)]),[(22,.cells (AD.c (Z21 b types v6)) 146),(66,Z22 AN v9 v7 v6 b types),(1000,Z23 b AN v9 v7 v6 types)]⟩) lr (.cons ⟨rfl,.refl _⟩ (.cons ⟨rfl,Aw 87 (Bi (BR 6 Az.c AN) (A3 (c:=Az.c) (xs:=([Az.mk (W64 (11+v9)) v7 (W64 (1+(AA v6 2).1)) (AW.mk 1 (CO (Z1W b types v6) (Z1Z b types v6) (Z1Y b types v6)).1 (W64 (3+(AA (AA v6 2).2 4).1)))]:List Az)) rfl kr))⟩ (.cons ⟨rfl,.cells _ (rr (rr (rr (rr (rr (rr (.cons (.own _ _ au2) (rr (rr (rr (rr (rr (rr (rr (rr .nil)))))))))))))))⟩ .nil)))) (Cv.refl _)) ?_
   refine rc [(71,(Z24 b types v6))] [Ap (Z24 b types v6).2.1,Blk.cells (Xq b AN v9 v7 v6 types) 40=Blk.cells (PK [6,7,8,9,10,11,12,13,14] 0 (Xq b AN v9 v7 v6 types) (R6 b)) 40,Bo (.cells (AD.c (Z21 b types v6)) 146)] ⟨(CC types l [(6,tP 22 0),(7,Z26 b types v6),(G4 b l),(9,tI v9)]),[(22,Z27 b types v6),(66,Z22 AN v9 v7 v6 b types),(1000,Z23 b AN v9 v7 v6 types)]⟩ (.cons (IA (B0:=fun vs=>(A6 b [.val (vs 6),.val (vs 7),.val (vs 8),.val (vs 9),.val (vs 10),.val (vs 11),.val (vs 12),.val (vs 13),.val (vs 14)])) (fun _ _=>kr) kr rfl rfl kr (fun vs=>by kernel_rfl) (fun vs=>by kernel_rfl) (fun vs=>Q2 (AF.mk b.Layers b.Outline b.Parts b.Nets [] [] [] [] [] [] [] [] []) (Z21 b types v6) vs au4 (by omega))) .nil) (.cons rfl (.cons rfl (.cons rfl .nil)))<|BZ<|AH ?_
   refine rg ⟨(CC types l [(6,tP 22 0),(7,Z26 b types v6),(G4 b l),(9,tI (W64 (v9+1)))]),[(22,Z27 b types v6),(66,Z22 AN v9 v7 v6 b types),(1000,Z23 b AN v9 v7 v6 types)]⟩ ?_
   (try rw [(show W64 (v9+1)=v9+1 from Al (by omega) au9)])
   refine AH ?_
   refine ⟨(n0,AN++[Az.mk (W64 (11+v9)) v7 (W64 (1+(AA v6 2).1)) (AW.mk 1 (CO (Z1W b types v6) (Z1Z b types v6) (Z1Y b types v6)).1 (W64 (3+(AA (AA v6 2).2 4).1)))],Z25 b types v6,(CR (AF.mk b.Layers b.Outline b.Parts b.Nets [] [] [] [] [] [] [] [] []) (Z21 b types v6)).1,v9+1),⟨?_,?_,(by rw [<- hF0];simp only [Bv,h1,cond_true,cond_false])⟩,Nat.lt_succ_self _,Cv.trans (vr 66 100000 (K:=[1000]) hX) (Cv.trans (vk [0,1,2,6,7,8,9] [22,1000,100000]) (A4 kr))⟩
   ·show ((AA (Z1m b l) 6).1-(v9+1)).toNat<n0;omega
   ·exact ⟨(by show Ba (Z25 b types v6);repeat (first | with_reducible assumption | exact CX (DH hll _) | with_reducible refine BI ?_ | with_reducible refine EU ?_ | with_reducible refine DY ?_ | with_reducible refine C5 ?_  | with_reducible refine Ce ?_ ?_)),ax0,ax0,ax0⟩
  ·have g1:=oF h1
   refine BP<|BE ?_
   refine BE<|BQ ?_
   refine AH<|AC ?_
   refine rs 73 (Du l 5) ⟨(CC types l [(6,tP 75 0)]),[(75,.cells [lst 1 (fun x=>[.i x]) (AU l 5),.i 0] 146),(1000,Z1Q b AN),(100000,Z1R AN)]⟩ (FY l 5 au6)<|AH<|AC ?_
   refine rb 77 (Z1q l) (.cells [lst 1 (fun x=>[.i x]) (AU l 5),.i 0] 146) ⟨(CC types l [(6,tP 75 0),(8,Z1r l)]),[(75,Z1s l),(1000,Z1Q b AN),(100000,Z1R AN)]⟩ (Ag (fun _ _=>kr) kr kr (BJ (AD.mk (AU l 5) 0) 3 au4 au7))<|AH ?_
   refine AC<|AC ?_
   refine rn ⟨(Qi types l),[(75,Z1s l),(1000,Z1Q b AN),(100000,Z1R AN)]⟩<|Af ?_
   refine Bq (Cv.trans (wg (⟨(Qi types l),[(100001,.row 8 0 (fun _ _=>default) 89),(75,Z1s l),(1000,.cells (A6 b [.own 100000 6 AN.length,.own 100001 8 0,vN,vN,vN,vN,vN,vN,vN]) 40),(100000,Z1R AN)]⟩) 100001 8 (fun _ _=>default) 89 [] [(1000,[7])] (K:=[1000]) hX) (Cv.trans (BS (⟨(Qi types l),[(100001,Z1M),(75,Z1s l),(1000,Z2H b AN),(100000,Z1R AN)]⟩) lr (.cons ⟨rfl,Aw 89 (C3 8 (fun _ _=>default) CG.c)⟩ (.cons ⟨rfl,.refl _⟩ (.cons ⟨rfl,.cells _ (rr (rr (rr (rr (rr (rr (rr (.cons (.own _ _ au2) (rr (rr (rr (rr (rr (rr (rr .nil)))))))))))))))⟩ lr)))) (Cv.trans (ck (⟨(Qi types l),[(75,Z1s l),(1000,Z2H b AN),(100000,Z1R AN),(100001,Z1M)]⟩)) (Cv.refl _)))) ?_
   refine BL (ι:=Nat×List CG×AD×Int) (fun x=>⟨(CC types l [(6,tP 75 0),(8,Z1r l),(11,tI x.2.2.2)]),[(75,.cells (AD.c x.2.2.1) 146),(1000,.cells (A6 b [.own 100000 6 AN.length,.own 100001 8 x.2.1.length,vN,vN,vN,vN,vN,vN,vN]) 40),(100000,Z1R AN),(100001,.row 8 x.2.1.length (Ak CG.c x.2.1) 89)]⟩) (fun x=>((AA (AD.mk (AU l 5) 0) 3).1-x.2.2.2).toNat<x.1/\(Ba x.2.2.1/\0<=x.2.2.2/\(x.2.2.2<=(AA (AD.mk (AU l 5) 0) 3).1\/x.2.2.2=0)/\(x.2.1.length:Int)<=0+1*(x.2.2.2-0))/\CI b types l AN v6 v7 v9 (Bv b types l n0) x.1 x.2.1 x.2.2.1 x.2.2.2=BA b types l) (fun x=>x.1) ?_ (((AA (AD.mk (AU l 5) 0) 3).1-0).toNat+1,([]:List CG),(AA (AD.mk (AU l 5) 0) 3).2,0) ⟨Nat.lt_succ_self _,⟨(by show Ba ((AA (AD.mk (AU l 5) 0) 3).2);repeat (first | with_reducible assumption | exact CX (DH hll _) | with_reducible refine BI ?_ | with_reducible refine EU ?_ | with_reducible refine DY ?_ | with_reducible refine C5 ?_  | with_reducible refine Ce ?_ ?_)),ax0,ax0,ax0⟩,(by rw [<- hF0];simp only [Bv,h1,cond_true,cond_false])⟩
   rintro ⟨n1,AX,v6',v11⟩ ⟨hn,hinv,hF⟩
   have hm1:=hn;have hinv1:=hinv;have hF1:=hF;try dsimp only at hm1 hinv1 hF1
   clear hn hinv hF
   cases n1 with
   | zero=>exact absurd hm1 (Nat.not_lt_zero _)
   | succ n1 =>
    have hi1_0:=hinv1.1
    refine AC<|AC ?_
    refine rn ⟨(CC types l [(6,tP 75 0),(8,Z1r l),(11,tI v11),(80,tB (decide ((v11:Int)<(AA (AD.mk (AU l 5) 0) 3).1)))]),[(75,.cells (AD.c v6') 146),(1000,Z2I b AN AX),(100000,Z1R AN),(100001,Z1N AX)]⟩ ?_
    refine AY _ rfl (fun h2 => ?_) (fun h2 => ?_)
    ·have g2:=oT h2
     have k2:=RR g2 (by decide) (by decide)
     refine Ae<|AH ?_
     refine AC<|Af ?_
     refine dw [] [(92,(Z28 b v6')),(98,ceI [.agg (R3 b AN AX),.one (Gp types),.one (.ptr 75 0)] (Z2a b types v6')),(100,(Z2d b types v6')),(103,(Z2e b types v6'))] [Ap (Z28 b v6').2.1,Blk.cells (R3 b AN AX) 40=Blk.cells (PK [6,7,8,9,10,11,12,13,14] 0 (R3 b AN AX) (R6 b)) 40,Bo (.cells (AD.c v6') 146),Ap (ceI [.agg (R3 b AN AX),.one (lst 3 AL.c types),.one (.ptr 75 0)] (Z2a b types v6')).2.1,Bo (.cells (AD.c (Z29 b v6')) 146),Ap (Z2d b types v6').2.1,Bo (.cells (AD.c (Z2b b types v6')) 146),Ap (Z2e b types v6').2.1,Bo (.cells (AD.c (AA (Z2b b types v6') 5).2) 146),AX.length=AX.length,AX.length+1<=maxLen,(AX.length+1)*72<=140737488355328] ⟨(CC types l [(6,tP 75 0),(8,Z1r l),(11,tI v11)]),[(75,Z2g b types v6'),(108,.row 8 (AX.length+1) (fun i_ j_=>if i_<AX.length then (Ak CG.c AX) i_ j_ else (A8 8 1 [.i (W64 (21+v11)),.s (CR (LT b) v6').1,.i (Z2c b types v6').X,.i (Z2c b types v6').Y,.i (W64 (6+(AA (Z2b b types v6') 5).1)),.i (W64 (4+(W64 (2*(AA (AA (Z2b b types v6') 5).2 3).1)))),.i 1,.i 2]) (i_-AX.length) j_) 89),(1000,.cells (A6 b [.own 100000 6 AN.length,.own 108 8 (AX.length+1),vN,vN,vN,vN,vN,vN,vN]) 40),(100000,Z1R AN)]⟩ (.cons (IA (B0:=fun vs=>(A6 b [.val (vs 6),.val (vs 7),.val (vs 8),.val (vs 9),.val (vs 10),.val (vs 11),.val (vs 12),.val (vs 13),.val (vs 14)])) (fun _ _=>kr) kr rfl rfl kr (fun vs=>by kernel_rfl) (fun vs=>by kernel_rfl) (fun vs=>Q2 (AF.mk b.Layers b.Outline b.Parts b.Nets [] [] [] [] [] [] [] [] []) v6' vs au4 (by omega))) (.cons (C1 (Ag (fun _ _=>kr) kr kr (Kr (AF.mk b.Layers b.Outline b.Parts [] [] [] [] [] [] [] [] [] []) types (Z29 b v6') au4 (by omega) (by omega) (by assumption))) (.cons (.agg (rr (rr (rr (rr (rr (.cons (.any _) (.cons (.any _) (.cons (.any _) (.cons (.any _) (.cons (.any _) (.cons (.any _) (.cons (.any _) (.cons (.any _) (.cons (.any _) (.cons (.any _) .nil)))))))))))))))) (.cons (AvE.refl _) (.cons (AvE.refl _) .nil)))) (.cons (Ag (fun _ _=>kr) kr kr (BJ (Z2b b types v6') 5 au4 au7)) (.cons (Ag (fun _ _=>kr) kr kr (BJ (AA (Z2b b types v6') 5).2 3 au4 au7)) .nil)))) (.cons rfl (.cons rfl (.cons rfl (.cons rfl (.cons rfl (.cons rfl (.cons rfl (.cons rfl (.cons rfl (.cons rfl (.cons au3 (.cons au3 .nil))))))))))))<|BZ<|AH ?_
     refine Bq (Cv.trans (BS (⟨(CC types l [(6,tP 75 0),(8,Z1r l),(11,tI v11)]),[(75,Z2g b types v6'),(108,Z2h AX v11 b v6' types),(1000,Z2i b AN AX v11 v6' types),(100000,Z1R AN)]⟩) lr (.cons ⟨rfl,.refl _⟩ (.cons ⟨rfl,Aw 89 (Bi (BR 8 CG.c AX) (A3 (c:=CG.c) (xs:=([CG.mk (W64 (21+v11)) (CR (AF.mk b.Layers b.Outline b.Parts b.Nets [] [] [] [] [] [] [] [] []) v6').1 (Z2c b types v6') (W64 (6+(AA (Z2b b types v6') 5).1)) (W64 (4+(W64 (2*(AA (AA (Z2b b types v6') 5).2 3).1)))) 1 2]:List CG)) rfl kr))⟩ (.cons ⟨rfl,.cells _ (rr (rr (rr (rr (rr (rr (rr (.cons (.own _ _ au2) (rr (rr (rr (rr (rr (rr (rr .nil)))))))))))))))⟩ lr)))) (Cv.refl _)) ?_
     refine rg ⟨(CC types l [(6,tP 75 0),(8,Z1r l),(11,tI (W64 (v11+1)))]),[(75,Z2g b types v6'),(108,Z2h AX v11 b v6' types),(1000,Z2i b AN AX v11 v6' types),(100000,Z1R AN)]⟩ ?_
     (try rw [(show W64 (v11+1)=v11+1 from Al (by omega) au9)])
     refine AH ?_
     refine ⟨(n1,AX++[CG.mk (W64 (21+v11)) (CR (AF.mk b.Layers b.Outline b.Parts b.Nets [] [] [] [] [] [] [] [] []) v6').1 (Z2c b types v6') (W64 (6+(AA (Z2b b types v6') 5).1)) (W64 (4+(W64 (2*(AA (AA (Z2b b types v6') 5).2 3).1)))) 1 2],Z2f b types v6',v11+1),⟨?_,?_,(by rw [<- hF1];simp only [CI,h2,cond_true,cond_false])⟩,Nat.lt_succ_self _,Cv.trans (vr 108 100001 (K:=[1000]) hX) (Cv.trans (vk [0,1,2,6,8,11] [75,1000,100000,100001]) (A4 kr))⟩
     ·show ((AA (AD.mk (AU l 5) 0) 3).1-(v11+1)).toNat<n1;omega
     ·exact ⟨(by show Ba (Z2f b types v6');repeat (first | with_reducible assumption | exact CX (DH hll _) | with_reducible refine BI ?_ | with_reducible refine EU ?_ | with_reducible refine DY ?_ | with_reducible refine C5 ?_  | with_reducible refine Ce ?_ ?_)),ax0,ax0,ax0⟩
    ·have g2:=oF h2
     refine BP<|BE ?_
     refine BE<|BQ ?_
     refine AH<|AC ?_
     refine rb 112 (Z2j v6') (.cells (AD.c v6') 146) ⟨(CC types l [(6,tP 75 0),(G5 v6')]),[(Nj v6'),(1000,Z2I b AN AX),(100000,Z1R AN),(100001,Z1N AX)]⟩ (Ag (fun _ _=>kr) kr kr (BJ v6' 3 au4 au7))<|AH ?_
     refine AC<|AC ?_
     refine rn ⟨(Qb types l v6'),[(Nj v6'),(1000,Z2I b AN AX),(100000,Z1R AN),(100001,Z1N AX)]⟩<|Af ?_
     refine Bq (Cv.trans (wg (⟨(Qb types l v6'),[(100002,.row 8 0 (fun _ _=>default) 92),(Nj v6'),(1000,.cells (A6 b (Eh AN AX [.own 100002 8 0,vN,vN,vN,vN,vN,vN])) 40),(100000,Z1R AN),(100001,Z1N AX)]⟩) 100002 8 (fun _ _=>default) 92 [] [(1000,[8])] (K:=[1000]) hX) (Cv.trans (BS (⟨(Qb types l v6'),[(100002,Z1K),(Nj v6'),(1000,Z2L b AN AX),(100000,Z1R AN),(100001,Z1N AX)]⟩) lr (.cons ⟨rfl,Aw 92 (C3 8 (fun _ _=>default) Bk.c)⟩ (.cons ⟨rfl,.refl _⟩ (.cons ⟨rfl,.cells _ (rr (rr (rr (rr (rr (rr (rr (rr (.cons (.own _ _ au2) (rr (rr (rr (rr (rr (rr .nil)))))))))))))))⟩ lr)))) (Cv.trans (ck (⟨(Qb types l v6'),[(Nj v6'),(1000,Z2L b AN AX),(100000,Z1R AN),(100001,Z1N AX),(100002,Z1K)]⟩)) (Cv.refl _)))) ?_
     refine BL (ι:=Nat×List Bk×AD×Int) (fun x=>⟨(CC types l [(6,tP 75 0),(G5 v6'),(12,tI x.2.2.2)]),[(75,.cells (AD.c x.2.2.1) 146),(1000,.cells (A6 b (Eh AN AX [.own 100002 8 x.2.1.length,vN,vN,vN,vN,vN,vN])) 40),(100000,Z1R AN),(100001,Z1N AX),(100002,.row 8 x.2.1.length (Ak Bk.c x.2.1) 92)]⟩) (fun x=>((AA v6' 3).1-x.2.2.2).toNat<x.1/\(Ba x.2.2.1/\0<=x.2.2.2/\(x.2.2.2<=(AA v6' 3).1\/x.2.2.2=0)/\(x.2.1.length:Int)<=0+1*(x.2.2.2-0))/\B4 b types l AN v6 v7 v9 AX v6' v11 (Bv b types l n0) (CI b types l AN v6 v7 v9 (Bv b types l n0) n1) x.1 x.2.1 x.2.2.1 x.2.2.2=BA b types l) (fun x=>x.1) ?_ (((AA v6' 3).1-0).toNat+1,([]:List Bk),(AA v6' 3).2,0) ⟨Nat.lt_succ_self _,⟨(by show Ba ((AA v6' 3).2);repeat (first | with_reducible assumption | exact CX (DH hll _) | with_reducible refine BI ?_ | with_reducible refine EU ?_ | with_reducible refine DY ?_ | with_reducible refine C5 ?_  | with_reducible refine Ce ?_ ?_)),ax0,ax0,ax0⟩,(by rw [<- hF1];simp only [CI,h2,cond_true,cond_false])⟩
     rintro ⟨n2,Am,v6'',v12⟩ ⟨hn,hinv,hF⟩
     have hm2:=hn;have hinv2:=hinv;have hF2:=hF;try dsimp only at hm2 hinv2 hF2
     clear hn hinv hF
     cases n2 with
     | zero=>exact absurd hm2 (Nat.not_lt_zero _)
     | succ n2 =>
      have hi2_0:=hinv2.1
      refine AC<|AC ?_
      refine rn ⟨(CC types l [(6,tP 75 0),(G5 v6'),(12,tI v12),(115,tB (decide ((v12:Int)<(AA v6' 3).1)))]),[(75,.cells (AD.c v6'') 146),(1000,Z2M b AN AX Am),(100000,Z1R AN),(100001,Z1N AX),(100002,Z1L Am)]⟩ ?_
      refine AY _ rfl (fun h3 => ?_) (fun h3 => ?_)
      ·have g3:=oT h3
       have k3:=RR g3 (by decide) (by decide)
       refine Ae<|AH ?_
       refine AC<|Af<|AC ?_
       refine rc [(119,(Z2k v6'')),(121,(Z2l v6''))] [Ap (Z2k v6'').2.1,Bo (.cells (AD.c v6'') 146),Ap (Z2l v6'').2.1,Bo (.cells (AD.c (AA v6'' 12).2) 146)] ⟨(CC types l (NN v6' v12 v6'' [])),[(75,.cells (AD.c (Gn v6'').2) 146),(1000,Z2M b AN AX Am),(100000,Z1R AN),(100001,Z1N AX),(100002,Z1L Am)]⟩ (.cons (Ag (fun _ _=>kr) kr kr (BJ v6'' 12 au4 au7)) (.cons (Ag (fun _ _=>kr) kr kr (BJ (AA v6'' 12).2 12 au4 au7)) .nil)) (.cons rfl (.cons rfl (.cons rfl (.cons rfl .nil))))<|AH<|AC ?_
       refine rc [(127,(Z2m v6'')),(132,(Z2o v6''))] [Ap (Z2m v6'').2.1,Bo (.cells (AD.c (AA (AA v6'' 12).2 12).2) 146),Ap (Z2o v6'').2.1,Bo (.cells (AD.c (Z2n v6'')) 146)] ⟨(CC types l (NN v6' v12 v6'' [(15,tP 15 0)])),[(15,.cells (X9 v6'') 74),(75,.cells (AD.c (MJ v6'').2) 146),(1000,Z2M b AN AX Am),(100000,Z1R AN),(100001,Z1N AX),(100002,Z1L Am)]⟩ (.cons (Ag (fun _ _=>kr) kr kr (BJ (AA (AA v6'' 12).2 12).2 6 au4 au7)) (.cons (Ag (fun _ _=>kr) kr kr (BJ (Z2n v6'') 5 au4 au7)) .nil)) (.cons rfl (.cons rfl (.cons rfl (.cons rfl .nil))))<|AH<|AC ?_
       refine dw [158] [(139,(Z2p b v6'')),(141,(Z2r b v6'')),(144,(Z2s b v6'')),(148,(Z2u b v6'')),(151,(Z2v b v6'')),(155,(Z2x b v6''))] [Ap (Z2p b v6'').2.1,Blk.cells (R5 b AN AX Am) 40=Blk.cells (PK [6,7,8,9,10,11,12,13,14] 0 (R5 b AN AX Am) (R6 b)) 40,Bo (.cells (AD.c (AA (Z2n v6'') 5).2) 146),Ap (Z2r b v6'').2.1,Bo (.cells (AD.c (Z2q b v6'')) 146),Ap (Z2s b v6'').2.1,Bo (.cells (AD.c (AA (Z2q b v6'') 2).2) 146),Ap (Z2u b v6'').2.1,Bo (.cells (AD.c (Z2t b v6'')) 146),Ap (Z2v b v6'').2.1,Bo (.cells (AD.c (AA (Z2t b v6'') 2).2) 146),0<=((AA (AA (Z2t b v6'') 2).2 4).1:Int)/\((AA (AA (Z2t b v6'') 2).2 4).1:Int)<((4:Nat):Int),Ap (Z2x b v6'').2.1,Bo (.cells (AD.c (Z2w b v6'')) 146)] ⟨(CC types l (NN v6' v12 v6'' [(16,tP 16 0)])),[(16,.cells (LY v12 b v6'' [.own 158 4 1]) 92),(75,.cells (AD.c (Hj b v6'').2) 146),(158,.row 4 1 (A8 4 1 (X9 v6'')) 74),(1000,Z2M b AN AX Am),(100000,Z1R AN),(100001,Z1N AX),(100002,Z1L Am)]⟩ (.cons (IA (B0:=fun vs=>(A6 b [.val (vs 6),.val (vs 7),.val (vs 8),.val (vs 9),.val (vs 10),.val (vs 11),.val (vs 12),.val (vs 13),.val (vs 14)])) (fun _ _=>kr) kr rfl rfl kr (fun vs=>by kernel_rfl) (fun vs=>by kernel_rfl) (fun vs=>Q2 (AF.mk b.Layers b.Outline b.Parts b.Nets [] [] [] [] [] [] [] [] []) (AA (Z2n v6'') 5).2 vs au4 (by omega))) (.cons (Ag (fun _ _=>kr) kr kr (BJ (Z2q b v6'') 2 au4 au7)) (.cons (Ag (fun _ _=>kr) kr kr (BJ (AA (Z2q b v6'') 2).2 3 au4 au7)) (.cons (Ag (fun _ _=>kr) kr kr (BJ (Z2t b v6'') 2 au4 au7)) (.cons (Ag (fun _ _=>kr) kr kr (BJ (AA (Z2t b v6'') 2).2 4 au4 au7)) (.cons (Ag (fun _ _=>kr) kr kr (BJ (Z2w b v6'') 6 au4 au7)) .nil)))))) (.cons rfl (.cons rfl (.cons rfl (.cons rfl (.cons rfl (.cons rfl (.cons rfl (.cons rfl (.cons rfl (.cons rfl (.cons rfl (.cons (by first | exact JG _ _ _ (by decide) (by decide) (by decide) | decide | omega) (.cons rfl (.cons rfl .nil))))))))))))))<|AH ?_
       refine Bq (Cv.trans (BS (⟨(CC types l (NN v6' v12 v6'' [(16,tP 16 0)])),[(16,Z2y v12 b v6''),(75,.cells (AD.c (Hj b v6'').2) 146),(158,Z2z v6''),(1000,Z2M b AN AX Am),(100000,Z1R AN),(100001,Z1N AX),(100002,Z1L Am)]⟩) lr (.cons ⟨rfl,.cells _ (rr (rr (rr (rr (rr (rr (rr (.cons (.own _ _ au2) .nil))))))))⟩ (.cons ⟨rfl,.refl _⟩ (.cons ⟨rfl,Aw 74 (A3 (c:=An.c) (xs:=([An.mk (AA v6'' 12).1 (AA (AA v6'' 12).2 12).1 (W64 ((W64 ((AA v6'' 12).1+1))+(AA (AA (AA v6'' 12).2 12).2 6).1)) (W64 ((W64 ((AA (AA v6'' 12).2 12).1+1))+(AA (Z2n v6'') 5).1))]:List An)) rfl kr)⟩ lr)))) (Cv.refl _))<|AC<|AC ?_
       refine rb 161 (Z2A b v6'') (.cells (AD.c (AA (Z2w b v6'') 6).2) 146) ⟨(CC types l (NN v6' v12 v6'' [(16,tP 16 0),(162,tB (decide (((AA (Hj b v6'').2 3).1:Int)=0)))])),[(16,Z2y v12 b v6''),(75,Z2C b v6''),(158,Z2z v6''),(1000,Z2M b AN AX Am),(100000,Z1R AN),(100001,Z1N AX),(100002,Z1L Am)]⟩ (Ag (fun _ _=>kr) kr kr (BJ (AA (Z2w b v6'') 6).2 3 au4 au7))<|AH ?_
       refine Bc (⟨[(0,tP 1000 0),(Ez types),(2,.av (oL l)),(6,tP 75 0),(G5 v6'),(12,tI v12),(16,tP 16 0)],[(16,.cells (LY v12 b v6'' [.own 100003 4 (Z2E b v6'').length]) 92),(75,.cells (AD.c (Z2B b v6'')) 146),(1000,.cells (R5 b AN AX Am) 40),(100000,.row 6 AN.length (Ak Az.c AN) 87),(100001,.row 8 AX.length (Ak CG.c AX) 89),(100002,.row 8 Am.length (Ak Bk.c Am) 92),(100003,.row 4 (Z2E b v6'').length (Ak An.c (Z2E b v6'')) 74)]⟩) ?_ ?_
       ·refine AY _ rfl (fun h4 => ?_) (fun h4 => ?_)
        ·have g4:=oT h4
         refine rc [] [[An.mk (AA v6'' 12).1 (AA (AA v6'' 12).2 12).1 (W64 ((W64 ((AA v6'' 12).1+1))+(AA (AA (AA v6'' 12).2 12).2 6).1)) (W64 ((W64 ((AA (AA v6'' 12).2 12).1+1))+(AA (Z2n v6'') 5).1))].length=[An.mk (AA v6'' 12).1 (AA (AA v6'' 12).2 12).1 (W64 ((W64 ((AA v6'' 12).1+1))+(AA (AA (AA v6'' 12).2 12).2 6).1)) (W64 ((W64 ((AA (AA v6'' 12).2 12).1+1))+(AA (Z2n v6'') 5).1))].length,([An.mk (AA v6'' 12).1 (AA (AA v6'' 12).2 12).1 (W64 ((W64 ((AA v6'' 12).1+1))+(AA (AA (AA v6'' 12).2 12).2 6).1)) (W64 ((W64 ((AA (AA v6'' 12).2 12).1+1))+(AA (Z2n v6'') 5).1))].length)+1<=maxLen,(([An.mk (AA v6'' 12).1 (AA (AA v6'' 12).2 12).1 (W64 ((W64 ((AA v6'' 12).1+1))+(AA (AA (AA v6'' 12).2 12).2 6).1)) (W64 ((W64 ((AA (AA v6'' 12).2 12).1+1))+(AA (Z2n v6'') 5).1))].length)+1)*32<=140737488355328] ⟨(Nr types l v6' v12),[(16,.cells (Tj v12 b v6'' [.own 174 4 (((Ls v6'').length)+1)]) 92),(75,Z2C b v6''),(174,.row 4 (((Ls v6'').length)+1) (fun i_ j_=>if i_<((Ls v6'').length) then (Ak An.c (Ls v6'')) i_ j_ else (A8 4 1 [.i (W64 ((AA v6'' 12).1-2)),.i (Gn v6'').1,.i (W64 ((AA v6'' 12).1+1)),.i (W64 ((Gn v6'').1+2))]) (i_-((Ls v6'').length)) j_) 74),(1000,Z2M b AN AX Am),(100000,Z1R AN),(100001,Z1N AX),(100002,Z1L Am)]⟩ .nil (.cons rfl (.cons au3 (.cons au3 .nil)))<|AH ?_
         refine Cv.trans (BS (⟨(Nr types l v6' v12),[(16,.cells (Tj v12 b v6'' [.own 174 4 ((Ls v6'')++(Qo v6'')).length]) 92),(75,Z2C b v6''),(174,Z2D v6''),(1000,Z2M b AN AX Am),(100000,Z1R AN),(100001,Z1N AX),(100002,Z1L Am)]⟩) lr (.cons ⟨rfl,.cells _ (rr (rr (rr (rr (rr (rr (rr (.cons (.own _ _ au2) .nil))))))))⟩ (.cons ⟨rfl,.refl _⟩ (.cons ⟨rfl,Aw 74 (Bi (BR 4 An.c [An.mk (AA v6'' 12).1 (AA (AA v6'' 12).2 12).1 (W64 ((W64 ((AA v6'' 12).1+1))+(AA (AA (AA v6'' 12).2 12).2 6).1)) (W64 ((W64 ((AA (AA v6'' 12).2 12).1+1))+(AA (Z2n v6'') 5).1))]) (A3 (c:=An.c) (xs:=([An.mk (W64 ((AA v6'' 12).1-2)) (AA (AA v6'' 12).2 12).1 (W64 ((AA v6'' 12).1+1)) (W64 ((AA (AA v6'' 12).2 12).1+2))]:List An)) rfl kr))⟩ lr)))) (Cv.trans (vr 174 100003 (K:=[1000]) hX) (Cv.trans (ck (⟨(Nr types l v6' v12),[(16,Z2O v12 b v6''),(75,Z2C b v6''),(1000,Z2M b AN AX Am),(100000,Z1R AN),(100001,Z1N AX),(100002,Z1L Am),(100003,Z2D v6'')]⟩)) (A4 ?_)))
         first | rfl | (simp only [h4,Z2E,cond_true,cond_false] <;> rfl)
        ·have g4:=oF h4
         refine Ae<|AH ?_
         refine Cv.trans (vk [0,1,2,6,8,12,16] [16,75,158,1000,100000,100001,100002]) (Cv.trans (vr 158 100003 (K:=[1000]) hX) (Cv.trans (ck (⟨(Nr types l v6' v12),[(16,Z2P v12 b v6''),(75,Z2C b v6''),(1000,Z2M b AN AX Am),(100000,Z1R AN),(100001,Z1N AX),(100002,Z1L Am),(100003,Z2z v6'')]⟩)) (A4 ?_)))
         first | rfl | (simp only [h4,Z2E,cond_true,cond_false] <;> rfl)
       refine Bq (Cv.trans (wf (⟨(Nr types l v6' v12),[(16,.cells (Tj v12 b v6'' [lst 4 An.c (Z2E b v6'')]) 92),(75,Z2C b v6''),(1000,Z2M b AN AX Am),(100000,Z1R AN),(100001,Z1N AX),(100002,Z1L Am)]⟩) 100003 4 (Z2E b v6'').length (Ak An.c (Z2E b v6'')) 74 (K:=[1000]) hX (.cons ⟨rfl,rfl⟩ .nil)) (Cv.refl _)) ?_
       refine dw [] [] [Am.length=Am.length,Am.length+1<=maxLen,(Am.length+1)*88<=140737488355328] ⟨(CC types l [(6,tP 75 0),(G5 v6'),(12,tI v12)]),[(75,Z2C b v6''),(183,.row 8 (Am.length+1) (fun i_ j_=>if i_<Am.length then (Ak Bk.c Am) i_ j_ else (A8 8 1 (LY v12 b v6'' [lst 4 An.c (Z2E b v6'')])) (i_-Am.length) j_) 92),(1000,.cells (A6 b (Eh AN AX [.own 183 8 (Am.length+1),vN,vN,vN,vN,vN,vN])) 40),(100000,Z1R AN),(100001,Z1N AX)]⟩ .nil (.cons rfl (.cons au3 (.cons au3 .nil)))<|BZ<|AH ?_
       refine Bq (Cv.trans (BS (⟨(CC types l [(6,tP 75 0),(G5 v6'),(12,tI v12)]),[(75,Z2C b v6''),(183,Z2F Am v12 b v6''),(1000,Z2J b AN AX Am v12 v6''),(100000,Z1R AN),(100001,Z1N AX)]⟩) lr (.cons ⟨rfl,.refl _⟩ (.cons ⟨rfl,Aw 92 (Bi (BR 8 Bk.c Am) (A3 (c:=Bk.c) (xs:=([Bk.mk (W64 (31+v12)) (CR (AF.mk b.Layers b.Outline b.Parts b.Nets [] [] [] [] [] [] [] [] []) (AA (Z2n v6'') 5).2).1 (W64 (1+(AA (Z2q b v6'') 2).1)) (W64 (20+(W64 (5*(AA (AA (Z2q b v6'') 2).2 3).1)))) (AA (Z2t b v6'') 2).1 (([0,0,5,9]:List Int).getD (AA (AA (Z2t b v6'') 2).2 4).1.toNat 0) (W64 (4+(AA (Z2w b v6'') 6).1)) (Z2E b v6'')]:List Bk)) rfl kr))⟩ (.cons ⟨rfl,.cells _ (rr (rr (rr (rr (rr (rr (rr (rr (.cons (.own _ _ au2) (rr (rr (rr (rr (rr (rr .nil)))))))))))))))⟩ lr)))) (Cv.refl _)) ?_
       refine rg ⟨(CC types l [(6,tP 75 0),(G5 v6'),(12,tI (W64 (v12+1)))]),[(75,Z2C b v6''),(183,Z2F Am v12 b v6''),(1000,Z2J b AN AX Am v12 v6''),(100000,Z1R AN),(100001,Z1N AX)]⟩ ?_
       (try rw [(show W64 (v12+1)=v12+1 from Al (by omega) au9)])
       refine AH ?_
       refine ⟨(n2,Am++[Bk.mk (W64 (31+v12)) (CR (AF.mk b.Layers b.Outline b.Parts b.Nets [] [] [] [] [] [] [] [] []) (AA (Z2n v6'') 5).2).1 (W64 (1+(AA (Z2q b v6'') 2).1)) (W64 (20+(W64 (5*(AA (AA (Z2q b v6'') 2).2 3).1)))) (AA (Z2t b v6'') 2).1 (([0,0,5,9]:List Int).getD (AA (AA (Z2t b v6'') 2).2 4).1.toNat 0) (W64 (4+(AA (Z2w b v6'') 6).1)) (Z2E b v6'')],Z2B b v6'',v12+1),⟨?_,?_,(by rw [<- hF2];simp only [B4,h3,cond_true,cond_false])⟩,Nat.lt_succ_self _,Cv.trans (vr 183 100002 (K:=[1000]) hX) (Cv.trans (vk [0,1,2,6,8,12] [75,1000,100000,100001,100002]) (A4 kr))⟩
       ·show ((AA v6' 3).1-(v12+1)).toNat<n2;omega
       ·exact ⟨(by show Ba (Z2B b v6'');repeat (first | with_reducible assumption | exact CX (DH hll _) | with_reducible refine BI ?_ | with_reducible refine EU ?_ | with_reducible refine DY ?_ | with_reducible refine C5 ?_  | with_reducible refine Ce ?_ ?_)),ax0,ax0,ax0⟩
      ·have g3:=oF h3
       refine BP<|BE ?_
       refine BE<|BQ ?_
       refine AH<|AC ?_
       refine rs 187 (Du l 6) ⟨(Ln types),[(189,.cells [lst 1 (fun x=>[.i x]) (AU l 6),.i 0] 146),(1000,Z2M b AN AX Am),(100000,Z1R AN),(100001,Z1N AX),(100002,Z1L Am)]⟩ (FY l 6 au6)<|AH ?_
       refine AC<|AC ?_
       refine rb 191 (Z1t l) (.cells [lst 1 (fun x=>[.i x]) (AU l 6),.i 0] 146) ⟨[(0,tP 1000 0),(Ez types),(6,tP 189 0),(192,tB (decide (((J6 l).1:Int)=0)))],[(189,Z1u l),(1000,Z2M b AN AX Am),(100000,Z1R AN),(100001,Z1N AX),(100002,Z1L Am)]⟩ (Ag (fun _ _=>kr) kr kr (BJ (AD.mk (AU l 6) 0) 3 au4 au7))<|AH ?_
       refine Bc (⟨(Ln types),[(189,.cells (AD.c (Z1A l b types)) 146),(1000,.cells (A6 b (Eh AN AX [.own 100002 8 Am.length,lst 5 Cs.c (Z1B l b types),vN,vN,vN,vN,vN])) 40),(100000,.row 6 AN.length (Ak Az.c AN) 87),(100001,.row 8 AX.length (Ak CG.c AX) 89),(100002,.row 8 Am.length (Ak Bk.c Am) 92)]⟩) ?_ ?_
       ·refine AY _ rfl (fun h4 => ?_) (fun h4 => ?_)
        ·have g4:=oT h4
         refine AC<|rb 198 (ceI [.agg (R5 b AN AX Am),.one (lst 3 AL.c types),.one (.ptr 189 0)] (Z1v b types l)) (.cells (AD.c (AA (AD.mk (AU l 6) 0) 3).2) 146) ⟨[(0,tP 1000 0),(Ez types),(6,tP 189 0),(17,tP 17 0)],[(17,.cells (AB.c (Z1x b types l)) 47),(189,.cells (AD.c (Z1w b types l)) 146),(1000,Z2M b AN AX Am),(100000,Z1R AN),(100001,Z1N AX),(100002,Z1L Am)]⟩ (C1 (Ag (fun _ _=>kr) kr kr (Kr (AF.mk b.Layers b.Outline b.Parts [] [] [] [] [] [] [] [] [] []) types (AA (AD.mk (AU l 6) 0) 3).2 au4 (by omega) (by omega) (by assumption))) (.cons (.agg (rr (rr (rr (rr (rr (.cons (.any _) (.cons (.any _) (.cons (.any _) (.cons (.any _) (.cons (.any _) (.cons (.any _) (.cons (.any _) (.cons (.any _) (.cons (.any _) (.cons (.any _) .nil)))))))))))))))) (.cons (AvE.refl _) (.cons (AvE.refl _) .nil))))<|AH ?_
         refine dw [] [(201,(Z1y b types l)),(213,Ga (An.mk (Z1x b types l).X (Z1x b types l).Y (W64 ((Z1x b types l).X+30)) (W64 ((Z1x b types l).Y+20))))] [Ap (Z1y b types l).2.1,Bo (.cells (AD.c (Z1w b types l)) 146),Ap (Ga (An.mk (Z1x b types l).X (Z1x b types l).Y (W64 ((Z1x b types l).X+30)) (W64 ((Z1x b types l).Y+20)))).2.1] ⟨(Ln types),[(189,.cells (AD.c (AA (Z1w b types l) 3).2) 146),(1000,.cells (A6 b (Eh AN AX [.own 100002 8 Am.length,.list true 5 1 (A8 5 1 [.i 41,.i (AA (Z1w b types l) 3).1,.i (Z1z b types l).Kind,lst 7 AE.c (Z1z b types l).Edges,.i (Z1z b types l).R]),vN,vN,vN,vN,vN])) 40),(100000,Z1R AN),(100001,Z1N AX),(100002,Z1L Am)]⟩ (.cons (Ag (fun _ _=>kr) kr kr (BJ (Z1w b types l) 3 au4 au7)) (.cons (M7 (An.mk (Z1x b types l).X (Z1x b types l).Y (W64 ((Z1x b types l).X+30)) (W64 ((Z1x b types l).Y+20)))) .nil)) (.cons rfl (.cons rfl (.cons rfl .nil)))<|AH ?_
         refine Cv.trans (BS (⟨(Ln types),[(189,.cells (AD.c (AA (Z1w b types l) 3).2) 146),(1000,.cells (A6 b (Eh AN AX [.own 100002 8 Am.length,lst 5 Cs.c [Cs.mk 41 (AA (Z1w b types l) 3).1 (Z1z b types l)],vN,vN,vN,vN,vN])) 40),(100000,Z1R AN),(100001,Z1N AX),(100002,Z1L Am)]⟩) lr (.cons ⟨rfl,.refl _⟩ (.cons ⟨rfl,.cells _ (rr (rr (rr (rr (rr (rr (rr (rr (rr (.cons (Bj true (A3 (c:=Cs.c) (xs:=([Cs.mk 41 (AA (Z1w b types l) 3).1 (Z1z b types l)]:List Cs)) rfl kr)) (rr (rr (rr (rr (rr .nil)))))))))))))))⟩ lr))) (A4 ?_)
         first | rfl | (simp only [h4,Z1A,Z1B,cond_true,cond_false] <;> rfl)
        ·have g4:=oF h4
         refine Ae<|AH ?_
         refine Cv.trans (ck (⟨(Ln types),[(189,Z1u l),(1000,Z2M b AN AX Am),(100000,Z1R AN),(100001,Z1N AX),(100002,Z1L Am)]⟩)) (Cv.trans (BS (⟨(Ln types),[(189,Z1u l),(1000,.cells (A6 b (Eh AN AX [.own 100002 8 Am.length,lst 5 Cs.c [],vN,vN,vN,vN,vN])) 40),(100000,Z1R AN),(100001,Z1N AX),(100002,Z1L Am)]⟩) lr (.cons ⟨rfl,.refl _⟩ (.cons ⟨rfl,.cells _ (rr (rr (rr (rr (rr (rr (rr (rr (rr (.cons (CV 5 Cs.c) (rr (rr (rr (rr (rr .nil)))))))))))))))⟩ lr))) (A4 ?_))
         first | rfl | (simp only [h4,Z1A,Z1B,cond_true,cond_false] <;> rfl)
       refine AC<|rb 219 (Z1C l b types) (.cells (AD.c (Z1A l b types)) 146) ⟨[(0,tP 1000 0),(Ez types),(6,tP 189 0),(220,Z1D l b types)],[(189,Z1E l b types),(1000,Z2N b AN AX Am l types),(100000,Z1R AN),(100001,Z1N AX),(100002,Z1L Am)]⟩ (Ag (fun _ _=>kr) kr kr (BJ (Z1A l b types) 3 au4 au7))<|AH ?_
       refine AY _ rfl (fun h4 => ?_) (fun h4 => ?_)
       ·have g4:=oT h4
        refine AC<|rb 226 (ceI [.agg (A6 b (Eh AN AX [.own 100002 8 Am.length,lst 5 Cs.c (Z1B l b types),vN,vN,vN,vN,vN])),.one (lst 3 AL.c types),.one (.ptr 189 0)] (Z1F b types l)) (.cells (AD.c (AA (Z1A l b types) 3).2) 146) ⟨[(0,tP 1000 0),(6,tP 189 0),(18,tP 18 0)],[(18,.cells (AB.c (Z1H b types l)) 47),(189,.cells (AD.c (Z1G b types l)) 146),(1000,Z2N b AN AX Am l types),(100000,Z1R AN),(100001,Z1N AX),(100002,Z1L Am)]⟩ (C1 (Ag (fun _ _=>kr) kr kr (Kr (AF.mk b.Layers b.Outline b.Parts [] [] [] [] [] [] [] [] [] []) types (AA (Z1A l b types) 3).2 au4 (by omega) (by omega) (by assumption))) (.cons (.agg (rr (rr (rr (rr (rr (.cons (.any _) (.cons (.any _) (.cons (.any _) (.cons (.any _) (.cons (.any _) (.cons (.any _) (.cons (.any _) (.cons (.any _) (.cons (.any _) (.cons (.any _) .nil)))))))))))))))) (.cons (AvE.refl _) (.cons (AvE.refl _) .nil))))<|AH ?_
        refine dw [] [(229,(Z1I b types l)),(239,CY (Z1H b types l) (AB.mk (W64 ((Z1H b types l).X+25)) (W64 ((Z1H b types l).Y+10))))] [Ap (Z1I b types l).2.1,Bo (.cells (AD.c (Z1G b types l)) 146),Ap (CY (Z1H b types l) (AB.mk (W64 ((Z1H b types l).X+25)) (W64 ((Z1H b types l).Y+10)))).2.1] ⟨[],[(1000,.cells (A6 b (Eh AN AX [.own 100002 8 Am.length,lst 5 Cs.c (Z1B l b types),.list true 4 1 (A8 4 1 (Tt b types l)),vN,vN,vN,vN])) 40),(100000,Z1R AN),(100001,Z1N AX),(100002,Z1L Am)]⟩ (.cons (Ag (fun _ _=>kr) kr kr (BJ (Z1G b types l) 4 au4 au7)) (.cons (FX (Z1H b types l) (AB.mk (W64 ((Z1H b types l).X+25)) (W64 ((Z1H b types l).Y+10)))) .nil)) (.cons rfl (.cons rfl (.cons rfl .nil))) ?_
        exact ⟨_,Cv.trans (vf 100000 6 AN.length (Ak Az.c AN) 87 (K:=[1000]) hX (.cons ⟨rfl,rfl⟩ .nil)) (Cv.trans (vf 100001 8 AX.length (Ak CG.c AX) 89 (K:=[1000]) hX (.cons ⟨rfl,rfl⟩ .nil)) (Cv.trans (vf 100002 8 Am.length (Ak Bk.c Am) 92 (K:=[1000]) hX (.cons ⟨rfl,rfl⟩ .nil)) (Cv.refl _))),.inr rfl,.tup [],by kernel_rfl,⟨Ad rfl,.cells (A6 b [lst 6 Az.c AN,lst 8 CG.c AX,lst 8 Bk.c Am,lst 5 Cs.c (Z1B l b types),.list true 4 1 (A8 4 1 (Tt b types l)),vN,vN,vN,vN]) 40,by kernel_rfl,Ro (y:=.cells (A6 b [lst 6 Az.c AN,lst 8 CG.c AX,lst 8 Bk.c Am,lst 5 Cs.c (Z1B l b types),lst 4 Dh.c [Dh.mk 51 (AW.mk 1 [Z1J b types l] (W64 (3+(AA (Z1G b types l) 4).1)))],vN,vN,vN,vN]) 40) (.cells _ (rr (rr (rr (rr (rr (rr (rr (rr (rr (rr (.cons (Bj true (Er (c:=Dh.c) (xs:=([Dh.mk 51 (AW.mk 1 [Z1J b types l] (W64 (3+(AA (Z1G b types l) 4).1)))]:List Dh)) (y:=[(Tt b types l)]) (z:=[[.i 51,.i 1,lst 7 AE.c [Z1J b types l],.i (W64 (3+(AA (Z1G b types l) 4).1))]]) rfl kr kr (.cons (rr (rr (.cons (Bj true (A3 (c:=AE.c) (xs:=([Z1J b types l]:List AE)) rfl kr)) (rr .nil)))) .nil))) (rr (rr (rr (rr .nil)))))))))))))))) (by rw [<- hF2];first | (simp only [B4,h3,h4,cond_true,cond_false];done) | (simp only [B4,h3,h4,cond_true,cond_false];kernel_rfl))⟩⟩
       ·have g4:=oF h4
        refine Ae ?_
        exact ⟨_,Cv.trans (vf 100000 6 AN.length (Ak Az.c AN) 87 (K:=[1000]) hX (.cons ⟨rfl,rfl⟩ .nil)) (Cv.trans (vf 100001 8 AX.length (Ak CG.c AX) 89 (K:=[1000]) hX (.cons ⟨rfl,rfl⟩ .nil)) (Cv.trans (vf 100002 8 Am.length (Ak Bk.c Am) 92 (K:=[1000]) hX (.cons ⟨rfl,rfl⟩ .nil)) (Cv.refl _))),.inr rfl,.tup [],by kernel_rfl,⟨Ad rfl,.cells (A6 b [lst 6 Az.c AN,lst 8 CG.c AX,lst 8 Bk.c Am,lst 5 Cs.c (Z1B l b types),vN,vN,vN,vN,vN]) 40,by kernel_rfl,Ro (y:=.cells (A6 b [lst 6 Az.c AN,lst 8 CG.c AX,lst 8 Bk.c Am,lst 5 Cs.c (Z1B l b types),lst 4 Dh.c [],vN,vN,vN,vN]) 40) (.cells _ (rr (rr (rr (rr (rr (rr (rr (rr (rr (rr (.cons (CV 4 Dh.c) (rr (rr (rr (rr .nil)))))))))))))))) (by rw [<- hF2];first | (simp only [B4,h3,h4,cond_true,cond_false];done) | (simp only [B4,h3,h4,cond_true,cond_false];kernel_rfl))⟩⟩
end
section
open Go.RowKit
structure LN (b:AF) (B:AF):Prop where
 lay:B.Layers=b.Layers
 out:B.Outline=b.Outline
 par:B.Parts=b.Parts
 net:B.Nets=b.Nets
 trk:(B.Tracks.length:Int)<=6
 edg:∀ t∈B.Tracks,(t.Shape.Edges.length:Int)<=2
 via:(B.Vias.length:Int)<=3
 pou:(B.Pours.length:Int)<=3
 kee:(B.Keeps.length:Int)<=1
 slo:(B.Slots.length:Int)<=1
theorem dA {b B C:AF} {c:Bool} (h:LN b B) (k:LN b C):LN b (bif c then B else C):=by cases c <;> assumption
theorem RB {α:Type} {c:Bool} {x:α}:((bif c then [x] else []:List α).length:Int)<=1:=by cases c <;> simp
theorem XW (a c:AB) (d:AD):((CO a c d).1.length:Int)<=2:=by
 unfold CO
 generalize (bif _ then _ else false:Bool)=q
 cases q with
 | true=>simp
 | false =>
  simp only [cond_false]
  cases decide (((AA d 4).1:Int)=3) <;> simp
theorem Vk (b:AF) (types:List AL) (l:List (List Int)) (v1:List Az) (v6:AD) (v7:ByteArray) (v9:Int) (v2:List CG) (v6':AD) (v11:Int) (K0:List Az->AD->ByteArray->Int->AF) (K1:List CG->AD->Int->AF) (h1:(v1.length:Int)<=6) (he:∀ t∈v1,(t.Shape.Edges.length:Int)<=2) (h2:(v2.length:Int)<=3):∀ (n:Nat) (v:List Bk) (d:AD) (k:Int),0<=k->(v.length:Int)<=k->k<=3->((AA v6' 3).1-k).toNat<n->LN b (B4 b types l v1 v6 v7 v9 v2 v6' v11 K0 K1 n v d k)
 | 0,v,d,k,_,_,_,h=>absurd h (Nat.not_lt_zero _)
 | n+1,v,d,k,k0,kv,k3,h=>by
  unfold B4
  have hb:=Cx v6' 3 (by decide) (by decide)
  by_cases hc:k<(AA v6' 3).1
  ·simp only [hc,decide_true,cond_true]
   exact Vk b types l v1 v6 v7 v9 v2 v6' v11 K0 K1 h1 he h2 n _ _ _ (by omega) (by simp only [List.length_append,List.length_cons,List.length_nil];omega) (by omega) (by omega)
  ·simp only [hc,decide_false,cond_false]
   have hv:(v.length:Int)<=3:=by omega
   repeat (first | exact ⟨rfl,rfl,rfl,rfl,h1,he,h2,hv,RB,RB⟩ | exact ⟨rfl,rfl,rfl,rfl,h1,he,h2,hv,RB,(by simp:((([_]:List Dh).length:Nat):Int)<=1)⟩ | exact ⟨rfl,rfl,rfl,rfl,h1,he,h2,hv,RB,(by simp:((([]:List Dh).length:Nat):Int)<=1)⟩ | refine dA ?_ ?_)
theorem Vl (b:AF) (types:List AL) (l:List (List Int)) (v1:List Az) (v6:AD) (v7:ByteArray) (v9:Int) (K0:List Az->AD->ByteArray->Int->AF) (h1:(v1.length:Int)<=6) (he:∀ t∈v1,(t.Shape.Edges.length:Int)<=2):∀ (n:Nat) (v:List CG) (d:AD) (k:Int),0<=k->(v.length:Int)<=k->k<=3->((AA (AD.mk (AU l 5) 0) 3).1-k).toNat<n->LN b (CI b types l v1 v6 v7 v9 K0 n v d k)
 | 0,v,d,k,_,_,_,h=>absurd h (Nat.not_lt_zero _)
 | n+1,v,d,k,k0,kv,k3,h=>by
  unfold CI
  have hb:=Cx (AD.mk (AU l 5) 0) 3 (by decide) (by decide)
  by_cases hc:k<(AA (AD.mk (AU l 5) 0) 3).1
  ·simp only [hc,decide_true,cond_true]
   exact Vl b types l v1 v6 v7 v9 K0 h1 he n _ _ _ (by omega) (by simp only [List.length_append,List.length_cons,List.length_nil];omega) (by omega) (by omega)
  ·simp only [hc,decide_false,cond_false]
   exact Vk b types l v1 v6 v7 v9 v d k K0 _ h1 he (by omega) _ _ _ 0 (by omega) (by simp) (by omega) (by omega)
theorem Vm (b:AF) (types:List AL) (l:List (List Int)):∀ (n:Nat) (v:List Az) (d:AD) (s:ByteArray) (k:Int),0<=k->(v.length:Int)<=k->k<=6->(∀ t∈v,(t.Shape.Edges.length:Int)<=2)->((AA (Z1m b l) 6).1-k).toNat<n->LN b (Bv b types l n v d s k)
 | 0,v,d,s,k,_,_,_,_,h=>absurd h (Nat.not_lt_zero _)
 | n+1,v,d,s,k,k0,kv,k3,he,h=>by
  unfold Bv
  have hb:=Cx (Z1m b l) 6 (by decide) (by decide)
  by_cases hc:k<(AA (Z1m b l) 6).1
  ·simp only [hc,decide_true,cond_true]
   refine Vm b types l n _ _ _ _ (by omega) (by simp only [List.length_append,List.length_cons,List.length_nil];omega) (by omega) (fun t ht => ?_) (by omega)
   rcases List.mem_append.1 ht with ht | ht
   ·exact he t ht
   ·rw [List.mem_singleton.1 ht];exact XW _ _ _
  ·simp only [hc,decide_false,cond_false]
   exact Vl b types l v d s k _ (by omega) he _ _ _ 0 (by omega) (by simp) (by omega) (by omega)
theorem Gr (b:AF) (types:List AL) (l:List (List Int)):LN b (BA b types l):=by
 have hb:=Cx (Z1m b l) 6 (by decide) (by decide)
 unfold BA
 exact Vm b types l _ _ _ _ 0 (by omega) (by simp) (by omega) (fun t ht=>by cases ht) (by omega)
end
section
open Go.RowKit
def AJ:ER:=ER.mk 1 (⟨#[]⟩) 0 (An.mk 0 0 0 0) (OpL.mk 0 (fun _ _=>default))
def Bw:FuncId×List Av×Ef:=(93,[],.val [] (.av (.agg (ER.c AJ))))
abbrev Ql:List Cl:=[.i 1,.s (⟨#[]⟩),.i 0,.i 0,.i 0,.i 0,.i 0,vN]
theorem Wg  : BH Tryz.prog 93 (Bw ).2.1 (.av (.agg (ER.c AJ))):=by
 refine AO Tryz.func93 rfl kr kr fun W0 M0 => ?_
 refine AC<|rn ⟨[(0,tP 0 0)],[(0,.cells [.i 0,.s (⟨#[]⟩),.i 0,.i 0,.i 0,.i 0,.i 0,vN] 107)]⟩<|AC ?_
 refine rn ⟨[(0,tP 0 0)],[(0,.cells Ql 107)]⟩<|AZ ?_
 exact ⟨_,Cv.refl _,.inl rfl,.av (.agg Ql),by kernel_rfl,Ds (y:=.av (.agg [.i 1,.s (⟨#[]⟩),.i 0,.i 0,.i 0,.i 0,.i 0,opL (OpL.mk 0 (fun _ _=>default))])) (.av (.agg (rr (rr (rr (rr (rr (rr (rr (.cons (.nil _ _) .nil)))))))))) (by rfl)⟩
theorem EA  : Aq Tryz.prog (Bw ).1 (Bw ).2.1 (Bw ).2.2:=AR (fun _ _=>kr) fun _=>Wg
def Z2R:Blk:=.cells [.i 0,.s (⟨#[]⟩),.i 0,.i 0,.i 0,.i 0,.i 0,vN] 107
abbrev IF (d:AD):Blk:=.cells (AD.c (AA d 9).2) 146
def Z2S (d:AD):FuncId×List Av×Ef:=(48,([.one (.ptr 1000 0),.one (.i 9)]:List Av).map (Bh 1000 1000),wrI 1000 (G2 d) (tI (AA d 9).1) (IF d))
abbrev G1 (d:AD):=AA (AA d 9).2 2
def Z2T (d:AD):FuncId×List Av×Ef:=(48,(HC:List Av).map (Bh 1000 1000),wrI 1000 (IF d) (tI (G1 d).1) (.cells (AD.c (G1 d).2) 146))
def Z2U (d:AD):Blk:=.cells (AD.c (G1 d).2) 146
def Z2V (d:AD):FuncId×List Av×Ef:=(48,(KE:List Av).map (Bh 1000 1000),wrI 1000 (IF d) (tI (AA (AA d 9).2 5).1) (.cells (AD.c (AA (AA d 9).2 5).2) 146))
def Z2W (d:AD):FuncId×List Av×Ef:=(48,(Ep:List Av).map (Bh 1000 1000),wrI 1000 (IF d) (tI (AA (AA d 9).2 3).1) (.cells (AD.c (AA (AA d 9).2 3).2) 146))
def Z2X (d:AD):FuncId×List Av×Ef:=(48,(Nn:List Av).map (Bh 1000 1000),wrI 1000 (IF d) (tI (AA (AA d 9).2 6).1) (.cells (AD.c (AA (AA d 9).2 6).2) 146))
def Z2Y (d:AD):FuncId×List Av×Ef:=(48,(Jh:List Av).map (Bh 1000 1000),wrI 1000 (.cells (AD.c (G1 d).2) 146) (tI (AA (G1 d).2 4).1) (.cells (AD.c (AA (G1 d).2 4).2) 146))
abbrev Z2Z (d:AD):AD:=(AA (AA (AA d 9).2 2).2 4).2
def BB (d:AD):(ER×AD):=bif decide (((AA d 9).1:Int)=0) then (ER.mk 2 (([({ data := #[78,49] }:ByteArray),({ data := #[71,78,68] }:ByteArray)]:List ByteArray).getD (AA (AA d 9).2 2).1.toNat ⟨#[]⟩) 0 (An.mk 0 0 0 0) (OpL.mk 0 (fun _ _=>default)),(AA (AA d 9).2 2).2) else (bif decide (((AA d 9).1:Int)=1) then (ER.mk 3 ({ data := #[112,111,119,101,114] }:ByteArray) 0 (An.mk 0 0 0 0) (OpL.mk 0 (fun _ _=>default)),(AA d 9).2) else (bif decide (((AA d 9).1:Int)=2) then (ER.mk 4 (⟨#[]⟩) (W64 (1+(AA (AA d 9).2 5).1)) (An.mk 0 0 0 0) (OpL.mk 0 (fun _ _=>default)),(AA (AA d 9).2 5).2) else (bif decide (((AA d 9).1:Int)=3) then (ER.mk 5 (⟨#[]⟩) (W64 (1+(AA (AA d 9).2 2).1)) (An.mk 0 0 0 0) (OpL.mk 0 (fun _ _=>default)),(AA (AA d 9).2 2).2) else (bif decide (((AA d 9).1:Int)=4) then (ER.mk 6 (⟨#[]⟩) (W64 (1+(AA (AA d 9).2 3).1)) (An.mk 0 0 0 0) (OpL.mk 0 (fun _ _=>default)),(AA (AA d 9).2 3).2) else (bif decide (((AA d 9).1:Int)=5) then (ER.mk 7 (⟨#[]⟩) 0 (An.mk 0 0 (W64 (100+(W64 (50*(AA (AA d 9).2 6).1)))) 400) (OpL.mk 0 (fun _ _=>default)),(AA (AA d 9).2 6).2) else (bif decide (((AA d 9).1:Int)=6) then (ER.mk 8 (⟨#[]⟩) 0 (An.mk 0 0 0 0) (OpL.mk 1 (A8 8 1 [.i 5,.s (⟨#[]⟩),.i (W64 (1+(AA (AA d 9).2 2).1)),.i 0,.i 0,.i 0,.i 0,vN])),(AA (AA d 9).2 2).2) else (bif decide (((AA d 9).1:Int)=7) then (ER.mk (W64 (9+(AA (AA d 9).2 2).1)) (⟨#[]⟩) 0 (An.mk 0 0 0 0) (OpL.mk 2 (A8 8 2 [.i 4,.s (⟨#[]⟩),.i (W64 (1+(AA (AA (AA d 9).2 2).2 4).1)),.i 0,.i 0,.i 0,.i 0,vN,.i 2,.s ({ data := #[71,78,68] }:ByteArray),.i 0,.i 0,.i 0,.i 0,.i 0,vN])),Z2Z d) else (ER.mk 1 (⟨#[]⟩) 0 (An.mk 0 0 0 0) (OpL.mk 0 (fun _ _=>default)),(AA d 9).2))))))))
abbrev VL (d:AD):List Cl:=[.i 5,.s (⟨#[]⟩),.i (W64 (1+(G1 d).1)),.i 0,.i 0,.i 0,.i 0,vN]
abbrev IY (d:AD):Nat×Blk:=(1000,.cells (AD.c (AA d 9).2) 146)
abbrev X5 (d:AD):List Cl:=[.i 7,.s (⟨#[]⟩),.i 0,.i 0,.i 0,.i (W64 (100+(W64 (50*(AA (AA d 9).2 6).1)))),.i 400,vN]
abbrev gM (d:AD):Nat×Tv:=(4,tI (AA d 9).1)
abbrev Xw (d:AD):List Cl:=[.i 4,.s (⟨#[]⟩),.i (W64 (1+(AA (AA d 9).2 5).1)),.i 0,.i 0,.i 0,.i 0,vN]
abbrev Xv (d:AD):List Cl:=[.i 6,.s (⟨#[]⟩),.i (W64 (1+(AA (AA d 9).2 3).1)),.i 0,.i 0,.i 0,.i 0,vN]
abbrev Xt (d:AD):List Cl:=[.i 8,.s (⟨#[]⟩),.i 0,.i 0,.i 0,.i 0,.i 0,.list true 8 1 (A8 8 1 (VL d))]
abbrev Ib (d:AD) (t_:List (Nat×Tv)):List (Nat×Tv):=(0,tP 1000 0)::(2,tP 2 0)::(gM d)::t_
theorem VY  (d:AD) (hd:Ba d):Wr Tryz.prog 94 1000 [.one (.ptr 1000 0)] (.cells (AD.c d) 146) (.av (.agg (ER.c (BB d).1))) (.cells (AD.c (BB d).2) 146):=by
 refine HI Tryz.func94 rfl kr kr kr kr fun W0 M0 X hX => ?_
 refine AC<|rn ⟨[(0,tP 1000 0),(2,tP 2 0)],[(2,Z2R),(Ik d)]⟩ ?_
 refine AC<|AC ?_
 refine rb 4 (Z2S d) (G2 d) ⟨(Ib d []),[(2,Z2R),(IY d)]⟩ (Ag (fun _ _=>kr) kr kr (BJ d 9 au4 au7))<|AH ?_
 refine Af<|AC ?_
 refine rn ⟨(Ib d [(5,tB (decide (((AA d 9).1:Int)=0)))]),[(2,Z2R),(IY d)]⟩ ?_
 refine AY _ rfl (fun h1 => ?_) (fun h1 => ?_)
 ·have g1:=oT h1
  refine AC<|rc [(9,(Z2T d))] [Ap (Z2T d).2.1,Bo (IF d),0<=((AA (AA d 9).2 2).1:Int)/\((AA (AA d 9).2 2).1:Int)<((2:Nat):Int)] ⟨[(2,tP 2 0)],[(2,.cells [.i 2,.s (([({ data := #[78,49] }:ByteArray),({ data := #[71,78,68] }:ByteArray)]:List ByteArray).getD (G1 d).1.toNat ⟨#[]⟩),.i 0,.i 0,.i 0,.i 0,.i 0,vN] 107),(1000,Z2U d)]⟩ (.cons (Ag (fun _ _=>kr) kr kr (BJ (AA d 9).2 2 au4 au7)) .nil) (.cons rfl (.cons rfl (.cons (by first | exact JG _ _ _ (by decide) (by decide) (by decide) | decide | omega) .nil)))<|AH ?_
  refine AZ<|B2<|A9 ?_
  exact ⟨_,Cv.refl _,.inl rfl,.av (.agg [.i 2,.s (([({ data := #[78,49] }:ByteArray),({ data := #[71,78,68] }:ByteArray)]:List ByteArray).getD (AA (AA d 9).2 2).1.toNat ⟨#[]⟩),.i 0,.i 0,.i 0,.i 0,.i 0,vN]),by kernel_rfl,⟨Ds (y:=.av (.agg [.i 2,.s (([({ data := #[78,49] }:ByteArray),({ data := #[71,78,68] }:ByteArray)]:List ByteArray).getD (AA (AA d 9).2 2).1.toNat ⟨#[]⟩),.i 0,.i 0,.i 0,.i 0,.i 0,opL (OpL.mk 0 (fun _ _=>default))])) (.av (.agg (rr (rr (rr (rr (rr (rr (rr (.cons (.nil _ _) .nil)))))))))) (by unfold BB;rw [h1];rfl),.cells (AD.c (AA (AA d 9).2 2).2) 146,by kernel_rfl,Dg (by unfold BB;rw [h1];kernel_rfl)⟩⟩
 ·have g1:=oF h1
  refine AC<|rn ⟨(Ib d [(13,tB (decide (((AA d 9).1:Int)=1)))]),[(2,Z2R),(IY d)]⟩ ?_
  refine AY _ rfl (fun h2 => ?_) (fun h2 => ?_)
  ·have g2:=oT h2
   refine AC<|rn ⟨[(2,tP 2 0)],[(2,.cells [.i 3,.s ({ data := #[112,111,119,101,114] }:ByteArray),.i 0,.i 0,.i 0,.i 0,.i 0,vN] 107),(IY d)]⟩ ?_
   refine AZ<|B2<|A9 ?_
   exact ⟨_,Cv.refl _,.inl rfl,.av (.agg [.i 3,.s ({ data := #[112,111,119,101,114] }:ByteArray),.i 0,.i 0,.i 0,.i 0,.i 0,vN]),by kernel_rfl,⟨Ds (y:=.av (.agg [.i 3,.s ({ data := #[112,111,119,101,114] }:ByteArray),.i 0,.i 0,.i 0,.i 0,.i 0,opL (OpL.mk 0 (fun _ _=>default))])) (.av (.agg (rr (rr (rr (rr (rr (rr (rr (.cons (.nil _ _) .nil)))))))))) (by unfold BB;rw [h1,h2];rfl),.cells (AD.c (AA d 9).2) 146,by kernel_rfl,Dg (by unfold BB;rw [h1,h2];kernel_rfl)⟩⟩
  ·have g2:=oF h2
   refine AC<|rn ⟨(Ib d [(16,tB (decide (((AA d 9).1:Int)=2)))]),[(2,Z2R),(IY d)]⟩ ?_
   refine AY _ rfl (fun h3 => ?_) (fun h3 => ?_)
   ·have g3:=oT h3
    refine AC<|rb 19 (Z2V d) (IF d) ⟨[(2,tP 2 0)],[(2,.cells (Xw d) 107),(1000,.cells (AD.c (AA (AA d 9).2 5).2) 146)]⟩ (Ag (fun _ _=>kr) kr kr (BJ (AA d 9).2 5 au4 au7))<|AH ?_
    refine AZ<|B2<|A9 ?_
    exact ⟨_,Cv.refl _,.inl rfl,.av (.agg (Xw d)),by kernel_rfl,⟨Ds (y:=.av (.agg [.i 4,.s (⟨#[]⟩),.i (W64 (1+(AA (AA d 9).2 5).1)),.i 0,.i 0,.i 0,.i 0,opL (OpL.mk 0 (fun _ _=>default))])) (.av (.agg (rr (rr (rr (rr (rr (rr (rr (.cons (.nil _ _) .nil)))))))))) (by unfold BB;rw [h1,h2,h3];rfl),.cells (AD.c (AA (AA d 9).2 5).2) 146,by kernel_rfl,Dg (by unfold BB;rw [h1,h2,h3];kernel_rfl)⟩⟩
   ·have g3:=oF h3
    refine AC<|rn ⟨(Ib d [(22,tB (decide (((AA d 9).1:Int)=3)))]),[(2,Z2R),(IY d)]⟩ ?_
    refine AY _ rfl (fun h4 => ?_) (fun h4 => ?_)
    ·have g4:=oT h4
     refine AC<|rb 25 (Z2T d) (IF d) ⟨[(2,tP 2 0)],[(2,.cells (VL d) 107),(1000,Z2U d)]⟩ (Ag (fun _ _=>kr) kr kr (BJ (AA d 9).2 2 au4 au7))<|AH ?_
     refine AZ<|B2<|A9 ?_
     exact ⟨_,Cv.refl _,.inl rfl,.av (.agg (VL d)),by kernel_rfl,⟨Ds (y:=.av (.agg [.i 5,.s (⟨#[]⟩),.i (W64 (1+(AA (AA d 9).2 2).1)),.i 0,.i 0,.i 0,.i 0,opL (OpL.mk 0 (fun _ _=>default))])) (.av (.agg (rr (rr (rr (rr (rr (rr (rr (.cons (.nil _ _) .nil)))))))))) (by unfold BB;rw [h1,h2,h3,h4];rfl),.cells (AD.c (AA (AA d 9).2 2).2) 146,by kernel_rfl,Dg (by unfold BB;rw [h1,h2,h3,h4];kernel_rfl)⟩⟩
    ·have g4:=oF h4
     refine AC<|rn ⟨(Ib d [(28,tB (decide (((AA d 9).1:Int)=4)))]),[(2,Z2R),(IY d)]⟩ ?_
     refine AY _ rfl (fun h5 => ?_) (fun h5 => ?_)
     ·have g5:=oT h5
      refine AC<|rb 31 (Z2W d) (IF d) ⟨[(2,tP 2 0)],[(2,.cells (Xv d) 107),(1000,.cells (AD.c (AA (AA d 9).2 3).2) 146)]⟩ (Ag (fun _ _=>kr) kr kr (BJ (AA d 9).2 3 au4 au7))<|AH ?_
      refine AZ<|B2<|A9 ?_
      exact ⟨_,Cv.refl _,.inl rfl,.av (.agg (Xv d)),by kernel_rfl,⟨Ds (y:=.av (.agg [.i 6,.s (⟨#[]⟩),.i (W64 (1+(AA (AA d 9).2 3).1)),.i 0,.i 0,.i 0,.i 0,opL (OpL.mk 0 (fun _ _=>default))])) (.av (.agg (rr (rr (rr (rr (rr (rr (rr (.cons (.nil _ _) .nil)))))))))) (by unfold BB;rw [h1,h2,h3,h4,h5];rfl),.cells (AD.c (AA (AA d 9).2 3).2) 146,by kernel_rfl,Dg (by unfold BB;rw [h1,h2,h3,h4,h5];kernel_rfl)⟩⟩
     ·have g5:=oF h5
      refine AC<|rn ⟨(Ib d [(34,tB (decide (((AA d 9).1:Int)=5)))]),[(2,Z2R),(IY d)]⟩ ?_
      refine AY _ rfl (fun h6 => ?_) (fun h6 => ?_)
      ·have g6:=oT h6
       refine AC<|rb 37 (Z2X d) (IF d) ⟨[(2,tP 2 0)],[(2,.cells (X5 d) 107),(1000,.cells (AD.c (AA (AA d 9).2 6).2) 146)]⟩ (Ag (fun _ _=>kr) kr kr (BJ (AA d 9).2 6 au4 au7))<|AH ?_
       refine AZ<|B2<|A9 ?_
       exact ⟨_,Cv.refl _,.inl rfl,.av (.agg (X5 d)),by kernel_rfl,⟨Ds (y:=.av (.agg [.i 7,.s (⟨#[]⟩),.i 0,.i 0,.i 0,.i (W64 (100+(W64 (50*(AA (AA d 9).2 6).1)))),.i 400,opL (OpL.mk 0 (fun _ _=>default))])) (.av (.agg (rr (rr (rr (rr (rr (rr (rr (.cons (.nil _ _) .nil)))))))))) (by unfold BB;rw [h1,h2,h3,h4,h5,h6];rfl),.cells (AD.c (AA (AA d 9).2 6).2) 146,by kernel_rfl,Dg (by unfold BB;rw [h1,h2,h3,h4,h5,h6];kernel_rfl)⟩⟩
      ·have g6:=oF h6
       refine AC<|rn ⟨(Ib d [(42,tB (decide (((AA d 9).1:Int)=6)))]),[(2,Z2R),(IY d)]⟩ ?_
       refine AY _ rfl (fun h7 => ?_) (fun h7 => ?_)
       ·have g7:=oT h7
        refine AC<|rb 45 (Z2T d) (IF d) ⟨[(2,tP 2 0)],[(2,.cells (Xt d) 107),(1000,Z2U d)]⟩ (Ag (fun _ _=>kr) kr kr (BJ (AA d 9).2 2 au4 au7))<|AH ?_
        refine AZ<|B2<|A9 ?_
        exact ⟨_,Cv.refl _,.inl rfl,.av (.agg (Xt d)),by kernel_rfl,⟨Ds (y:=.av (.agg [.i 8,.s (⟨#[]⟩),.i 0,.i 0,.i 0,.i 0,.i 0,opL (OpL.mk 1 (A8 8 1 (VL d)))])) (.av (.agg (rr (rr (rr (rr (rr (rr (rr (.cons (.list true false _ _ _ _ (fun _ _ _ _=>.refl _) (fun h=>by cases h)) .nil)))))))))) (by unfold BB;rw [h1,h2,h3,h4,h5,h6,h7];rfl),.cells (AD.c (AA (AA d 9).2 2).2) 146,by kernel_rfl,Dg (by unfold BB;rw [h1,h2,h3,h4,h5,h6,h7];kernel_rfl)⟩⟩
       ·have g7:=oF h7
        refine AC<|rn ⟨[(0,tP 1000 0),(2,tP 2 0),(50,tB (decide (((AA d 9).1:Int)=7)))],[(2,Z2R),(IY d)]⟩ ?_
        refine AY _ rfl (fun h8 => ?_) (fun h8 => ?_)
        ·have g8:=oT h8
         refine AC<|rc [(53,(Z2T d)),(56,(Z2Y d))] [Ap (Z2T d).2.1,Bo (IF d),Ap (Z2Y d).2.1,Bo (.cells (AD.c (AA (AA d 9).2 2).2) 146)] ⟨[(2,tP 2 0)],[(2,.cells [.i (W64 (9+(G1 d).1)),.s (⟨#[]⟩),.i 0,.i 0,.i 0,.i 0,.i 0,.list true 8 2 (A8 8 2 [.i 4,.s (⟨#[]⟩),.i (W64 (1+(AA (G1 d).2 4).1)),.i 0,.i 0,.i 0,.i 0,vN,.i 2,.s ({ data := #[71,78,68] }:ByteArray),.i 0,.i 0,.i 0,.i 0,.i 0,vN])] 107),(1000,.cells (AD.c (Z2Z d)) 146)]⟩ (.cons (Ag (fun _ _=>kr) kr kr (BJ (AA d 9).2 2 au4 au7)) (.cons (Ag (fun _ _=>kr) kr kr (BJ (AA (AA d 9).2 2).2 4 au4 au7)) .nil)) (.cons rfl (.cons rfl (.cons rfl (.cons rfl .nil))))<|AH ?_
         refine AZ<|B2<|A9 ?_
         exact ⟨_,Cv.refl _,.inl rfl,.av (.agg [.i (W64 (9+(AA (AA d 9).2 2).1)),.s (⟨#[]⟩),.i 0,.i 0,.i 0,.i 0,.i 0,.list true 8 2 (A8 8 2 [.i 4,.s (⟨#[]⟩),.i (W64 (1+(AA (AA (AA d 9).2 2).2 4).1)),.i 0,.i 0,.i 0,.i 0,vN,.i 2,.s ({ data := #[71,78,68] }:ByteArray),.i 0,.i 0,.i 0,.i 0,.i 0,vN])]),by kernel_rfl,⟨Ds (y:=.av (.agg [.i (W64 (9+(AA (AA d 9).2 2).1)),.s (⟨#[]⟩),.i 0,.i 0,.i 0,.i 0,.i 0,opL (OpL.mk 2 (A8 8 2 [.i 4,.s (⟨#[]⟩),.i (W64 (1+(AA (AA (AA d 9).2 2).2 4).1)),.i 0,.i 0,.i 0,.i 0,vN,.i 2,.s ({ data := #[71,78,68] }:ByteArray),.i 0,.i 0,.i 0,.i 0,.i 0,vN]))])) (.av (.agg (rr (rr (rr (rr (rr (rr (rr (.cons (.list true false _ _ _ _ (fun _ _ _ _=>.refl _) (fun h=>by cases h)) .nil)))))))))) (by unfold BB;rw [h1,h2,h3,h4,h5,h6,h7,h8];rfl),.cells (AD.c (Z2Z d)) 146,by kernel_rfl,Dg (by unfold BB;rw [h1,h2,h3,h4,h5,h6,h7,h8];kernel_rfl)⟩⟩
        ·have g8:=oF h8
         refine Ae<|BZ ?_
         refine AH<|AC ?_
         refine rn ⟨[(2,tP 2 0)],[(2,.cells Ql 107),(IY d)]⟩<|AZ ?_
         exact ⟨_,Cv.refl _,.inl rfl,.av (.agg Ql),by kernel_rfl,⟨Ds (y:=.av (.agg [.i 1,.s (⟨#[]⟩),.i 0,.i 0,.i 0,.i 0,.i 0,opL (OpL.mk 0 (fun _ _=>default))])) (.av (.agg (rr (rr (rr (rr (rr (rr (rr (.cons (.nil _ _) .nil)))))))))) (by unfold BB;rw [h1,h2,h3,h4,h5,h6,h7,h8];rfl),.cells (AD.c (AA d 9).2) 146,by kernel_rfl,Dg (by unfold BB;rw [h1,h2,h3,h4,h5,h6,h7,h8];kernel_rfl)⟩⟩
theorem XU {d:AD} (h:Ba d):Ba (BB d).2:=by
 unfold BB
 exact De (BI (BI h)) (De (BI h) (De (BI (BI h)) (De (BI (BI h)) (De (BI (BI h)) (De (BI (BI h)) (De (BI (BI h)) (De (BI (BI (BI h))) (BI h))))))))
abbrev YE (b:AF):List Cl:=[.i b.Layers,.any,.any,.any,lst 7 AG.c b.Parts,.any,lst 6 Az.c b.Tracks,lst 8 CG.c b.Vias,lst 8 Bk.c b.Pours,lst 5 Cs.c b.Keeps,lst 4 Dh.c b.Slots,.any,.any,.any,.any]
def Z30 (b:AF):Blk:=.cells (YE b) 40
def Z31:Blk:=.row 1 ([]:List Int).length (Ak (fun x=>[.i x]) ([]:List Int)) 3
def Z32:Tv:=.av (.one (.own 100000 1 ([]:List Int).length))
abbrev NZ (b:AF) (v4:Int):=b.Parts.getD v4.toNat default
def Z33 (v3:List Int) (b:AF) (v4:Int):Blk:=.row 1 (v3++[(NZ b v4).Id]).length (Ak (fun x=>[.i x]) (v3++[(NZ b v4).Id])) 3
abbrev Nd (b:AF) (v5:Int):=b.Tracks.getD v5.toNat default
def Z34 (v3':List Int) (b:AF) (v5:Int):Blk:=.row 1 (v3'++[(Nd b v5).Id]).length (Ak (fun x=>[.i x]) (v3'++[(Nd b v5).Id])) 3
abbrev NU (b:AF) (v6:Int):=b.Vias.getD v6.toNat default
def Z35 (v3'':List Int) (b:AF) (v6:Int):Blk:=.row 1 (v3''++[(NU b v6).Id]).length (Ak (fun x=>[.i x]) (v3''++[(NU b v6).Id])) 3
abbrev NY (b:AF) (v7:Int):=b.Pours.getD v7.toNat default
def Z36 (v3''':List Int) (b:AF) (v7:Int):Blk:=.row 1 (v3'''++[(NY b v7).Id]).length (Ak (fun x=>[.i x]) (v3'''++[(NY b v7).Id])) 3
abbrev Na (b:AF) (v8:Int):=b.Keeps.getD v8.toNat default
def Z37 (v3'''':List Int) (b:AF) (v8:Int):Blk:=.row 1 (v3''''++[(Na b v8).Id]).length (Ak (fun x=>[.i x]) (v3''''++[(Na b v8).Id])) 3
abbrev NX (b:AF) (v9:Int):=b.Slots.getD v9.toNat default
def Z38 (v3''''':List Int) (b:AF) (v9:Int):Blk:=.row 1 (v3'''''++[(NX b v9).Id]).length (Ak (fun x=>[.i x]) (v3'''''++[(NX b v9).Id])) 3
def FM (b:AF) (v3:List Int) (v4:Int) (v3':List Int) (v5:Int) (v3'':List Int) (v6:Int) (v3''':List Int) (v7:Int) (v3'''':List Int) (v8:Int) (K0:List Int->Int->(List Int)) (K1:List Int->Int->(List Int)) (K2:List Int->Int->(List Int)) (K3:List Int->Int->(List Int)) (K4:List Int->Int->(List Int)):Nat->List Int->Int->(List Int)
 | 0,_,_=>default
 | n5+1,v3''''',v9=>bif decide ((v9:Int)<(b.Slots.length:Int)) then ((FM b v3 v4 v3' v5 v3'' v6 v3''' v7 v3'''' v8 K0 K1 K2 K3 K4 n5) (v3'''''++[(b.Slots.getD v9.toNat default).Id]) (v9+1)) else v3'''''
def EP (b:AF) (v3:List Int) (v4:Int) (v3':List Int) (v5:Int) (v3'':List Int) (v6:Int) (v3''':List Int) (v7:Int) (K0:List Int->Int->(List Int)) (K1:List Int->Int->(List Int)) (K2:List Int->Int->(List Int)) (K3:List Int->Int->(List Int)):Nat->List Int->Int->(List Int)
 | 0,_,_=>default
 | n4+1,v3'''',v8=>bif decide ((v8:Int)<(b.Keeps.length:Int)) then ((EP b v3 v4 v3' v5 v3'' v6 v3''' v7 K0 K1 K2 K3 n4) (v3''''++[(b.Keeps.getD v8.toNat default).Id]) (v8+1)) else (FM b v3 v4 v3' v5 v3'' v6 v3''' v7 v3'''' v8 K0 K1 K2 K3 (EP b v3 v4 v3' v5 v3'' v6 v3''' v7 K0 K1 K2 K3 n4) (((b.Slots.length:Int)-0).toNat+1) v3'''' 0)
def Dl (b:AF) (v3:List Int) (v4:Int) (v3':List Int) (v5:Int) (v3'':List Int) (v6:Int) (K0:List Int->Int->(List Int)) (K1:List Int->Int->(List Int)) (K2:List Int->Int->(List Int)):Nat->List Int->Int->(List Int)
 | 0,_,_=>default
 | n3+1,v3''',v7=>bif decide ((v7:Int)<(b.Pours.length:Int)) then ((Dl b v3 v4 v3' v5 v3'' v6 K0 K1 K2 n3) (v3'''++[(b.Pours.getD v7.toNat default).Id]) (v7+1)) else (EP b v3 v4 v3' v5 v3'' v6 v3''' v7 K0 K1 K2 (Dl b v3 v4 v3' v5 v3'' v6 K0 K1 K2 n3) (((b.Keeps.length:Int)-0).toNat+1) v3''' 0)
def Ca (b:AF) (v3:List Int) (v4:Int) (v3':List Int) (v5:Int) (K0:List Int->Int->(List Int)) (K1:List Int->Int->(List Int)):Nat->List Int->Int->(List Int)
 | 0,_,_=>default
 | n2+1,v3'',v6=>bif decide ((v6:Int)<(b.Vias.length:Int)) then ((Ca b v3 v4 v3' v5 K0 K1 n2) (v3''++[(b.Vias.getD v6.toNat default).Id]) (v6+1)) else (Dl b v3 v4 v3' v5 v3'' v6 K0 K1 (Ca b v3 v4 v3' v5 K0 K1 n2) (((b.Pours.length:Int)-0).toNat+1) v3'' 0)
def Bf (b:AF) (v3:List Int) (v4:Int) (K0:List Int->Int->(List Int)):Nat->List Int->Int->(List Int)
 | 0,_,_=>default
 | n1+1,v3',v5=>bif decide ((v5:Int)<(b.Tracks.length:Int)) then ((Bf b v3 v4 K0 n1) (v3'++[(b.Tracks.getD v5.toNat default).Id]) (v5+1)) else (Ca b v3 v4 v3' v5 K0 (Bf b v3 v4 K0 n1) (((b.Vias.length:Int)-0).toNat+1) v3' 0)
def A7 (b:AF):Nat->List Int->Int->(List Int)
 | 0,_,_=>default
 | n0+1,v3,v4=>bif decide ((v4:Int)<(b.Parts.length:Int)) then ((A7 b n0) (v3++[(b.Parts.getD v4.toNat default).Id]) (v4+1)) else (Bf b v3 v4 (A7 b n0) (((b.Tracks.length:Int)-0).toNat+1) v3 0)
def EW (b:AF):(List Int):=A7 b (((b.Parts.length:Int)-0).toNat+1) ([]:List Int) 0
def Oy (b:AF):FuncId×List Av×Ef:=(95,[.agg (YE b)],.val [] (.av (.one (lst 1 (fun x=>[.i x]) (EW b)))))
theorem iD (b:AF) (h0:(b.Parts.length:Int)<=1000000) (h1:(b.Tracks.length:Int)<=1000000) (h2:(b.Vias.length:Int)<=1000000) (h3:(b.Pours.length:Int)<=1000000) (h4:(b.Keeps.length:Int)<=1000000) (h5:(b.Slots.length:Int)<=1000000):BH Tryz.prog 95 (Oy b).2.1 (tO (lst 1 (fun x=>[.i x]) (EW b))):=by
 refine AO Tryz.func95 rfl kr kr fun W0 M0 => ?_
 refine AC<|rn ⟨[(1,tP 1 0)],[(1,Z30 b)]⟩<|AC ?_
 refine rn ⟨[(1,tP 1 0),(3,.av (.one vN))],[(1,Z30 b)]⟩ ?_
 refine AC<|AC ?_
 refine rn ⟨[(1,tP 1 0),(3,.av (.one vN)),(4,tI 0)],[(1,Z30 b)]⟩<|Af ?_
 refine Bq (Cv.trans (wg (⟨[(1,tP 1 0),(3,tO (.own 100000 1 0)),(4,tI 0)],[(100000,.row 1 0 (fun _ _=>default) 3),(1,Z30 b)]⟩) 100000 1 (fun _ _=>default) 3 [(3,[0])] [] (K:=[]) (fun k x h=>by cases h)) (Cv.trans (BS (⟨[(1,tP 1 0),(3,Z32),(4,tI 0)],[(100000,Z31),(1,Z30 b)]⟩) (.cons ⟨rfl,.refl _⟩ (.cons ⟨rfl,.av (.one (.own _ _ au2))⟩ lr)) (.cons ⟨rfl,Aw 3 (C3 1 (fun _ _=>default) (fun x=>[.i x]))⟩ lr)) (Cv.trans (ck (⟨[(1,tP 1 0),(3,Z32),(4,tI 0)],[(1,Z30 b),(100000,Z31)]⟩)) (Cv.refl _)))) ?_
 refine BL (ι:=Nat×List Int×Int) (fun x=>⟨[(1,tP 1 0),(3,tO (.own 100000 1 x.2.1.length)),(4,tI x.2.2)],[(1,Z30 b),(100000,.row 1 x.2.1.length (Ak (fun x=>[.i x]) x.2.1) 3)]⟩) (fun x=>((b.Parts.length:Int)-x.2.2).toNat<x.1/\(0<=x.2.2/\(x.2.2<=(b.Parts.length:Int)\/x.2.2=0)/\(x.2.1.length:Int)<=0+1*(x.2.2-0))/\A7 b x.1 x.2.1 x.2.2=EW b) (fun x=>x.1) ?_ (((b.Parts.length:Int)-0).toNat+1,([]:List Int),0) ⟨Nat.lt_succ_self _,⟨ax0,ax0,ax0⟩,(by simp only [EW,cond_true,cond_false])⟩
 rintro ⟨n0,v3,v4⟩ ⟨hn,hinv,hF⟩
 have hm0:=hn;have hinv0:=hinv;have hF0:=hF;try dsimp only at hm0 hinv0 hF0
 clear hn hinv hF
 cases n0 with
 | zero=>exact absurd hm0 (Nat.not_lt_zero _)
 | succ n0 =>
  refine AC<|AC ?_
  refine rn ⟨[(1,tP 1 0),(3,tO (.own 100000 1 v3.length)),(4,tI v4),(14,tB (decide ((v4:Int)<(b.Parts.length:Int))))],[(1,Z30 b),(100000,.row 1 v3.length (Ak (fun x=>[.i x]) v3) 3)]⟩ ?_
  refine AY _ rfl (fun h1 => ?_) (fun h1 => ?_)
  ·have g1:=oT h1
   refine Ae<|AH ?_
   refine AC<|Af ?_
   refine rc [] [0<=(v4:Int)/\(v4:Int)<((b.Parts.length:Nat):Int),v3.length=v3.length,v3.length+1<=maxLen,(v3.length+1)*8<=140737488355328] ⟨[(1,tP 1 0),(3,tO (.own 25 1 (v3.length+1))),(4,tI v4)],[(1,Z30 b),(25,.row 1 (v3.length+1) (fun i_ j_=>if i_<v3.length then (Ak (fun x=>[.i x]) v3) i_ j_ else (A8 1 1 [.i (NZ b v4).Id]) (i_-v3.length) j_) 3)]⟩ .nil (.cons au0 (.cons rfl (.cons au3 (.cons au3 .nil))))<|BZ<|AH ?_
   refine Bq (Cv.trans (BS (⟨[(1,tP 1 0),(3,tO (.own 25 1 (v3++[(NZ b v4).Id]).length)),(4,tI v4)],[(1,Z30 b),(25,Z33 v3 b v4)]⟩) (.cons ⟨rfl,.refl _⟩ (.cons ⟨rfl,.av (.one (.own _ _ au2))⟩ lr)) (.cons ⟨rfl,.refl _⟩ (.cons ⟨rfl,Aw 3 (Bi (BR 1 (fun x=>[.i x]) v3) (A3 (c:=(fun x=>[.i x])) (xs:=([(b.Parts.getD v4.toNat default).Id]:List Int)) rfl kr))⟩ .nil))) (Cv.refl _)) ?_
   refine rg ⟨[(1,tP 1 0),(3,tO (.own 25 1 (v3++[(NZ b v4).Id]).length)),(4,tI (W64 (v4+1)))],[(1,Z30 b),(25,Z33 v3 b v4)]⟩ ?_
   (try rw [(show W64 (v4+1)=v4+1 from Al (by omega) au9)])
   refine AH ?_
   refine ⟨(n0,v3++[(b.Parts.getD v4.toNat default).Id],v4+1),⟨?_,?_,(by rw [<- hF0];simp only [A7,h1,cond_true,cond_false])⟩,Nat.lt_succ_self _,Cv.trans (vr 25 100000 (K:=[]) (fun k x h=>by cases h)) (A4 kr)⟩
   ·show ((b.Parts.length:Int)-(v4+1)).toNat<n0;omega
   ·exact ⟨ax0,ax0,ax0⟩
  ·have g1:=oF h1
   refine BP<|BE ?_
   refine BE<|BQ ?_
   refine AH<|AC<|AC ?_
   refine rn ⟨[(1,tP 1 0),(3,tO (.own 100000 1 v3.length)),(5,tI 0)],[(1,Z30 b),(100000,.row 1 v3.length (Ak (fun x=>[.i x]) v3) 3)]⟩<|Af ?_
   refine BL (ι:=Nat×List Int×Int) (fun x=>⟨[(1,tP 1 0),(3,tO (.own 100000 1 x.2.1.length)),(5,tI x.2.2)],[(1,Z30 b),(100000,.row 1 x.2.1.length (Ak (fun x=>[.i x]) x.2.1) 3)]⟩) (fun x=>((b.Tracks.length:Int)-x.2.2).toNat<x.1/\(0<=x.2.2/\(x.2.2<=(b.Tracks.length:Int)\/x.2.2=0)/\(x.2.1.length:Int)<=(v3.length:Int)+1*(x.2.2-0))/\Bf b v3 v4 (A7 b n0) x.1 x.2.1 x.2.2=EW b) (fun x=>x.1) ?_ (((b.Tracks.length:Int)-0).toNat+1,v3,0) ⟨Nat.lt_succ_self _,⟨ax0,ax0,ax0⟩,(by rw [<- hF0];simp only [A7,h1,cond_true,cond_false])⟩
   rintro ⟨n1,v3',v5⟩ ⟨hn,hinv,hF⟩
   have hm1:=hn;have hinv1:=hinv;have hF1:=hF;try dsimp only at hm1 hinv1 hF1
   clear hn hinv hF
   cases n1 with
   | zero=>exact absurd hm1 (Nat.not_lt_zero _)
   | succ n1 =>
    refine AC<|AC ?_
    refine rn ⟨[(1,tP 1 0),(3,tO (.own 100000 1 v3'.length)),(5,tI v5),(30,tB (decide ((v5:Int)<(b.Tracks.length:Int))))],[(1,Z30 b),(100000,.row 1 v3'.length (Ak (fun x=>[.i x]) v3') 3)]⟩ ?_
    refine AY _ rfl (fun h2 => ?_) (fun h2 => ?_)
    ·have g2:=oT h2
     refine Ae<|AH ?_
     refine AC<|Af ?_
     refine rc [] [0<=(v5:Int)/\(v5:Int)<((b.Tracks.length:Nat):Int),v3'.length=v3'.length,v3'.length+1<=maxLen,(v3'.length+1)*8<=140737488355328] ⟨[(1,tP 1 0),(3,tO (.own 41 1 (v3'.length+1))),(5,tI v5)],[(1,Z30 b),(41,.row 1 (v3'.length+1) (fun i_ j_=>if i_<v3'.length then (Ak (fun x=>[.i x]) v3') i_ j_ else (A8 1 1 [.i (Nd b v5).Id]) (i_-v3'.length) j_) 3)]⟩ .nil (.cons au0 (.cons rfl (.cons au3 (.cons au3 .nil))))<|BZ<|AH ?_
     refine Bq (Cv.trans (BS (⟨[(1,tP 1 0),(3,tO (.own 41 1 (v3'++[(Nd b v5).Id]).length)),(5,tI v5)],[(1,Z30 b),(41,Z34 v3' b v5)]⟩) (.cons ⟨rfl,.refl _⟩ (.cons ⟨rfl,.av (.one (.own _ _ au2))⟩ lr)) (.cons ⟨rfl,.refl _⟩ (.cons ⟨rfl,Aw 3 (Bi (BR 1 (fun x=>[.i x]) v3') (A3 (c:=(fun x=>[.i x])) (xs:=([(b.Tracks.getD v5.toNat default).Id]:List Int)) rfl kr))⟩ .nil))) (Cv.refl _)) ?_
     refine rg ⟨[(1,tP 1 0),(3,tO (.own 41 1 (v3'++[(Nd b v5).Id]).length)),(5,tI (W64 (v5+1)))],[(1,Z30 b),(41,Z34 v3' b v5)]⟩ ?_
     (try rw [(show W64 (v5+1)=v5+1 from Al (by omega) au9)])
     refine AH ?_
     refine ⟨(n1,v3'++[(b.Tracks.getD v5.toNat default).Id],v5+1),⟨?_,?_,(by rw [<- hF1];simp only [Bf,h2,cond_true,cond_false])⟩,Nat.lt_succ_self _,Cv.trans (vr 41 100000 (K:=[]) (fun k x h=>by cases h)) (A4 kr)⟩
     ·show ((b.Tracks.length:Int)-(v5+1)).toNat<n1;omega
     ·exact ⟨ax0,ax0,ax0⟩
    ·have g2:=oF h2
     refine BP<|BE ?_
     refine BE<|BQ ?_
     refine AH<|AC<|AC ?_
     refine rn ⟨[(1,tP 1 0),(3,tO (.own 100000 1 v3'.length)),(6,tI 0)],[(1,Z30 b),(100000,.row 1 v3'.length (Ak (fun x=>[.i x]) v3') 3)]⟩<|Af ?_
     refine BL (ι:=Nat×List Int×Int) (fun x=>⟨[(1,tP 1 0),(3,tO (.own 100000 1 x.2.1.length)),(6,tI x.2.2)],[(1,Z30 b),(100000,.row 1 x.2.1.length (Ak (fun x=>[.i x]) x.2.1) 3)]⟩) (fun x=>((b.Vias.length:Int)-x.2.2).toNat<x.1/\(0<=x.2.2/\(x.2.2<=(b.Vias.length:Int)\/x.2.2=0)/\(x.2.1.length:Int)<=(v3'.length:Int)+1*(x.2.2-0))/\Ca b v3 v4 v3' v5 (A7 b n0) (Bf b v3 v4 (A7 b n0) n1) x.1 x.2.1 x.2.2=EW b) (fun x=>x.1) ?_ (((b.Vias.length:Int)-0).toNat+1,v3',0) ⟨Nat.lt_succ_self _,⟨ax0,ax0,ax0⟩,(by rw [<- hF1];simp only [Bf,h2,cond_true,cond_false])⟩
     rintro ⟨n2,v3'',v6⟩ ⟨hn,hinv,hF⟩
     have hm2:=hn;have hinv2:=hinv;have hF2:=hF;try dsimp only at hm2 hinv2 hF2
     clear hn hinv hF
     cases n2 with
     | zero=>exact absurd hm2 (Nat.not_lt_zero _)
     | succ n2 =>
      refine AC<|AC ?_
      refine rn ⟨[(1,tP 1 0),(3,tO (.own 100000 1 v3''.length)),(6,tI v6),(46,tB (decide ((v6:Int)<(b.Vias.length:Int))))],[(1,Z30 b),(100000,.row 1 v3''.length (Ak (fun x=>[.i x]) v3'') 3)]⟩ ?_
      refine AY _ rfl (fun h3 => ?_) (fun h3 => ?_)
      ·have g3:=oT h3
       refine Ae<|AH ?_
       refine AC<|Af ?_
       refine rc [] [0<=(v6:Int)/\(v6:Int)<((b.Vias.length:Nat):Int),v3''.length=v3''.length,v3''.length+1<=maxLen,(v3''.length+1)*8<=140737488355328] ⟨[(1,tP 1 0),(3,tO (.own 57 1 (v3''.length+1))),(6,tI v6)],[(1,Z30 b),(57,.row 1 (v3''.length+1) (fun i_ j_=>if i_<v3''.length then (Ak (fun x=>[.i x]) v3'') i_ j_ else (A8 1 1 [.i (NU b v6).Id]) (i_-v3''.length) j_) 3)]⟩ .nil (.cons au0 (.cons rfl (.cons au3 (.cons au3 .nil))))<|BZ<|AH ?_
       refine Bq (Cv.trans (BS (⟨[(1,tP 1 0),(3,tO (.own 57 1 (v3''++[(NU b v6).Id]).length)),(6,tI v6)],[(1,Z30 b),(57,Z35 v3'' b v6)]⟩) (.cons ⟨rfl,.refl _⟩ (.cons ⟨rfl,.av (.one (.own _ _ au2))⟩ lr)) (.cons ⟨rfl,.refl _⟩ (.cons ⟨rfl,Aw 3 (Bi (BR 1 (fun x=>[.i x]) v3'') (A3 (c:=(fun x=>[.i x])) (xs:=([(b.Vias.getD v6.toNat default).Id]:List Int)) rfl kr))⟩ .nil))) (Cv.refl _)) ?_
       refine rg ⟨[(1,tP 1 0),(3,tO (.own 57 1 (v3''++[(NU b v6).Id]).length)),(6,tI (W64 (v6+1)))],[(1,Z30 b),(57,Z35 v3'' b v6)]⟩ ?_
       (try rw [(show W64 (v6+1)=v6+1 from Al (by omega) au9)])
       refine AH ?_
       refine ⟨(n2,v3''++[(b.Vias.getD v6.toNat default).Id],v6+1),⟨?_,?_,(by rw [<- hF2];simp only [Ca,h3,cond_true,cond_false])⟩,Nat.lt_succ_self _,Cv.trans (vr 57 100000 (K:=[]) (fun k x h=>by cases h)) (A4 kr)⟩
       ·show ((b.Vias.length:Int)-(v6+1)).toNat<n2;omega
       ·exact ⟨ax0,ax0,ax0⟩
      ·have g3:=oF h3
       refine BP<|BE ?_
       refine BE<|BQ ?_
       refine AH<|AC<|AC ?_
       refine rn ⟨[(1,tP 1 0),(3,tO (.own 100000 1 v3''.length)),(7,tI 0)],[(1,Z30 b),(100000,.row 1 v3''.length (Ak (fun x=>[.i x]) v3'') 3)]⟩<|Af ?_
       refine BL (ι:=Nat×List Int×Int) (fun x=>⟨[(1,tP 1 0),(3,tO (.own 100000 1 x.2.1.length)),(7,tI x.2.2)],[(1,Z30 b),(100000,.row 1 x.2.1.length (Ak (fun x=>[.i x]) x.2.1) 3)]⟩) (fun x=>((b.Pours.length:Int)-x.2.2).toNat<x.1/\(0<=x.2.2/\(x.2.2<=(b.Pours.length:Int)\/x.2.2=0)/\(x.2.1.length:Int)<=(v3''.length:Int)+1*(x.2.2-0))/\Dl b v3 v4 v3' v5 v3'' v6 (A7 b n0) (Bf b v3 v4 (A7 b n0) n1) (Ca b v3 v4 v3' v5 (A7 b n0) (Bf b v3 v4 (A7 b n0) n1) n2) x.1 x.2.1 x.2.2=EW b) (fun x=>x.1) ?_ (((b.Pours.length:Int)-0).toNat+1,v3'',0) ⟨Nat.lt_succ_self _,⟨ax0,ax0,ax0⟩,(by rw [<- hF2];simp only [Ca,h3,cond_true,cond_false])⟩
       rintro ⟨n3,v3''',v7⟩ ⟨hn,hinv,hF⟩
       have hm3:=hn;have hinv3:=hinv;have hF3:=hF;try dsimp only at hm3 hinv3 hF3
       clear hn hinv hF
       cases n3 with
       | zero=>exact absurd hm3 (Nat.not_lt_zero _)
       | succ n3 =>
        refine AC<|AC ?_
        refine rn ⟨[(1,tP 1 0),(3,tO (.own 100000 1 v3'''.length)),(7,tI v7),(62,tB (decide ((v7:Int)<(b.Pours.length:Int))))],[(1,Z30 b),(100000,.row 1 v3'''.length (Ak (fun x=>[.i x]) v3''') 3)]⟩ ?_
        refine AY _ rfl (fun h4 => ?_) (fun h4 => ?_)
        ·have g4:=oT h4
         refine Ae<|AH ?_
         refine AC<|Af ?_
         refine rc [] [0<=(v7:Int)/\(v7:Int)<((b.Pours.length:Nat):Int),v3'''.length=v3'''.length,v3'''.length+1<=maxLen,(v3'''.length+1)*8<=140737488355328] ⟨[(1,tP 1 0),(3,tO (.own 73 1 (v3'''.length+1))),(7,tI v7)],[(1,Z30 b),(73,.row 1 (v3'''.length+1) (fun i_ j_=>if i_<v3'''.length then (Ak (fun x=>[.i x]) v3''') i_ j_ else (A8 1 1 [.i (NY b v7).Id]) (i_-v3'''.length) j_) 3)]⟩ .nil (.cons au0 (.cons rfl (.cons au3 (.cons au3 .nil))))<|BZ<|AH ?_
         refine Bq (Cv.trans (BS (⟨[(1,tP 1 0),(3,tO (.own 73 1 (v3'''++[(NY b v7).Id]).length)),(7,tI v7)],[(1,Z30 b),(73,Z36 v3''' b v7)]⟩) (.cons ⟨rfl,.refl _⟩ (.cons ⟨rfl,.av (.one (.own _ _ au2))⟩ lr)) (.cons ⟨rfl,.refl _⟩ (.cons ⟨rfl,Aw 3 (Bi (BR 1 (fun x=>[.i x]) v3''') (A3 (c:=(fun x=>[.i x])) (xs:=([(b.Pours.getD v7.toNat default).Id]:List Int)) rfl kr))⟩ .nil))) (Cv.refl _)) ?_
         refine rg ⟨[(1,tP 1 0),(3,tO (.own 73 1 (v3'''++[(NY b v7).Id]).length)),(7,tI (W64 (v7+1)))],[(1,Z30 b),(73,Z36 v3''' b v7)]⟩ ?_
         (try rw [(show W64 (v7+1)=v7+1 from Al (by omega) au9)])
         refine AH ?_
         refine ⟨(n3,v3'''++[(b.Pours.getD v7.toNat default).Id],v7+1),⟨?_,?_,(by rw [<- hF3];simp only [Dl,h4,cond_true,cond_false])⟩,Nat.lt_succ_self _,Cv.trans (vr 73 100000 (K:=[]) (fun k x h=>by cases h)) (A4 kr)⟩
         ·show ((b.Pours.length:Int)-(v7+1)).toNat<n3;omega
         ·exact ⟨ax0,ax0,ax0⟩
        ·have g4:=oF h4
         refine BP<|BE ?_
         refine BE<|BQ ?_
         refine AH<|AC<|AC ?_
         refine rn ⟨[(1,tP 1 0),(3,tO (.own 100000 1 v3'''.length)),(8,tI 0)],[(1,Z30 b),(100000,.row 1 v3'''.length (Ak (fun x=>[.i x]) v3''') 3)]⟩<|Af ?_
         refine BL (ι:=Nat×List Int×Int) (fun x=>⟨[(1,tP 1 0),(3,tO (.own 100000 1 x.2.1.length)),(8,tI x.2.2)],[(1,Z30 b),(100000,.row 1 x.2.1.length (Ak (fun x=>[.i x]) x.2.1) 3)]⟩) (fun x=>((b.Keeps.length:Int)-x.2.2).toNat<x.1/\(0<=x.2.2/\(x.2.2<=(b.Keeps.length:Int)\/x.2.2=0)/\(x.2.1.length:Int)<=(v3'''.length:Int)+1*(x.2.2-0))/\EP b v3 v4 v3' v5 v3'' v6 v3''' v7 (A7 b n0) (Bf b v3 v4 (A7 b n0) n1) (Ca b v3 v4 v3' v5 (A7 b n0) (Bf b v3 v4 (A7 b n0) n1) n2) (Dl b v3 v4 v3' v5 v3'' v6 (A7 b n0) (Bf b v3 v4 (A7 b n0) n1) (Ca b v3 v4 v3' v5 (A7 b n0) (Bf b v3 v4 (A7 b n0) n1) n2) n3) x.1 x.2.1 x.2.2=EW b) (fun x=>x.1) ?_ (((b.Keeps.length:Int)-0).toNat+1,v3''',0) ⟨Nat.lt_succ_self _,⟨ax0,ax0,ax0⟩,(by rw [<- hF3];simp only [Dl,h4,cond_true,cond_false])⟩
         rintro ⟨n4,v3'''',v8⟩ ⟨hn,hinv,hF⟩
         have hm4:=hn;have hinv4:=hinv;have hF4:=hF;try dsimp only at hm4 hinv4 hF4
         clear hn hinv hF
         cases n4 with
         | zero=>exact absurd hm4 (Nat.not_lt_zero _)
         | succ n4 =>
          refine AC<|AC ?_
          refine rn ⟨[(1,tP 1 0),(3,tO (.own 100000 1 v3''''.length)),(8,tI v8),(78,tB (decide ((v8:Int)<(b.Keeps.length:Int))))],[(1,Z30 b),(100000,.row 1 v3''''.length (Ak (fun x=>[.i x]) v3'''') 3)]⟩ ?_
          refine AY _ rfl (fun h5 => ?_) (fun h5 => ?_)
          ·have g5:=oT h5
           refine Ae<|AH ?_
           refine AC<|Af ?_
           refine rc [] [0<=(v8:Int)/\(v8:Int)<((b.Keeps.length:Nat):Int),v3''''.length=v3''''.length,v3''''.length+1<=maxLen,(v3''''.length+1)*8<=140737488355328] ⟨[(1,tP 1 0),(3,tO (.own 89 1 (v3''''.length+1))),(8,tI v8)],[(1,Z30 b),(89,.row 1 (v3''''.length+1) (fun i_ j_=>if i_<v3''''.length then (Ak (fun x=>[.i x]) v3'''') i_ j_ else (A8 1 1 [.i (Na b v8).Id]) (i_-v3''''.length) j_) 3)]⟩ .nil (.cons au0 (.cons rfl (.cons au3 (.cons au3 .nil))))<|BZ<|AH ?_
           refine Bq (Cv.trans (BS (⟨[(1,tP 1 0),(3,tO (.own 89 1 (v3''''++[(Na b v8).Id]).length)),(8,tI v8)],[(1,Z30 b),(89,Z37 v3'''' b v8)]⟩) (.cons ⟨rfl,.refl _⟩ (.cons ⟨rfl,.av (.one (.own _ _ au2))⟩ lr)) (.cons ⟨rfl,.refl _⟩ (.cons ⟨rfl,Aw 3 (Bi (BR 1 (fun x=>[.i x]) v3'''') (A3 (c:=(fun x=>[.i x])) (xs:=([(b.Keeps.getD v8.toNat default).Id]:List Int)) rfl kr))⟩ .nil))) (Cv.refl _)) ?_
           refine rg ⟨[(1,tP 1 0),(3,tO (.own 89 1 (v3''''++[(Na b v8).Id]).length)),(8,tI (W64 (v8+1)))],[(1,Z30 b),(89,Z37 v3'''' b v8)]⟩ ?_
           (try rw [(show W64 (v8+1)=v8+1 from Al (by omega) au9)])
           refine AH ?_
           refine ⟨(n4,v3''''++[(b.Keeps.getD v8.toNat default).Id],v8+1),⟨?_,?_,(by rw [<- hF4];simp only [EP,h5,cond_true,cond_false])⟩,Nat.lt_succ_self _,Cv.trans (vr 89 100000 (K:=[]) (fun k x h=>by cases h)) (A4 kr)⟩
           ·show ((b.Keeps.length:Int)-(v8+1)).toNat<n4;omega
           ·exact ⟨ax0,ax0,ax0⟩
          ·have g5:=oF h5
           refine BP<|BE ?_
           refine BE<|BQ ?_
           refine AH<|AC<|AC ?_
           refine rn ⟨[(1,tP 1 0),(3,tO (.own 100000 1 v3''''.length)),(9,tI 0)],[(1,Z30 b),(100000,.row 1 v3''''.length (Ak (fun x=>[.i x]) v3'''') 3)]⟩<|Af ?_
           refine BL (ι:=Nat×List Int×Int) (fun x=>⟨[(1,tP 1 0),(3,tO (.own 100000 1 x.2.1.length)),(9,tI x.2.2)],[(1,Z30 b),(100000,.row 1 x.2.1.length (Ak (fun x=>[.i x]) x.2.1) 3)]⟩) (fun x=>((b.Slots.length:Int)-x.2.2).toNat<x.1/\(0<=x.2.2/\(x.2.2<=(b.Slots.length:Int)\/x.2.2=0)/\(x.2.1.length:Int)<=(v3''''.length:Int)+1*(x.2.2-0))/\FM b v3 v4 v3' v5 v3'' v6 v3''' v7 v3'''' v8 (A7 b n0) (Bf b v3 v4 (A7 b n0) n1) (Ca b v3 v4 v3' v5 (A7 b n0) (Bf b v3 v4 (A7 b n0) n1) n2) (Dl b v3 v4 v3' v5 v3'' v6 (A7 b n0) (Bf b v3 v4 (A7 b n0) n1) (Ca b v3 v4 v3' v5 (A7 b n0) (Bf b v3 v4 (A7 b n0) n1) n2) n3) (EP b v3 v4 v3' v5 v3'' v6 v3''' v7 (A7 b n0) (Bf b v3 v4 (A7 b n0) n1) (Ca b v3 v4 v3' v5 (A7 b n0) (Bf b v3 v4 (A7 b n0) n1) n2) (Dl b v3 v4 v3' v5 v3'' v6 (A7 b n0) (Bf b v3 v4 (A7 b n0) n1) (Ca b v3 v4 v3' v5 (A7 b n0) (Bf b v3 v4 (A7 b n0) n1) n2) n3) n4) x.1 x.2.1 x.2.2=EW b) (fun x=>x.1) ?_ (((b.Slots.length:Int)-0).toNat+1,v3'''',0) ⟨Nat.lt_succ_self _,⟨ax0,ax0,ax0⟩,(by rw [<- hF4];simp only [EP,h5,cond_true,cond_false])⟩
           rintro ⟨n5,v3''''',v9⟩ ⟨hn,hinv,hF⟩
           have hm5:=hn;have hinv5:=hinv;have hF5:=hF;try dsimp only at hm5 hinv5 hF5
           clear hn hinv hF
           cases n5 with
           | zero=>exact absurd hm5 (Nat.not_lt_zero _)
           | succ n5 =>
            refine AC<|AC ?_
            refine rn ⟨[(1,tP 1 0),(3,tO (.own 100000 1 v3'''''.length)),(9,tI v9),(94,tB (decide ((v9:Int)<(b.Slots.length:Int))))],[(1,Z30 b),(100000,.row 1 v3'''''.length (Ak (fun x=>[.i x]) v3''''') 3)]⟩ ?_
            refine AY _ rfl (fun h6 => ?_) (fun h6 => ?_)
            ·have g6:=oT h6
             refine Ae<|AH ?_
             refine AC<|Af ?_
             refine rc [] [0<=(v9:Int)/\(v9:Int)<((b.Slots.length:Nat):Int),v3'''''.length=v3'''''.length,v3'''''.length+1<=maxLen,(v3'''''.length+1)*8<=140737488355328] ⟨[(1,tP 1 0),(3,tO (.own 105 1 (v3'''''.length+1))),(9,tI v9)],[(1,Z30 b),(105,.row 1 (v3'''''.length+1) (fun i_ j_=>if i_<v3'''''.length then (Ak (fun x=>[.i x]) v3''''') i_ j_ else (A8 1 1 [.i (NX b v9).Id]) (i_-v3'''''.length) j_) 3)]⟩ .nil (.cons au0 (.cons rfl (.cons au3 (.cons au3 .nil))))<|BZ<|AH ?_
             refine Bq (Cv.trans (BS (⟨[(1,tP 1 0),(3,tO (.own 105 1 (v3'''''++[(NX b v9).Id]).length)),(9,tI v9)],[(1,Z30 b),(105,Z38 v3''''' b v9)]⟩) (.cons ⟨rfl,.refl _⟩ (.cons ⟨rfl,.av (.one (.own _ _ au2))⟩ lr)) (.cons ⟨rfl,.refl _⟩ (.cons ⟨rfl,Aw 3 (Bi (BR 1 (fun x=>[.i x]) v3''''') (A3 (c:=(fun x=>[.i x])) (xs:=([(b.Slots.getD v9.toNat default).Id]:List Int)) rfl kr))⟩ .nil))) (Cv.refl _)) ?_
             refine rg ⟨[(1,tP 1 0),(3,tO (.own 105 1 (v3'''''++[(NX b v9).Id]).length)),(9,tI (W64 (v9+1)))],[(1,Z30 b),(105,Z38 v3''''' b v9)]⟩ ?_
             (try rw [(show W64 (v9+1)=v9+1 from Al (by omega) au9)])
             refine AH ?_
             refine ⟨(n5,v3'''''++[(b.Slots.getD v9.toNat default).Id],v9+1),⟨?_,?_,(by rw [<- hF5];simp only [FM,h6,cond_true,cond_false])⟩,Nat.lt_succ_self _,Cv.trans (vr 105 100000 (K:=[]) (fun k x h=>by cases h)) (A4 kr)⟩
             ·show ((b.Slots.length:Int)-(v9+1)).toNat<n5;omega
             ·exact ⟨ax0,ax0,ax0⟩
            ·have g6:=oF h6
             refine BP<|BE ?_
             refine BE<|BQ ?_
             refine AH<|AC ?_
             refine rn ⟨[(2,tO (.own 100000 1 v3'''''.length))],[(100000,.row 1 v3'''''.length (Ak (fun x=>[.i x]) v3''''') 3)]⟩<|AZ ?_
             exact ⟨_,Cv.trans (vf 100000 1 v3'''''.length (Ak (fun x=>[.i x]) v3''''') 3 (K:=[]) (fun k x h=>by cases h) (.cons ⟨rfl,rfl⟩ .nil)) (Cv.refl _),.inl rfl,tO (lst 1 (fun x=>[.i x]) v3'''''),by kernel_rfl,Ad (by rw [<- hF5];first | (simp only [FM,h6,cond_true,cond_false] <;> rfl))⟩
theorem cX (b:AF) (h0:(b.Parts.length:Int)<=1000000) (h1:(b.Tracks.length:Int)<=1000000) (h2:(b.Vias.length:Int)<=1000000) (h3:(b.Pours.length:Int)<=1000000) (h4:(b.Keeps.length:Int)<=1000000) (h5:(b.Slots.length:Int)<=1000000):Aq Tryz.prog (Oy b).1 (Oy b).2.1 (Oy b).2.2:=AR (fun _ _=>kr) fun _=>iD b h0 h1 h2 h3 h4 h5
theorem Zc (b:AF) (v3:List Int) (v4:Int) (v3':List Int) (v5:Int) (v3'':List Int) (v6:Int) (v3''':List Int) (v7:Int) (v3'''':List Int) (v8:Int) (K0:List Int->Int->List Int) (K1:List Int->Int->List Int) (K2:List Int->Int->List Int) (K3:List Int->Int->List Int) (K4:List Int->Int->List Int):∀ (n:Nat) (v:List Int) (i:Int),0<=i->i<=b.Slots.length->((b.Slots.length:Int)-i).toNat<n->((FM b v3 v4 v3' v5 v3'' v6 v3''' v7 v3'''' v8 K0 K1 K2 K3 K4 n v i).length:Int)=v.length+((b.Slots.length:Int)-i)
 | 0,v,i,h0,h1,h2=>absurd h2 (Nat.not_lt_zero _)
 | n+1,v,i,h0,h1,h2=>by
  unfold FM
  by_cases h:i<(b.Slots.length:Int)
  ·simp only [h,decide_true,cond_true]
   have:=Zc b v3 v4 v3' v5 v3'' v6 v3''' v7 v3'''' v8 K0 K1 K2 K3 K4 n (v++[(b.Slots.getD i.toNat default).Id]) (i+1) (by omega) (by omega) (by omega)
   rw [this]
   simp only [List.length_append,List.length_cons,List.length_nil]
   omega
  ·simp only [h,decide_false,cond_false]
   omega
theorem Zd (b:AF) (v3:List Int) (v4:Int) (v3':List Int) (v5:Int) (v3'':List Int) (v6:Int) (v3''':List Int) (v7:Int) (K0:List Int->Int->List Int) (K1:List Int->Int->List Int) (K2:List Int->Int->List Int) (K3:List Int->Int->List Int):∀ (n:Nat) (v:List Int) (i:Int),0<=i->i<=b.Keeps.length->((b.Keeps.length:Int)-i).toNat<n->((EP b v3 v4 v3' v5 v3'' v6 v3''' v7 K0 K1 K2 K3 n v i).length:Int)=v.length+((b.Keeps.length:Int)-i)+(b.Slots.length:Int)
 | 0,v,i,h0,h1,h2=>absurd h2 (Nat.not_lt_zero _)
 | n+1,v,i,h0,h1,h2=>by
  unfold EP
  by_cases h:i<(b.Keeps.length:Int)
  ·simp only [h,decide_true,cond_true]
   have:=Zd b v3 v4 v3' v5 v3'' v6 v3''' v7 K0 K1 K2 K3 n (v++[(b.Keeps.getD i.toNat default).Id]) (i+1) (by omega) (by omega) (by omega)
   rw [this]
   simp only [List.length_append,List.length_cons,List.length_nil]
   omega
  ·simp only [h,decide_false,cond_false]
   rw [Zc _ _ _ _ _ _ _ _ _ _ _ _ _ _ _ _ _ v 0 (by omega) (by omega) (by omega)]
   omega
theorem Ze (b:AF) (v3:List Int) (v4:Int) (v3':List Int) (v5:Int) (v3'':List Int) (v6:Int) (K0:List Int->Int->List Int) (K1:List Int->Int->List Int) (K2:List Int->Int->List Int):∀ (n:Nat) (v:List Int) (i:Int),0<=i->i<=b.Pours.length->((b.Pours.length:Int)-i).toNat<n->((Dl b v3 v4 v3' v5 v3'' v6 K0 K1 K2 n v i).length:Int)=v.length+((b.Pours.length:Int)-i)+(b.Keeps.length:Int)+(b.Slots.length:Int)
 | 0,v,i,h0,h1,h2=>absurd h2 (Nat.not_lt_zero _)
 | n+1,v,i,h0,h1,h2=>by
  unfold Dl
  by_cases h:i<(b.Pours.length:Int)
  ·simp only [h,decide_true,cond_true]
   have:=Ze b v3 v4 v3' v5 v3'' v6 K0 K1 K2 n (v++[(b.Pours.getD i.toNat default).Id]) (i+1) (by omega) (by omega) (by omega)
   rw [this]
   simp only [List.length_append,List.length_cons,List.length_nil]
   omega
  ·simp only [h,decide_false,cond_false]
   rw [Zd _ _ _ _ _ _ _ _ _ _ _ _ _ _ v 0 (by omega) (by omega) (by omega)]
   omega
theorem Zf (b:AF) (v3:List Int) (v4:Int) (v3':List Int) (v5:Int) (K0:List Int->Int->List Int) (K1:List Int->Int->List Int):∀ (n:Nat) (v:List Int) (i:Int),0<=i->i<=b.Vias.length->((b.Vias.length:Int)-i).toNat<n->((Ca b v3 v4 v3' v5 K0 K1 n v i).length:Int)=v.length+((b.Vias.length:Int)-i)+(b.Pours.length:Int)+(b.Keeps.length:Int)+(b.Slots.length:Int)
 | 0,v,i,h0,h1,h2=>absurd h2 (Nat.not_lt_zero _)
 | n+1,v,i,h0,h1,h2=>by
  unfold Ca
  by_cases h:i<(b.Vias.length:Int)
  ·simp only [h,decide_true,cond_true]
   have:=Zf b v3 v4 v3' v5 K0 K1 n (v++[(b.Vias.getD i.toNat default).Id]) (i+1) (by omega) (by omega) (by omega)
   rw [this]
   simp only [List.length_append,List.length_cons,List.length_nil]
   omega
  ·simp only [h,decide_false,cond_false]
   rw [Ze _ _ _ _ _ _ _ _ _ _ _ v 0 (by omega) (by omega) (by omega)]
   omega
theorem Zg (b:AF) (v3:List Int) (v4:Int) (K0:List Int->Int->List Int):∀ (n:Nat) (v:List Int) (i:Int),0<=i->i<=b.Tracks.length->((b.Tracks.length:Int)-i).toNat<n->((Bf b v3 v4 K0 n v i).length:Int)=v.length+((b.Tracks.length:Int)-i)+(b.Vias.length:Int)+(b.Pours.length:Int)+(b.Keeps.length:Int)+(b.Slots.length:Int)
 | 0,v,i,h0,h1,h2=>absurd h2 (Nat.not_lt_zero _)
 | n+1,v,i,h0,h1,h2=>by
  unfold Bf
  by_cases h:i<(b.Tracks.length:Int)
  ·simp only [h,decide_true,cond_true]
   have:=Zg b v3 v4 K0 n (v++[(b.Tracks.getD i.toNat default).Id]) (i+1) (by omega) (by omega) (by omega)
   rw [this]
   simp only [List.length_append,List.length_cons,List.length_nil]
   omega
  ·simp only [h,decide_false,cond_false]
   rw [Zf _ _ _ _ _ _ _ _ v 0 (by omega) (by omega) (by omega)]
   omega
theorem Zh (b:AF)   : ∀ (n:Nat) (v:List Int) (i:Int),0<=i->i<=b.Parts.length->((b.Parts.length:Int)-i).toNat<n->((A7 b n v i).length:Int)=v.length+((b.Parts.length:Int)-i)+(b.Tracks.length:Int)+(b.Vias.length:Int)+(b.Pours.length:Int)+(b.Keeps.length:Int)+(b.Slots.length:Int)
 | 0,v,i,h0,h1,h2=>absurd h2 (Nat.not_lt_zero _)
 | n+1,v,i,h0,h1,h2=>by
  unfold A7
  by_cases h:i<(b.Parts.length:Int)
  ·simp only [h,decide_true,cond_true]
   have:=Zh b n (v++[(b.Parts.getD i.toNat default).Id]) (i+1) (by omega) (by omega) (by omega)
   rw [this]
   simp only [List.length_append,List.length_cons,List.length_nil]
   omega
  ·simp only [h,decide_false,cond_false]
   rw [Zg _ _ _ _ _ v 0 (by omega) (by omega) (by omega)]
   omega
theorem V6 (b:AF):((EW b).length:Int)=(b.Parts.length:Int)+(b.Tracks.length:Int)+(b.Vias.length:Int)+(b.Pours.length:Int)+(b.Keeps.length:Int)+(b.Slots.length:Int):=by
 unfold EW
 rw [Zh b _ _ 0 (by omega) (by omega) (by omega)]
 simp only [List.length_nil]
 omega
end
section
open Go.RowKit
theorem S7 {b:AF} (d:AD) (hp:1<=(b.Parts.length:Int)) (h0:(b.Parts.length:Int)<=1000000) (h1:(b.Tracks.length:Int)<=1000000) (h2:(b.Vias.length:Int)<=1000000) (h3:(b.Pours.length:Int)<=1000000) (h4:(b.Keeps.length:Int)<=1000000) (h5:(b.Slots.length:Int)<=1000000):0<=(AA d ((EW b).length:Int)).1/\(AA d ((EW b).length:Int)).1<((EW b).length:Int):=by
 have hq:=V6 b
 exact JG _ _ _ (by omega) (by omega) (by omega)
theorem jK {b:AF} (hp:1<=(b.Parts.length:Int)):((EW b).length:Int)≠0:=by
 have hq:=V6 b
 omega
theorem dY {α:Type} {c:Bool} {a b:List α} {k n:Nat} (ha:a.length+k<=n) (hb:b.length+k<=n):(bif c then a else b).length+k<=n:=by cases c <;> assumption
theorem ZN {α:Type} {c:Bool} {a b:List α} {k n m:Nat} (ha:(a.length+k)*m<=n) (hb:(b.length+k)*m<=n):((bif c then a else b).length+k)*m<=n:=by cases c <;> assumption
def Z39 (d:AD):FuncId×List Av×Ef:=(48,([.one (.ptr 1000 0),.one (.i 10)]:List Av).map (Bh 1000 1001),wrI 1001 (G2 d) (tI (AA d 10).1) (.cells (AD.c (AA d 10).2) 146))
abbrev Ej (d:AD):=AA (AA d 10).2 8
def Z3a (d:AD):FuncId×List Av×Ef:=(48,([.one (.ptr 1000 0),.one (.i 8)]:List Av).map (Bh 1000 1001),wrI 1001 (.cells (AD.c (AA d 10).2) 146) (tI (Ej d).1) (.cells (AD.c (Ej d).2) 146))
def Z3b (d:AD):Blk:=.cells (AD.c (Ej d).2) 146
def Z3c (d:AD):Blk:=.row 20 ([A5.mk ({ data := #[99,49] }:ByteArray) 1 1 AJ AJ (W64 (3+(AA d 10).1)),A5.mk ({ data := #[101,49] }:ByteArray) 1 3 AJ AJ (W64 (2+(Ej d).1))].length) (Ak A5.c [A5.mk ({ data := #[99,49] }:ByteArray) 1 1 AJ AJ (W64 (3+(AA d 10).1)),A5.mk ({ data := #[101,49] }:ByteArray) 1 3 AJ AJ (W64 (2+(Ej d).1))]) 109
def Z3d (b:AF) (d:AD):Blk:=.cells (A6 b (CL b [vN,.own 18 20 ([A5.mk ({ data := #[99,49] }:ByteArray) 1 1 AJ AJ (W64 (3+(AA d 10).1)),A5.mk ({ data := #[101,49] }:ByteArray) 1 3 AJ AJ (W64 (2+(Ej d).1))].length),vN,vN])) 40
def Z3e (d:AD):FuncId×List Av×Ef:=(48,(HC:List Av).map (Bh 1000 1001),wrI 1001 (.cells (AD.c (Ej d).2) 146) (tI (AA (Ej d).2 2).1) (.cells (AD.c (AA (Ej d).2 2).2) 146))
abbrev Z3f (d:AD):AD:=(AA (AA (AA d 10).2 8).2 2).2
def Z3g (d:AD):FuncId×List Av×Ef:=(48,(KE:List Av).map (Bh 1000 1001),wrI 1001 (.cells (AD.c (Z3f d)) 146) (tI (AA (Z3f d) 5).1) (.cells (AD.c (AA (Z3f d) 5).2) 146))
abbrev J7 (d:AD):=AA (AA (Z3f d) 5).2 4
def Z3h (d:AD):FuncId×List Av×Ef:=(48,(Jh:List Av).map (Bh 1000 1001),wrI 1001 (.cells (AD.c (AA (Z3f d) 5).2) 146) (tI (J7 d).1) (.cells (AD.c (J7 d).2) 146))
def Z3i (d:AD):Blk:=.cells (AD.c (J7 d).2) 146
def Z3j (d:AD):Blk:=.row 20 ([A5.mk ({ data := #[99,49] }:ByteArray) 1 1 AJ AJ (W64 (3+(AA d 10).1)),A5.mk ({ data := #[101,49] }:ByteArray) 1 3 AJ AJ (W64 (2+(Ej d).1))]++[A5.mk ({ data := #[119,49] }:ByteArray) 1 2 AJ AJ (W64 (6+(AA (Z3f d) 5).1)),A5.mk ({ data := #[114,49] }:ByteArray) 1 4 AJ AJ (W64 (2+(J7 d).1))]).length (Ak A5.c ([A5.mk ({ data := #[99,49] }:ByteArray) 1 1 AJ AJ (W64 (3+(AA d 10).1)),A5.mk ({ data := #[101,49] }:ByteArray) 1 3 AJ AJ (W64 (2+(Ej d).1))]++[A5.mk ({ data := #[119,49] }:ByteArray) 1 2 AJ AJ (W64 (6+(AA (Z3f d) 5).1)),A5.mk ({ data := #[114,49] }:ByteArray) 1 4 AJ AJ (W64 (2+(J7 d).1))])) 109
def Z3k (b:AF) (d:AD):Blk:=.cells (A6 b (CL b [vN,.own 100000 20 ([A5.mk ({ data := #[99,49] }:ByteArray) 1 1 AJ AJ (W64 (3+(AA d 10).1)),A5.mk ({ data := #[101,49] }:ByteArray) 1 3 AJ AJ (W64 (2+(Ej d).1))]++[A5.mk ({ data := #[119,49] }:ByteArray) 1 2 AJ AJ (W64 (6+(AA (Z3f d) 5).1)),A5.mk ({ data := #[114,49] }:ByteArray) 1 4 AJ AJ (W64 (2+(J7 d).1))]).length,vN,vN])) 40
def Z3l (b:AF) (d:AD):Blk:=.cells (A6 b (CL b [vN,.own 100000 20 ([A5.mk ({ data := #[99,49] }:ByteArray) 1 1 AJ AJ (W64 (3+(AA d 10).1)),A5.mk ({ data := #[101,49] }:ByteArray) 1 3 AJ AJ (W64 (2+(Ej d).1))].length),vN,vN])) 40
abbrev Z3m (d:AD):AD:=bif decide (((AA (AA (AA d 10).2 8).2 2).1:Int)=1) then (AA (AA (Z3f d) 5).2 4).2 else (Z3f d)
def Z3n (d:AD):(List A5):=bif decide (((AA (AA (AA d 10).2 8).2 2).1:Int)=1) then ([A5.mk ({ data := #[99,49] }:ByteArray) 1 1 AJ AJ (W64 (3+(AA d 10).1)),A5.mk ({ data := #[101,49] }:ByteArray) 1 3 AJ AJ (W64 (2+(AA (AA d 10).2 8).1))]++[A5.mk ({ data := #[119,49] }:ByteArray) 1 2 AJ AJ (W64 (6+(AA (Z3f d) 5).1)),A5.mk ({ data := #[114,49] }:ByteArray) 1 4 AJ AJ (W64 (2+(AA (AA (Z3f d) 5).2 4).1))]) else [A5.mk ({ data := #[99,49] }:ByteArray) 1 1 AJ AJ (W64 (3+(AA d 10).1)),A5.mk ({ data := #[101,49] }:ByteArray) 1 3 AJ AJ (W64 (2+(AA (AA d 10).2 8).1))]
def Z3o (d:AD):FuncId×List Av×Ef:=(48,(HC:List Av).map (Bh 1000 1001),wrI 1001 (.cells (AD.c (Z3m d)) 146) (tI (AA (Z3m d) 2).1) (.cells (AD.c (AA (Z3m d) 2).2) 146))
def Z3p (b:AF) (d:AD):Blk:=.cells (A6 b (CL b [vN,.own 100000 20 (Z3n d).length,vN,vN])) 40
def Z3q (d:AD):Blk:=.cells (AD.c (AA (Z3m d) 2).2) 146
def Z3r (d:AD):Blk:=.row 20 (Z3n d).length (Ak A5.c (Z3n d)) 109
abbrev Ij (d:AD):=AA (AA (Z3m d) 2).2 2
def Z3s (d:AD):FuncId×List Av×Ef:=(48,(HC:List Av).map (Bh 1000 1001),wrI 1001 (.cells (AD.c (AA (Z3m d) 2).2) 146) (tI (Ij d).1) (.cells (AD.c (Ij d).2) 146))
def Z3t (d:AD):FuncId×List Av×Ef:=(94,([.one (.ptr 1000 0)]:List Av).map (Bh 1000 1001),wrI 1001 (.cells (AD.c (Ij d).2) 146) (.av (.agg (ER.c (BB (Ij d).2).1))) (.cells (AD.c (BB (Ij d).2).2) 146))
abbrev Z3u (d:AD):AD:=(BB (AA (AA (Z3m d) 2).2 2).2).2
def Z3v (d:AD):ER:=(BB (AA (AA (Z3m d) 2).2 2).2).1
def Z3w (d:AD):FuncId×List Av×Ef:=(94,([.one (.ptr 1000 0)]:List Av).map (Bh 1000 1001),wrI 1001 (.cells (AD.c (Z3u d)) 146) (.av (.agg (ER.c (BB (Z3u d)).1))) (.cells (AD.c (BB (Z3u d)).2) 146))
abbrev Lg (d:AD):=AA (BB (Z3u d)).2 14
def Z3x (d:AD):FuncId×List Av×Ef:=(48,([.one (.ptr 1000 0),.one (.i 14)]:List Av).map (Bh 1000 1001),wrI 1001 (.cells (AD.c (BB (Z3u d)).2) 146) (tI (Lg d).1) (.cells (AD.c (Lg d).2) 146))
abbrev Z3y (d:AD):AD:=(AA (BB (Z3u d)).2 14).2
def Z3z (d:AD):Blk:=.row 20 ((Z3n d)++[A5.mk ({ data := #[99,50] }:ByteArray) (W64 (1+(Ij d).1)) 1 (Z3v d) (BB (Z3u d)).1 (W64 (1+(Lg d).1))]).length (Ak A5.c ((Z3n d)++[A5.mk ({ data := #[99,50] }:ByteArray) (W64 (1+(Ij d).1)) 1 (Z3v d) (BB (Z3u d)).1 (W64 (1+(Lg d).1))])) 109
def Z3A (b:AF) (d:AD):Blk:=.cells (A6 b (CL b [vN,.own 100001 20 ((Z3n d)++[A5.mk ({ data := #[99,50] }:ByteArray) (W64 (1+(Ij d).1)) 1 (Z3v d) (BB (Z3u d)).1 (W64 (1+(Lg d).1))]).length,vN,vN])) 40
abbrev Z3B (d:AD):AD:=bif decide (((AA (Z3m d) 2).1:Int)=1) then (Z3y d) else (AA (Z3m d) 2).2
def Z3C (d:AD):(List A5):=bif decide (((AA (Z3m d) 2).1:Int)=1) then ((Z3n d)++[A5.mk ({ data := #[99,50] }:ByteArray) (W64 (1+(AA (AA (Z3m d) 2).2 2).1)) 1 (Z3v d) (BB (Z3u d)).1 (W64 (1+(AA (BB (Z3u d)).2 14).1))]) else (Z3n d)
def Z3D (d:AD):FuncId×List Av×Ef:=(48,(Ep:List Av).map (Bh 1000 1001),wrI 1001 (.cells (AD.c (Z3B d)) 146) (tI (AA (Z3B d) 3).1) (.cells (AD.c (AA (Z3B d) 3).2) 146))
def Z3E (b:AF) (d:AD):Blk:=.cells (A6 b (CL b [vN,.own 100001 20 (Z3C d).length,vN,vN])) 40
def Z3F (d:AD):Blk:=.cells (AD.c (AA (Z3B d) 3).2) 146
def Z3G (d:AD):Blk:=.row 20 (Z3C d).length (Ak A5.c (Z3C d)) 109
def Z3H (d:AD):(List B5):=bif decide (((AA (Z3B d) 3).1:Int)=0) then [B5.mk ({ data := #[112,111,119,101,114] }:ByteArray) [({ data := #[71,78,68] }:ByteArray)]] else []
def Z3I (d:AD):FuncId×List Av×Ef:=(48,(Jh:List Av).map (Bh 1000 1001),wrI 1001 (.cells (AD.c (AA (Z3B d) 3).2) 146) (tI (AA (AA (Z3B d) 3).2 4).1) (.cells (AD.c (AA (AA (Z3B d) 3).2 4).2) 146))
abbrev Z3J (d:AD):AD:=(AA (AA (Z3B d) 3).2 4).2
def Z3K (b:AF) (d:AD):Blk:=.cells (A6 b (CL b [lst 2 B5.c (Z3H d),.own 100001 20 (Z3C d).length,vN,vN])) 40
def Z3L (b:AF):(List Int):=EW (AF.mk b.Layers (AW.mk 0 [] 0) b.Parts [] b.Tracks b.Vias b.Pours b.Keeps b.Slots [] [] [] [])
def Z3M (b:AF) (d:AD):FuncId×List Av×Ef:=(48,([.one (.ptr 1000 0),.one (.i ((Z3L b).length:Int))]:List Av).map (Bh 1000 1001),wrI 1001 (.cells (AD.c (Z3J d)) 146) (tI (AA (Z3J d) ((Z3L b).length:Int)).1) (.cells (AD.c (AA (Z3J d) ((Z3L b).length:Int)).2) 146))
abbrev Z3N (d:AD) (b:AF):AD:=(AA (Z3J d) ((Z3L b).length:Int)).2
def Z3O (b:AF) (d:AD):FuncId×List Av×Ef:=(48,([.one (.ptr 1000 0),.one (.i ((Z3L b).length:Int))]:List Av).map (Bh 1000 1001),wrI 1001 (.cells (AD.c (Z3N d b)) 146) (tI (AA (Z3N d b) ((Z3L b).length:Int)).1) (.cells (AD.c (AA (Z3N d b) ((Z3L b).length:Int)).2) 146))
abbrev Z3P (d:AD) (b:AF):AD:=(AA (Z3N d b) ((Z3L b).length:Int)).2
abbrev Z3Q (d:AD) (b:AF):AD:=bif decide (((AA (AA (Z3B d) 3).2 4).1:Int)=0) then (Z3P d b) else (Z3J d)
def Z3R (d:AD) (b:AF):(List B1):=bif decide (((AA (AA (Z3B d) 3).2 4).1:Int)=0) then [B1.mk ((Z3L b).getD (AA (Z3J d) ((Z3L b).length:Int)).1.toNat default) ((Z3L b).getD (AA (Z3N d b) ((Z3L b).length:Int)).1.toNat default) ({ data := #[99,49] }:ByteArray)] else []
def Z3S (d:AD) (b:AF):FuncId×List Av×Ef:=(48,(Jh:List Av).map (Bh 1000 1001),wrI 1001 (.cells (AD.c (Z3Q d b)) 146) (tI (AA (Z3Q d b) 4).1) (.cells (AD.c (AA (Z3Q d b) 4).2) 146))
def Z3T (d:AD) (b:AF):FuncId×List Av×Ef:=(48,([.one (.ptr 1000 0),.one (.i 8)]:List Av).map (Bh 1000 1001),wrI 1001 (.cells (AD.c (AA (Z3Q d b) 4).2) 146) (tI (AA (AA (Z3Q d b) 4).2 8).1) (.cells (AD.c (AA (AA (Z3Q d b) 4).2 8).2) 146))
abbrev Z3U (d:AD) (b:AF):AD:=(AA (AA (Z3Q d b) 4).2 8).2
def DN (b:AF) (d:AD):(AF×AD):=bif decide (((AA (Z3Q d b) 4).1:Int)=0) then (AF.mk b.Layers b.Outline b.Parts b.Nets b.Tracks b.Vias b.Pours b.Keeps b.Slots (Z3H d) (Z3C d) (Z3R d b) [Di.mk ({ data := #[109,49] }:ByteArray) [({ data := #[78,49] }:ByteArray),({ data := #[78,50] }:ByteArray)] (W64 (10*(AA (AA (Z3Q d b) 4).2 8).1))],Z3U d b) else (AF.mk b.Layers b.Outline b.Parts b.Nets b.Tracks b.Vias b.Pours b.Keeps b.Slots (Z3H d) (Z3C d) (Z3R d b) [],(AA (Z3Q d b) 4).2)
abbrev QV (d:AD):Nat×Blk:=(1001,.cells (AD.c (Z3J d)) 146)
theorem au5 {p:Prop} (h:p:=by repeat (first | with_reducible assumption | exact CX (DH hll _) | with_reducible refine BI ?_ | with_reducible refine EU ?_ | with_reducible refine DY ?_ | with_reducible refine XU ?_  | with_reducible refine Ce ?_ ?_)):p:=h
theorem au8 {p:Prop} (h:p:=by first | decide | omega | exact jK (b:=AF.mk b.Layers (AW.mk 0 [] 0) b.Parts [] b.Tracks b.Vias b.Pours b.Keeps b.Slots [] [] [] []) hi | (simp only [Ci];omega)):p:=h
theorem au19 {p:Prop} (h:p:=by first | (simp only [List.length_append,List.length_cons,List.length_nil];decide) | exact dY (by simp only [List.length_append,List.length_cons,List.length_nil];decide) (by simp only [List.length_append,List.length_cons,List.length_nil];decide) | exact ZN (by simp only [List.length_append,List.length_cons,List.length_nil];decide) (by simp only [List.length_append,List.length_cons,List.length_nil];decide) | (unfold maxLen;omega) | (simp only [dD,dC,dB];omega)):p:=h
set_option maxHeartbeats 2000000 in
theorem Yf  (b:AF) (d:AD) (hd:Ba d) (h0:(b.Parts.length:Int)<=1000000) (h1:(b.Tracks.length:Int)<=1000000) (h2:(b.Vias.length:Int)<=1000000) (h3:(b.Pours.length:Int)<=1000000) (h4:(b.Keeps.length:Int)<=1000000) (h5:(b.Slots.length:Int)<=1000000) (hi:1<=(b.Parts.length:Int)):Wr2 Tryz.prog 51 1000 1001 [.one (.ptr 1000 0),.one (.ptr 1001 0)] (.cells [.i b.Layers,.i b.Outline.Kind,lst 7 AE.c b.Outline.Edges,.i b.Outline.R,lst 7 AG.c b.Parts,lst 2 BO.c b.Nets,lst 6 Az.c b.Tracks,lst 8 CG.c b.Vias,lst 8 Bk.c b.Pours,lst 5 Cs.c b.Keeps,lst 4 Dh.c b.Slots,vN,vN,vN,vN] 40) (.cells (AD.c d) 146) (.tup []) (.cells (AF.c (DN b d).1) 40) (.cells (AD.c (DN b d).2) 146):=by
 refine Nv Tryz.func51 rfl kr kr kr rfl kr kr kr fun W0 M0 X hX => ?_
 refine AC ?_
 refine DF D3 [18] [] [(6,Bw),(7,Bw),(9,(Z39 d)),(12,Bw),(13,Bw),(15,(Z3a d))] [0,1] [18,1000,1001] [Ap Bw.2.1,Ap Bw.2.1,Ap (Z39 d).2.1,Bo (G2 d),Ap Bw.2.1,Ap Bw.2.1,Ap (Z3a d).2.1,Bo (.cells (AD.c (AA d 10).2) 146)] ⟨D4,[(18,.row 20 2 (A8 20 2 [.s ({ data := #[99,49] }:ByteArray),.i 1,.i 1,.i AJ.Op,.s AJ.Text,.i AJ.N,.i AJ.Box.X0,.i AJ.Box.Y0,.i AJ.Box.X1,.i AJ.Box.Y1,opL AJ.L,.i AJ.Op,.s AJ.Text,.i AJ.N,.i AJ.Box.X0,.i AJ.Box.Y0,.i AJ.Box.X1,.i AJ.Box.Y1,opL AJ.L,.i (W64 (3+(AA d 10).1)),.s ({ data := #[101,49] }:ByteArray),.i 1,.i 3,.i AJ.Op,.s AJ.Text,.i AJ.N,.i AJ.Box.X0,.i AJ.Box.Y0,.i AJ.Box.X1,.i AJ.Box.Y1,opL AJ.L,.i AJ.Op,.s AJ.Text,.i AJ.N,.i AJ.Box.X0,.i AJ.Box.Y0,.i AJ.Box.X1,.i AJ.Box.Y1,opL AJ.L,.i (W64 (2+(AA (AA d 10).2 8).1))]) 109),(1000,.cells (A6 b (CL b [vN,.own 18 20 2,vN,vN])) 40),(1001,Z3b d)]⟩ (.cons EA (.cons EA (.cons (Ag (fun _ _=>kr) kr kr (BJ d 10 au5 au8)) (.cons EA (.cons EA (.cons (Ag (fun _ _=>kr) kr kr (BJ (AA d 10).2 8 au5 au8)) .nil)))))) kr (.cons rfl (.cons rfl (.cons rfl (.cons rfl (.cons rfl (.cons rfl (.cons rfl (.cons rfl .nil))))))))<|AH ?_
 refine Bq (Cv.trans (BS (⟨D4,[(18,Z3c d),(1000,Z3d b d),(1001,Z3b d)]⟩) lr (.cons ⟨rfl,Aw 109 (A3 (c:=A5.c) (xs:=([A5.mk ({ data := #[99,49] }:ByteArray) 1 1 AJ AJ (W64 (3+(AA d 10).1)),A5.mk ({ data := #[101,49] }:ByteArray) 1 3 AJ AJ (W64 (2+(AA (AA d 10).2 8).1))]:List A5)) rfl kr)⟩ (.cons ⟨rfl,.cells _ (rr (rr (rr (rr (rr (rr (rr (rr (rr (rr (rr (rr (.cons (.own _ _ au2) (rr (rr .nil)))))))))))))))⟩ lr))) (Cv.refl _))<|AC<|AC ?_
 refine rb 22 (Z3e d) (.cells (AD.c (AA (AA d 10).2 8).2) 146) ⟨[(0,tP 1000 0),(1,tP 1001 0),(23,tB (decide (((AA (Ej d).2 2).1:Int)=1)))],[(18,Z3c d),(1000,Z3d b d),(1001,.cells (AD.c (Z3f d)) 146)]⟩ (Ag (fun _ _=>kr) kr kr (BJ (AA (AA d 10).2 8).2 2 au5 au8))<|AH ?_
 refine Bc (⟨D4,[(1000,.cells (A6 b (CL b [vN,.own 100000 20 (Z3n d).length,vN,vN])) 40),(1001,.cells (AD.c (Z3m d)) 146),(100000,.row 20 (Z3n d).length (Ak A5.c (Z3n d)) 109)]⟩) ?_ ?_
 ·refine AY _ rfl (fun h1 => ?_) (fun h1 => ?_)
  ·have g1:=oT h1
   refine dw [] [(29,Bw),(30,Bw),(32,(Z3g d)),(35,Bw),(36,Bw),(38,(Z3h d))] [Ap Bw.2.1,Ap Bw.2.1,Ap (Z3g d).2.1,Bo (.cells (AD.c (Z3f d)) 146),Ap Bw.2.1,Ap Bw.2.1,Ap (Z3h d).2.1,Bo (.cells (AD.c (AA (Z3f d) 5).2) 146),[A5.mk ({ data := #[99,49] }:ByteArray) 1 1 AJ AJ (W64 (3+(AA d 10).1)),A5.mk ({ data := #[101,49] }:ByteArray) 1 3 AJ AJ (W64 (2+(AA (AA d 10).2 8).1))].length=[A5.mk ({ data := #[99,49] }:ByteArray) 1 1 AJ AJ (W64 (3+(AA d 10).1)),A5.mk ({ data := #[101,49] }:ByteArray) 1 3 AJ AJ (W64 (2+(AA (AA d 10).2 8).1))].length,([A5.mk ({ data := #[99,49] }:ByteArray) 1 1 AJ AJ (W64 (3+(AA d 10).1)),A5.mk ({ data := #[101,49] }:ByteArray) 1 3 AJ AJ (W64 (2+(AA (AA d 10).2 8).1))].length)+2<=maxLen,(([A5.mk ({ data := #[99,49] }:ByteArray) 1 1 AJ AJ (W64 (3+(AA d 10).1)),A5.mk ({ data := #[101,49] }:ByteArray) 1 3 AJ AJ (W64 (2+(AA (AA d 10).2 8).1))].length)+2)*216<=140737488355328] ⟨D4,[(42,.row 20 (([A5.mk ({ data := #[99,49] }:ByteArray) 1 1 AJ AJ (W64 (3+(AA d 10).1)),A5.mk ({ data := #[101,49] }:ByteArray) 1 3 AJ AJ (W64 (2+(AA (AA d 10).2 8).1))].length)+2) (fun i_ j_=>if i_<([A5.mk ({ data := #[99,49] }:ByteArray) 1 1 AJ AJ (W64 (3+(AA d 10).1)),A5.mk ({ data := #[101,49] }:ByteArray) 1 3 AJ AJ (W64 (2+(AA (AA d 10).2 8).1))].length) then (Ak A5.c [A5.mk ({ data := #[99,49] }:ByteArray) 1 1 AJ AJ (W64 (3+(AA d 10).1)),A5.mk ({ data := #[101,49] }:ByteArray) 1 3 AJ AJ (W64 (2+(AA (AA d 10).2 8).1))]) i_ j_ else (A8 20 2 [.s ({ data := #[119,49] }:ByteArray),.i 1,.i 2,.i AJ.Op,.s AJ.Text,.i AJ.N,.i AJ.Box.X0,.i AJ.Box.Y0,.i AJ.Box.X1,.i AJ.Box.Y1,opL AJ.L,.i AJ.Op,.s AJ.Text,.i AJ.N,.i AJ.Box.X0,.i AJ.Box.Y0,.i AJ.Box.X1,.i AJ.Box.Y1,opL AJ.L,.i (W64 (6+(AA (Z3f d) 5).1)),.s ({ data := #[114,49] }:ByteArray),.i 1,.i 4,.i AJ.Op,.s AJ.Text,.i AJ.N,.i AJ.Box.X0,.i AJ.Box.Y0,.i AJ.Box.X1,.i AJ.Box.Y1,opL AJ.L,.i AJ.Op,.s AJ.Text,.i AJ.N,.i AJ.Box.X0,.i AJ.Box.Y0,.i AJ.Box.X1,.i AJ.Box.Y1,opL AJ.L,.i (W64 (2+(AA (AA (Z3f d) 5).2 4).1))]) (i_-([A5.mk ({ data := #[99,49] }:ByteArray) 1 1 AJ AJ (W64 (3+(AA d 10).1)),A5.mk ({ data := #[101,49] }:ByteArray) 1 3 AJ AJ (W64 (2+(AA (AA d 10).2 8).1))].length)) j_) 109),(1000,.cells (A6 b (CL b [vN,.own 42 20 (([A5.mk ({ data := #[99,49] }:ByteArray) 1 1 AJ AJ (W64 (3+(AA d 10).1)),A5.mk ({ data := #[101,49] }:ByteArray) 1 3 AJ AJ (W64 (2+(AA (AA d 10).2 8).1))].length)+2),vN,vN])) 40),(1001,Z3i d)]⟩ (.cons EA (.cons EA (.cons (Ag (fun _ _=>kr) kr kr (BJ (Z3f d) 5 au5 au8)) (.cons EA (.cons EA (.cons (Ag (fun _ _=>kr) kr kr (BJ (AA (Z3f d) 5).2 4 au5 au8)) .nil)))))) (.cons rfl (.cons rfl (.cons rfl (.cons rfl (.cons rfl (.cons rfl (.cons rfl (.cons rfl (.cons rfl (.cons au19 (.cons au19 .nil)))))))))))<|AH ?_
   refine Cv.trans (BS (⟨D4,[(42,Z3j d),(1000,.cells (A6 b (CL b [vN,.own 42 20 ([A5.mk ({ data := #[99,49] }:ByteArray) 1 1 AJ AJ (W64 (3+(AA d 10).1)),A5.mk ({ data := #[101,49] }:ByteArray) 1 3 AJ AJ (W64 (2+(Ej d).1))]++[A5.mk ({ data := #[119,49] }:ByteArray) 1 2 AJ AJ (W64 (6+(AA (Z3f d) 5).1)),A5.mk ({ data := #[114,49] }:ByteArray) 1 4 AJ AJ (W64 (2+(J7 d).1))]).length,vN,vN])) 40),(1001,Z3i d)]⟩) lr (.cons ⟨rfl,Aw 109 (Bi (BR 20 A5.c [A5.mk ({ data := #[99,49] }:ByteArray) 1 1 AJ AJ (W64 (3+(AA d 10).1)),A5.mk ({ data := #[101,49] }:ByteArray) 1 3 AJ AJ (W64 (2+(AA (AA d 10).2 8).1))]) (A3 (c:=A5.c) (xs:=([A5.mk ({ data := #[119,49] }:ByteArray) 1 2 AJ AJ (W64 (6+(AA (Z3f d) 5).1)),A5.mk ({ data := #[114,49] }:ByteArray) 1 4 AJ AJ (W64 (2+(AA (AA (Z3f d) 5).2 4).1))]:List A5)) rfl kr))⟩ (.cons ⟨rfl,.cells _ (rr (rr (rr (rr (rr (rr (rr (rr (rr (rr (rr (rr (.cons (.own _ _ au2) (rr (rr .nil)))))))))))))))⟩ lr))) (Cv.trans (vr 42 100000 (K:=[1000,1001]) hX) (Cv.trans (ck (⟨D4,[(1000,Z3k b d),(1001,Z3i d),(100000,Z3j d)]⟩)) (A4 ?_)))
   first | rfl | (simp only [h1,Z3m,Z3n,cond_true,cond_false] <;> rfl)
  ·have g1:=oF h1
   refine Ae<|AH ?_
   refine Cv.trans (vk [0,1] [18,1000,1001]) (Cv.trans (vr 18 100000 (K:=[1000,1001]) hX) (Cv.trans (ck (⟨D4,[(1000,Z3l b d),(1001,.cells (AD.c (Z3f d)) 146),(100000,Z3c d)]⟩)) (A4 ?_)))
   first | rfl | (simp only [h1,Z3m,Z3n,cond_true,cond_false] <;> rfl)
 refine AC<|AC ?_
 refine rb 46 (Z3o d) (.cells (AD.c (Z3m d)) 146) ⟨[(0,tP 1000 0),(1,tP 1001 0),(47,tB (decide (((AA (Z3m d) 2).1:Int)=1)))],[(1000,Z3p b d),(1001,Z3q d),(100000,Z3r d)]⟩ (Ag (fun _ _=>kr) kr kr (BJ (Z3m d) 2 au5 au8))<|AH ?_
 refine Bc (⟨D4,[(1000,.cells (A6 b (CL b [vN,.own 100001 20 (Z3C d).length,vN,vN])) 40),(1001,.cells (AD.c (Z3B d)) 146),(100001,.row 20 (Z3C d).length (Ak A5.c (Z3C d)) 109)]⟩) ?_ ?_
 ·refine AY _ rfl (fun h1 => ?_) (fun h1 => ?_)
  ·have g1:=oT h1
   refine dw [] [(54,(Z3s d)),(57,(Z3t d)),(59,(Z3w d)),(61,(Z3x d))] [Ap (Z3s d).2.1,Bo (.cells (AD.c (AA (Z3m d) 2).2) 146),Ap (Z3t d).2.1,Bo (.cells (AD.c (AA (AA (Z3m d) 2).2 2).2) 146),Ap (Z3w d).2.1,Bo (.cells (AD.c (Z3u d)) 146),Ap (Z3x d).2.1,Bo (.cells (AD.c (BB (Z3u d)).2) 146),(Z3n d).length=(Z3n d).length,(Z3n d).length+1<=maxLen,((Z3n d).length+1)*216<=140737488355328] ⟨D4,[(65,.row 20 ((Z3n d).length+1) (fun i_ j_=>if i_<(Z3n d).length then (Ak A5.c (Z3n d)) i_ j_ else (A8 20 1 [.s ({ data := #[99,50] }:ByteArray),.i (W64 (1+(AA (AA (Z3m d) 2).2 2).1)),.i 1,.i (Z3v d).Op,.s (Z3v d).Text,.i (Z3v d).N,.i (Z3v d).Box.X0,.i (Z3v d).Box.Y0,.i (Z3v d).Box.X1,.i (Z3v d).Box.Y1,opL (Z3v d).L,.i (BB (Z3u d)).1.Op,.s (BB (Z3u d)).1.Text,.i (BB (Z3u d)).1.N,.i (BB (Z3u d)).1.Box.X0,.i (BB (Z3u d)).1.Box.Y0,.i (BB (Z3u d)).1.Box.X1,.i (BB (Z3u d)).1.Box.Y1,opL (BB (Z3u d)).1.L,.i (W64 (1+(AA (BB (Z3u d)).2 14).1))]) (i_-(Z3n d).length) j_) 109),(1000,.cells (A6 b (CL b [vN,.own 65 20 ((Z3n d).length+1),vN,vN])) 40),(1001,.cells (AD.c (Z3y d)) 146)]⟩ (.cons (Ag (fun _ _=>kr) kr kr (BJ (AA (Z3m d) 2).2 2 au5 au8)) (.cons (Ag (fun _ _=>kr) kr kr (VY (AA (AA (Z3m d) 2).2 2).2 au5)) (.cons (Ag (fun _ _=>kr) kr kr (VY (Z3u d) au5)) (.cons (Ag (fun _ _=>kr) kr kr (BJ (BB (Z3u d)).2 14 au5 au8)) .nil)))) (.cons rfl (.cons rfl (.cons rfl (.cons rfl (.cons rfl (.cons rfl (.cons rfl (.cons rfl (.cons rfl (.cons au19 (.cons au19 .nil)))))))))))<|AH ?_
   refine Cv.trans (BS (⟨D4,[(65,Z3z d),(1000,.cells (A6 b (CL b [vN,.own 65 20 ((Z3n d)++[A5.mk ({ data := #[99,50] }:ByteArray) (W64 (1+(AA (AA (Z3m d) 2).2 2).1)) 1 (Z3v d) (BB (Z3u d)).1 (W64 (1+(Lg d).1))]).length,vN,vN])) 40),(1001,.cells (AD.c (Z3y d)) 146)]⟩) lr (.cons ⟨rfl,Aw 109 (Bi (BR 20 A5.c (Z3n d)) (A3 (c:=A5.c) (xs:=([A5.mk ({ data := #[99,50] }:ByteArray) (W64 (1+(AA (AA (Z3m d) 2).2 2).1)) 1 (Z3v d) (BB (Z3u d)).1 (W64 (1+(AA (BB (Z3u d)).2 14).1))]:List A5)) rfl kr))⟩ (.cons ⟨rfl,.cells _ (rr (rr (rr (rr (rr (rr (rr (rr (rr (rr (rr (rr (.cons (.own _ _ au2) (rr (rr .nil)))))))))))))))⟩ lr))) (Cv.trans (vr 65 100001 (K:=[1000,1001]) hX) (Cv.trans (ck (⟨D4,[(1000,Z3A b d),(1001,.cells (AD.c (Z3y d)) 146),(100001,Z3z d)]⟩)) (A4 ?_)))
   first | rfl | (simp only [h1,Z3B,Z3C,cond_true,cond_false] <;> rfl)
  ·have g1:=oF h1
   refine Ae<|AH ?_
   refine Cv.trans (vk [0,1] [1000,1001,100000]) (Cv.trans (wr (⟨D4,[(1000,.cells (A6 b (CL b [vN,.own 100001 20 (Z3n d).length,vN,vN])) 40),(1001,Z3q d),(100001,Z3r d)]⟩) 100000 100001 (K:=[1000,1001]) hX) (A4 ?_))
   first | rfl | (simp only [h1,Z3B,Z3C,cond_true,cond_false] <;> rfl)
 refine AC<|AC ?_
 refine rb 69 (Z3D d) (.cells (AD.c (Z3B d)) 146) ⟨[(0,tP 1000 0),(1,tP 1001 0),(70,tB (decide (((AA (Z3B d) 3).1:Int)=0)))],[(1000,Z3E b d),(1001,Z3F d),(100001,Z3G d)]⟩ (Ag (fun _ _=>kr) kr kr (BJ (Z3B d) 3 au5 au8))<|AH ?_
 refine Bc (⟨D4,[(1000,.cells (A6 b (CL b [lst 2 B5.c (Z3H d),.own 100001 20 (Z3C d).length,vN,vN])) 40),(1001,.cells (AD.c (AA (Z3B d) 3).2) 146),(100001,.row 20 (Z3C d).length (Ak A5.c (Z3C d)) 109)]⟩) ?_ ?_
 ·refine AY _ rfl (fun h1 => ?_) (fun h1 => ?_)
  ·have g1:=oT h1
   refine rn ⟨D4,[(1000,.cells (A6 b (CL b [.list true 2 1 (A8 2 1 [.s ({ data := #[112,111,119,101,114] }:ByteArray),.list true 1 1 (A8 1 1 [.s ({ data := #[71,78,68] }:ByteArray)])]),.own 100001 20 (Z3C d).length,vN,vN])) 40),(1001,Z3F d),(100001,Z3G d)]⟩ ?_
   refine Cv.trans (BS (⟨D4,[(1000,.cells (A6 b (CL b [lst 2 B5.c [B5.mk ({ data := #[112,111,119,101,114] }:ByteArray) [({ data := #[71,78,68] }:ByteArray)]],.own 100001 20 (Z3C d).length,vN,vN])) 40),(1001,Z3F d),(100001,Z3G d)]⟩) lr (.cons ⟨rfl,.cells _ (rr (rr (rr (rr (rr (rr (rr (rr (rr (rr (rr (.cons (Bj true (Er (c:=B5.c) (xs:=([B5.mk ({ data := #[112,111,119,101,114] }:ByteArray) [({ data := #[71,78,68] }:ByteArray)]]:List B5)) (y:=[[.s ({ data := #[112,111,119,101,114] }:ByteArray),.list true 1 1 (A8 1 1 [.s ({ data := #[71,78,68] }:ByteArray)])]]) (z:=[[.s ({ data := #[112,111,119,101,114] }:ByteArray),lst 1 (fun x=>[.s x]) [({ data := #[71,78,68] }:ByteArray)]]]) rfl kr kr (.cons (rr (.cons (Bj true (A3 (c:=(fun x=>[.s x])) (xs:=([({ data := #[71,78,68] }:ByteArray)]:List ByteArray)) rfl kr)) .nil)) .nil))) (rr (rr (rr .nil)))))))))))))))⟩ lr)) (A4 ?_)
   first | rfl | (simp only [h1,Z3H,cond_true,cond_false] <;> rfl)
  ·have g1:=oF h1
   refine Ae<|AH ?_
   refine Cv.trans (ck (⟨D4,[(1000,Z3E b d),(1001,Z3F d),(100001,Z3G d)]⟩)) (Cv.trans (BS (⟨D4,[(1000,.cells (A6 b (CL b [lst 2 B5.c [],.own 100001 20 (Z3C d).length,vN,vN])) 40),(1001,Z3F d),(100001,Z3G d)]⟩) lr (.cons ⟨rfl,.cells _ (rr (rr (rr (rr (rr (rr (rr (rr (rr (rr (rr (.cons (CV 2 B5.c) (rr (rr (rr .nil)))))))))))))))⟩ lr)) (A4 ?_))
   first | rfl | (simp only [h1,Z3H,cond_true,cond_false] <;> rfl)
 refine AC<|AC ?_
 refine rb 78 (Z3I d) (.cells (AD.c (AA (Z3B d) 3).2) 146) ⟨[(0,tP 1000 0),(1,tP 1001 0),(79,tB (decide (((AA (AA (Z3B d) 3).2 4).1:Int)=0)))],[(1000,Z3K b d),(QV d),(100001,Z3G d)]⟩ (Ag (fun _ _=>kr) kr kr (BJ (AA (Z3B d) 3).2 4 au5 au8))<|AH ?_
 refine Bc (⟨D4,[(1000,.cells (A6 b (CL b [lst 2 B5.c (Z3H d),.own 100001 20 (Z3C d).length,lst 3 B1.c (Z3R d b),vN])) 40),(1001,.cells (AD.c (Z3Q d b)) 146),(100001,.row 20 (Z3C d).length (Ak A5.c (Z3C d)) 109)]⟩) ?_ ?_
 ·refine AY _ rfl (fun h1 => ?_) (fun h1 => ?_)
  ·have g1:=oT h1
   refine AC<|rs 83 (ceI [.agg (A6 b (CL b [lst 2 B5.c (Z3H d),.own 100001 20 (Z3C d).length,vN,vN]))] (Oy (AF.mk b.Layers (AW.mk 0 [] 0) b.Parts [] b.Tracks b.Vias b.Pours b.Keeps b.Slots [] [] [] []))) ⟨[(0,tP 1000 0),(1,tP 1001 0),(4,tO (lst 1 (fun x=>[.i x]) (Z3L b)))],[(1000,Z3K b d),(QV d),(100001,Z3G d)]⟩ (C1 (cX (AF.mk b.Layers (AW.mk 0 [] 0) b.Parts [] b.Tracks b.Vias b.Pours b.Keeps b.Slots [] [] [] []) au6 au6 au6 au6 au6 au6) (.cons (.agg (rr (.cons (.any _) (.cons (.any _) (.cons (.any _) (rr (.cons (.any _) (rr (rr (rr (rr (rr (.cons (.any _) (.cons (.any _) (.cons (.any _) (.cons (.any _) .nil)))))))))))))))) .nil))<|AH ?_
   refine dw [] [(89,(Z3M b d)),(96,(Z3O b d))] [Ap (Z3M b d).2.1,Bo (.cells (AD.c (Z3J d)) 146),0<=((AA (Z3J d) ((Z3L b).length:Int)).1:Int)/\((AA (Z3J d) ((Z3L b).length:Int)).1:Int)<(((Z3L b).length:Nat):Int),Ap (Z3O b d).2.1,Bo (.cells (AD.c (Z3N d b)) 146),0<=((AA (Z3N d b) ((Z3L b).length:Int)).1:Int)/\((AA (Z3N d b) ((Z3L b).length:Int)).1:Int)<(((Z3L b).length:Nat):Int)] ⟨D4,[(1000,.cells (A6 b (CL b [lst 2 B5.c (Z3H d),.own 100001 20 (Z3C d).length,.list true 3 1 (A8 3 1 [.i ((Z3L b).getD (AA (Z3J d) ((Z3L b).length:Int)).1.toNat default),.i ((Z3L b).getD (AA (Z3N d b) ((Z3L b).length:Int)).1.toNat default),.s ({ data := #[99,49] }:ByteArray)]),vN])) 40),(1001,.cells (AD.c (Z3P d b)) 146),(100001,Z3G d)]⟩ (.cons (Ag (fun _ _=>kr) kr kr (BJ (Z3J d) ((Z3L b).length:Int) au5 au8)) (.cons (Ag (fun _ _=>kr) kr kr (BJ (Z3N d b) ((Z3L b).length:Int) au5 au8)) .nil)) (.cons rfl (.cons rfl (.cons (by first | exact JG _ _ _ (by decide) (by decide) (by decide) | exact S7 (b:=AF.mk b.Layers (AW.mk 0 [] 0) b.Parts [] b.Tracks b.Vias b.Pours b.Keeps b.Slots [] [] [] []) _ hi (by assumption) (by assumption) (by assumption) (by assumption) (by assumption) (by assumption) | decide | omega) (.cons rfl (.cons rfl (.cons (by first | exact JG _ _ _ (by decide) (by decide) (by decide) | exact S7 (b:=AF.mk b.Layers (AW.mk 0 [] 0) b.Parts [] b.Tracks b.Vias b.Pours b.Keeps b.Slots [] [] [] []) _ hi (by assumption) (by assumption) (by assumption) (by assumption) (by assumption) (by assumption) | decide | omega) .nil))))))<|AH ?_
   refine Cv.trans (BS (⟨D4,[(1000,.cells (A6 b (CL b [lst 2 B5.c (Z3H d),.own 100001 20 (Z3C d).length,lst 3 B1.c [B1.mk ((Z3L b).getD (AA (Z3J d) ((Z3L b).length:Int)).1.toNat default) ((Z3L b).getD (AA (Z3N d b) ((Z3L b).length:Int)).1.toNat default) ({ data := #[99,49] }:ByteArray)],vN])) 40),(1001,.cells (AD.c (Z3P d b)) 146),(100001,Z3G d)]⟩) lr (.cons ⟨rfl,.cells _ (rr (rr (rr (rr (rr (rr (rr (rr (rr (rr (rr (rr (rr (.cons (Bj true (A3 (c:=B1.c) (xs:=([B1.mk ((Z3L b).getD (AA (Z3J d) ((Z3L b).length:Int)).1.toNat default) ((Z3L b).getD (AA (Z3N d b) ((Z3L b).length:Int)).1.toNat default) ({ data := #[99,49] }:ByteArray)]:List B1)) rfl kr)) (rr .nil)))))))))))))))⟩ lr)) (A4 ?_)
   first | rfl | (simp only [h1,Z3Q,Z3R,cond_true,cond_false] <;> rfl)
  ·have g1:=oF h1
   refine Ae<|AH ?_
   refine Cv.trans (ck (⟨D4,[(1000,Z3K b d),(QV d),(100001,Z3G d)]⟩)) (Cv.trans (BS (⟨D4,[(1000,.cells (A6 b (CL b [lst 2 B5.c (Z3H d),.own 100001 20 (Z3C d).length,lst 3 B1.c [],vN])) 40),(QV d),(100001,Z3G d)]⟩) lr (.cons ⟨rfl,.cells _ (rr (rr (rr (rr (rr (rr (rr (rr (rr (rr (rr (rr (rr (.cons (CV 3 B1.c) (rr .nil)))))))))))))))⟩ lr)) (A4 ?_))
   first | rfl | (simp only [h1,Z3Q,Z3R,cond_true,cond_false] <;> rfl)
 refine AC<|rb 104 (Z3S d b) (.cells (AD.c (Z3Q d b)) 146) ⟨[(0,tP 1000 0),(1,tP 1001 0),(105,tB (decide (((AA (Z3Q d b) 4).1:Int)=0)))],[(1000,.cells (A6 b (CL b [lst 2 B5.c (Z3H d),.own 100001 20 (Z3C d).length,lst 3 B1.c (Z3R d b),vN])) 40),(1001,.cells (AD.c (AA (Z3Q d b) 4).2) 146),(100001,Z3G d)]⟩ (Ag (fun _ _=>kr) kr kr (BJ (Z3Q d b) 4 au5 au8))<|AH ?_
 refine AY _ rfl (fun h1 => ?_) (fun h1 => ?_)
 ·have g1:=oT h1
  refine rb 109 (Z3T d b) (.cells (AD.c (AA (Z3Q d b) 4).2) 146) ⟨[],[(1000,.cells (A6 b (CL b [lst 2 B5.c (Z3H d),.own 100001 20 (Z3C d).length,lst 3 B1.c (Z3R d b),.list true 3 1 (A8 3 1 [.s ({ data := #[109,49] }:ByteArray),.list true 1 2 (A8 1 2 [.s ({ data := #[78,49] }:ByteArray),.s ({ data := #[78,50] }:ByteArray)]),.i (W64 (10*(AA (AA (Z3Q d b) 4).2 8).1))])])) 40),(1001,.cells (AD.c (Z3U d b)) 146),(100001,Z3G d)]⟩ (Ag (fun _ _=>kr) kr kr (BJ (AA (Z3Q d b) 4).2 8 au5 au8)) ?_
  exact ⟨_,Cv.trans (vf 100001 20 (Z3C d).length (Ak A5.c (Z3C d)) 109 (K:=[1000,1001]) hX (.cons ⟨rfl,rfl⟩ .nil)) (Cv.refl _),.inr rfl,.tup [],by kernel_rfl,⟨Ad rfl,⟨.cells (A6 b (CL b [lst 2 B5.c (Z3H d),lst 20 A5.c (Z3C d),lst 3 B1.c (Z3R d b),.list true 3 1 (A8 3 1 [.s ({ data := #[109,49] }:ByteArray),.list true 1 2 (A8 1 2 [.s ({ data := #[78,49] }:ByteArray),.s ({ data := #[78,50] }:ByteArray)]),.i (W64 (10*(AA (AA (Z3Q d b) 4).2 8).1))])])) 40,by kernel_rfl,Ro (y:=.cells (A6 b (CL b [lst 2 B5.c (Z3H d),lst 20 A5.c (Z3C d),lst 3 B1.c (Z3R d b),lst 3 Di.c [Di.mk ({ data := #[109,49] }:ByteArray) [({ data := #[78,49] }:ByteArray),({ data := #[78,50] }:ByteArray)] (W64 (10*(AA (AA (Z3Q d b) 4).2 8).1))]])) 40) (.cells _ (rr (rr (rr (rr (rr (rr (rr (rr (rr (rr (rr (rr (rr (rr (.cons (Bj true (Er (c:=Di.c) (xs:=([Di.mk ({ data := #[109,49] }:ByteArray) [({ data := #[78,49] }:ByteArray),({ data := #[78,50] }:ByteArray)] (W64 (10*(AA (AA (Z3Q d b) 4).2 8).1))]:List Di)) (y:=[[.s ({ data := #[109,49] }:ByteArray),.list true 1 2 (A8 1 2 [.s ({ data := #[78,49] }:ByteArray),.s ({ data := #[78,50] }:ByteArray)]),.i (W64 (10*(AA (AA (Z3Q d b) 4).2 8).1))]]) (z:=[[.s ({ data := #[109,49] }:ByteArray),lst 1 (fun x=>[.s x]) [({ data := #[78,49] }:ByteArray),({ data := #[78,50] }:ByteArray)],.i (W64 (10*(AA (AA (Z3Q d b) 4).2 8).1))]]) rfl kr kr (.cons (rr (.cons (Bj true (A3 (c:=(fun x=>[.s x])) (xs:=([({ data := #[78,49] }:ByteArray),({ data := #[78,50] }:ByteArray)]:List ByteArray)) rfl kr)) (rr .nil))) .nil))) .nil)))))))))))))))) (by first | (simp only [DN,h1,cond_true,cond_false];done) | (simp only [DN,h1,cond_true,cond_false];kernel_rfl))⟩,.cells (AD.c (Z3U d b)) 146,by kernel_rfl,Dg (by first | (simp only [DN,h1,cond_true,cond_false];done) | (simp only [DN,h1,cond_true,cond_false];kernel_rfl))⟩⟩
 ·have g1:=oF h1
  refine Ae ?_
  exact ⟨_,Cv.trans (vf 100001 20 (Z3C d).length (Ak A5.c (Z3C d)) 109 (K:=[1000,1001]) hX (.cons ⟨rfl,rfl⟩ .nil)) (Cv.refl _),.inr rfl,.tup [],by kernel_rfl,⟨Ad rfl,⟨.cells (A6 b (CL b [lst 2 B5.c (Z3H d),lst 20 A5.c (Z3C d),lst 3 B1.c (Z3R d b),vN])) 40,by kernel_rfl,Ro (y:=.cells (A6 b (CL b [lst 2 B5.c (Z3H d),lst 20 A5.c (Z3C d),lst 3 B1.c (Z3R d b),lst 3 Di.c []])) 40) (.cells _ (rr (rr (rr (rr (rr (rr (rr (rr (rr (rr (rr (rr (rr (rr (.cons (CV 3 Di.c) .nil)))))))))))))))) (by first | (simp only [DN,h1,cond_true,cond_false];done) | (simp only [DN,h1,cond_true,cond_false];kernel_rfl))⟩,.cells (AD.c (AA (Z3Q d b) 4).2) 146,by kernel_rfl,Dg (by first | (simp only [DN,h1,cond_true,cond_false];done) | (simp only [DN,h1,cond_true,cond_false];kernel_rfl))⟩⟩
end
section
open Go.RowKit
theorem OV {v a:Int} {d:AD} {n:Int} (h:v<W64 (a+(AA d n).1)) (h0:0<n) (h1:n<=1000000) (ha:0<=a) (hb:a<=1000000):v<a+n-1:=by
 have:=Cx d n h0 (by omega)
 rw [Al (by omega) (by omega)] at h
 omega
theorem Ha {p q:Prop} [Decidable p] [Decidable q] {r:Bool} (h:(bif bif decide p then decide q else false then r else (bif bif decide p then decide q else false then false else false))=true):q:=by
 by_cases hp:p
 ·rw [decide_eq_true hp] at h
  by_cases hq:q
  ·exact hq
  ·rw [decide_eq_false hq] at h;cases h
 ·rw [decide_eq_false hp] at h;cases h
theorem Vp {n:Nat} (h:(0:Int)<(n:Int)):0<n:=by omega
theorem Pz {c2 c1:Bool} {a b c:A0} {L:List A0} (hL:L=bif c2 then [a,b] else bif c1 then [c] else []):L.length<=2:=by
 subst hL;cases c2 <;> cases c1 <;> simp
theorem WA {c2 c1:Bool} {a b c:A0} {L:List A0} {k:Int} (hk:0<=k/\k<2) (ha:a.Legs.length=2) (hc:c.Legs.length=2) (hL:L=bif c2 then [a,b] else bif c1 then [c] else []) (h:(0:Int)<(L.length:Int)):0<=k/\k<(((L.getD 0 default).Legs.length:Nat):Int):=by
 subst hL
 cases c2 with
 | true=>show 0<=k/\k<((a.Legs.length:Nat):Int);rw [ha];exact hk
 | false =>
  cases c1 with
  | true=>show 0<=k/\k<((c.Legs.length:Nat):Int);rw [hc];exact hk
  | false=>exact absurd h (by simp)
theorem Zl {α:Type} {L:List α} (h:L.length<=2):L.length+1<=maxLen:=by unfold maxLen;omega
theorem Zm {α:Type} {L:List α} (h:L.length<=2):(L.length+1)*32<=140737488355328:=by omega
def Z3V:Blk:=.cells Nb 61
abbrev En (l:List Int):=AA (AD.mk l 0) 5
def Z3W (l:(List Int)):FuncId×List Av×Ef:=(48,(KE:List Av).map (Bh 1000 14),wrI 14 (.cells [lst 1 (fun x=>[.i x]) l,.i 0] 146) (tI (En l).1) (.cells (AD.c (En l).2) 146))
def Z3X (l:(List Int)):Tv:=tI (W64 (2+(En l).1))
def Z3Y (l:(List Int)):Blk:=.cells (AD.c (En l).2) 146
abbrev HD (l:List Int):Bool:=(decide (((W64 (2+(En l).1)):Int)<4))
def Z3Z (l:(List Int)):Tv:=tB (HD l)
abbrev Lh:Av:=.one (.ptr 14 0)
def Z40 (l:(List Int)):Tv:=.grd ((HD l)=true) Lh
def Z41:Blk:=.row 2 ([]:List A0).length (Ak A0.c ([]:List A0)) 166
abbrev HG (l:List Int):Bool:=(decide ((4:Int)<=(W64 (2+(En l).1))))
def Z42 (l:(List Int)):Tv:=tB (HG l)
def Z43 (l:(List Int)):Tv:=.grd ((HG l)=true) Lh
def Z44:Blk:=.row 7 ([]:List Ay).length (Ak Ay.c ([]:List Ay)) 120
def Z45 (name:ByteArray):Blk:=.cells (Tl name) 61
def Z46 (name:ByteArray) (v6_1:List Ay):Blk:=.cells [.s name,.own 100000 7 v6_1.length,vN] 61
def Z47 (v6_1:List Ay):Blk:=.row 7 v6_1.length (Ak Ay.c v6_1) 120
abbrev Lk (v5:AD):Blk:=.cells (AD.c (AA v5 2).2) 146
abbrev La (v5:AD):Blk:=.cells (AD.c v5) 146
def Z48 (v5:AD):FuncId×List Av×Ef:=(48,(HC:List Av).map (Bh 1000 14),wrI 14 (La v5) (tI (AA v5 2).1) (Lk v5))
def Z49 (v8:Int) (v5:AD):Blk:=.cells [.s (Aj v8),.i 0,vN,.i 0,.i (W64 (30*v8)),.i (W64 (10*(AA v5 2).1)),.i 0] 120
def Z4a (v8:Int) (v5:AD):Blk:=.cells [.i (W64 (30*v8)),.i (W64 (10*(AA v5 2).1))] 47
abbrev CA (v5:AD):=AA (AA v5 2).2 3
def Z4b (v5:AD):FuncId×List Av×Ef:=(48,(Ep:List Av).map (Bh 1000 14),wrI 14 (Lk v5) (tI (CA v5).1) (.cells (AD.c (CA v5).2) 146))
def Z4c (v5:AD):Blk:=.cells (AD.c (CA v5).2) 146
def Z4d (v8:Int) (v5:AD):AW:=Cn (An.mk (W64 ((W64 (30*v8))-6)) (W64 ((W64 (10*(AA v5 2).1))-6)) (W64 ((W64 (30*v8))+6)) (W64 ((W64 (10*(AA v5 2).1))+6)))
def Z4e (v5:AD):FuncId×List Av×Ef:=(48,(Ep:List Av).map (Bh 1000 14),wrI 14 (.cells (AD.c (CA v5).2) 146) (tI (AA (CA v5).2 3).1) (.cells (AD.c (AA (CA v5).2 3).2) 146))
abbrev Z4f (v5:AD):AD:=(AA (AA (AA v5 2).2 3).2 3).2
def Z4g (v8:Int) (v5:AD):AW:=DD (AB.mk (W64 (30*v8)) (W64 (10*(AA v5 2).1))) (W64 (4+(AA (AA (AA v5 2).2 3).2 3).1))
abbrev Z4h (v5:AD):AD:=bif decide (((AA (AA v5 2).2 3).1:Int)=0) then (AA (AA v5 2).2 3).2 else (bif decide (((AA (AA v5 2).2 3).1:Int)=1) then (Z4f v5) else (AA (AA v5 2).2 3).2)
def Z4i (v5:AD) (v8:Int):(List AE):=bif decide (((AA (AA v5 2).2 3).1:Int)=0) then (Z4d v8 v5).Edges else (bif decide (((AA (AA v5 2).2 3).1:Int)=1) then (Z4g v8 v5).Edges else [AE.mk 1 (AB.mk (W64 ((W64 (30*v8))-2)) (W64 (10*(AA v5 2).1))) (AB.mk (W64 ((W64 (30*v8))+2)) (W64 (10*(AA v5 2).1))) (AB.mk 0 0)])
def Z4j (v5:AD):FuncId×List Av×Ef:=(48,(Jh:List Av).map (Bh 1000 14),wrI 14 (.cells (AD.c (Z4h v5)) 146) (tI (AA (Z4h v5) 4).1) (.cells (AD.c (AA (Z4h v5) 4).2) 146))
def Z4k (v5:AD):FuncId×List Av×Ef:=(48,(HC:List Av).map (Bh 1000 14),wrI 14 (.cells (AD.c (AA (Z4h v5) 4).2) 146) (tI (AA (AA (Z4h v5) 4).2 2).1) (.cells (AD.c (AA (AA (Z4h v5) 4).2 2).2) 146))
abbrev Z4l (v5:AD):AD:=(AA (AA (Z4h v5) 4).2 2).2
def Z4m (v5:AD):FuncId×List Av×Ef:=(48,(Ep:List Av).map (Bh 1000 14),wrI 14 (La v5) (tI (AA v5 3).1) (.cells (AD.c (AA v5 3).2) 146))
abbrev Z4n (l:(List Int)) (v5:AD):AD:=bif decide (((W64 (2+(AA (AD.mk l 0) 5).1)):Int)<4) then (AA v5 3).2 else v5
def Z4o (l:(List Int)) (v5:AD):FuncId×List Av×Ef:=(48,(HC:List Av).map (Bh 1000 14),wrI 14 (.cells (AD.c (Z4n l v5)) 146) (tI (AA (Z4n l v5) 2).1) (.cells (AD.c (AA (Z4n l v5) 2).2) 146))
def Z4p (l:(List Int)) (v5:AD):Blk:=.cells (AD.c (AA (Z4n l v5) 2).2) 146
abbrev Tq (l:List Int) (v5:AD):=[A0.mk 0 [Bd.mk (Aj 0) 1,Bd.mk (Aj 1) (AA (Z4n l v5) 2).1]]
def Z4q (l:(List Int)) (v5:AD):Blk:=.row 2 ((Tq l v5).length) (Ak A0.c (Tq l v5)) 166
abbrev Z4r (l:(List Int)) (v5:AD):AD:=bif bif decide (((W64 (2+(AA (AD.mk l 0) 5).1)):Int)<4) then (bif decide (((W64 (2+(AA (AD.mk l 0) 5).1)):Int)<4) then decide ((0:Int)<(AA v5 3).1) else false) else (bif decide (((W64 (2+(AA (AD.mk l 0) 5).1)):Int)<4) then false else false) then (AA (Z4n l v5) 2).2 else (Z4n l v5)
def Z4s (l:(List Int)) (v5:AD):(List A0):=bif bif decide (((W64 (2+(AA (AD.mk l 0) 5).1)):Int)<4) then (bif decide (((W64 (2+(AA (AD.mk l 0) 5).1)):Int)<4) then decide ((0:Int)<(AA v5 3).1) else false) else (bif decide (((W64 (2+(AA (AD.mk l 0) 5).1)):Int)<4) then false else false) then [A0.mk 0 [Bd.mk (Aj 0) 1,Bd.mk (Aj 1) (AA (Z4n l v5) 2).1]] else ([]:List A0)
def Z4t (l:(List Int)) (v5:AD):FuncId×List Av×Ef:=(48,(Ep:List Av).map (Bh 1000 14),wrI 14 (.cells (AD.c (Z4r l v5)) 146) (tI (AA (Z4r l v5) 3).1) (.cells (AD.c (AA (Z4r l v5) 3).2) 146))
def Z4u (l:(List Int)) (v5:AD):Blk:=.row 2 (Z4s l v5).length (Ak A0.c (Z4s l v5)) 166
abbrev Z4v (l:(List Int)) (v5:AD):AD:=bif decide ((4:Int)<=(W64 (2+(AA (AD.mk l 0) 5).1))) then (AA (Z4r l v5) 3).2 else (Z4r l v5)
def Z4w (l:(List Int)) (v5:AD):FuncId×List Av×Ef:=(48,(HC:List Av).map (Bh 1000 14),wrI 14 (.cells (AD.c (Z4v l v5)) 146) (tI (AA (Z4v l v5) 2).1) (.cells (AD.c (AA (Z4v l v5) 2).2) 146))
def Z4x (l:(List Int)) (v5:AD):Blk:=.cells (AD.c (AA (Z4v l v5) 2).2) 146
abbrev Xi (l:List Int) (v5:AD):=[A0.mk 1 [Bd.mk (Aj 0) (AA (Z4v l v5) 2).1,Bd.mk (Aj 1) (AA (Z4v l v5) 2).1],A0.mk 1 [Bd.mk (Aj 2) (AA (Z4v l v5) 2).1,Bd.mk (Aj 3) (AA (Z4v l v5) 2).1]]
def Z4y (l:(List Int)) (v5:AD):Blk:=.row 2 ((Xi l v5).length) (Ak A0.c (Xi l v5)) 166
abbrev Z4z (l:(List Int)) (v5:AD):AD:=bif bif decide ((4:Int)<=(W64 (2+(AA (AD.mk l 0) 5).1))) then (bif decide ((4:Int)<=(W64 (2+(AA (AD.mk l 0) 5).1))) then decide ((0:Int)<(AA (Z4r l v5) 3).1) else false) else (bif decide ((4:Int)<=(W64 (2+(AA (AD.mk l 0) 5).1))) then false else false) then (AA (Z4v l v5) 2).2 else (Z4v l v5)
def Z4A (l:(List Int)) (v5:AD):(List A0):=bif bif decide ((4:Int)<=(W64 (2+(AA (AD.mk l 0) 5).1))) then (bif decide ((4:Int)<=(W64 (2+(AA (AD.mk l 0) 5).1))) then decide ((0:Int)<(AA (Z4r l v5) 3).1) else false) else (bif decide ((4:Int)<=(W64 (2+(AA (AD.mk l 0) 5).1))) then false else false) then [A0.mk 1 [Bd.mk (Aj 0) (AA (Z4v l v5) 2).1,Bd.mk (Aj 1) (AA (Z4v l v5) 2).1],A0.mk 1 [Bd.mk (Aj 2) (AA (Z4v l v5) 2).1,Bd.mk (Aj 3) (AA (Z4v l v5) 2).1]] else (Z4s l v5)
def Z4B (l:(List Int)) (v5:AD):FuncId×List Av×Ef:=(48,(HC:List Av).map (Bh 1000 14),wrI 14 (.cells (AD.c (Z4z l v5)) 146) (tI (AA (Z4z l v5) 2).1) (.cells (AD.c (AA (Z4z l v5) 2).2) 146))
def Z4C (l:(List Int)) (v5:AD):Blk:=.row 2 (Z4A l v5).length (Ak A0.c (Z4A l v5)) 166
abbrev Z4D (l:(List Int)) (v5:AD):AD:=bif bif decide (((W64 (2+(AA (AD.mk l 0) 5).1)):Int)=6) then decide ((0:Int)<(((Z4A l v5).length:Nat):Int)) else false then (AA (Z4z l v5) 2).2 else (Z4z l v5)
def Z4E (l:(List Int)) (v5:AD):FuncId×List Av×Ef:=(48,(Ep:List Av).map (Bh 1000 14),wrI 14 (.cells (AD.c (Z4D l v5)) 146) (tI (AA (Z4D l v5) 3).1) (.cells (AD.c (AA (Z4D l v5) 3).2) 146))
abbrev Xl (l:List Int) (v5:AD):=[A0.mk (AA (Z4D l v5) 3).1 [Bd.mk (Aj 5) (((Z4A l v5).getD 0 default).Legs.getD 0 default).Group,Bd.mk (Aj 4) (((Z4A l v5).getD 0 default).Legs.getD 1 default).Group]]
def Z4F (l:(List Int)) (v5:AD):Blk:=.row 2 ((Z4A l v5)++(Xl l v5)).length (Ak A0.c ((Z4A l v5)++(Xl l v5))) 166
def Z4G (l:(List Int)) (v5:AD):(List A0):=bif bif bif decide (((W64 (2+(AA (AD.mk l 0) 5).1)):Int)=6) then decide ((0:Int)<(((Z4A l v5).length:Nat):Int)) else false then (bif bif decide (((W64 (2+(AA (AD.mk l 0) 5).1)):Int)=6) then decide ((0:Int)<(((Z4A l v5).length:Nat):Int)) else false then decide (((AA (Z4z l v5) 2).1:Int)=1) else false) else (bif bif decide (((W64 (2+(AA (AD.mk l 0) 5).1)):Int)=6) then decide ((0:Int)<(((Z4A l v5).length:Nat):Int)) else false then false else false) then ((Z4A l v5)++[A0.mk (AA (Z4D l v5) 3).1 [Bd.mk (Aj 5) (((Z4A l v5).getD 0 default).Legs.getD 0 default).Group,Bd.mk (Aj 4) (((Z4A l v5).getD 0 default).Legs.getD 1 default).Group]]) else (Z4A l v5)
def Z4H (l:(List Int)) (v5:AD):Blk:=.row 2 (Z4G l v5).length (Ak A0.c (Z4G l v5)) 166
def Z4I (name:ByteArray) (v6_1:List Ay) (l:(List Int)) (v5:AD):Blk:=.cells [.s name,.own 100000 7 v6_1.length,.own 100001 2 ((Tq l v5).length)] 61
def Z4J (name:ByteArray) (v6_1:List Ay):Blk:=.cells [.s name,.own 100000 7 v6_1.length,.own 100001 2 ([]:List A0).length] 61
def Z4K (name:ByteArray) (v6_1:List Ay) (l:(List Int)) (v5:AD):Blk:=.cells [.s name,.own 100000 7 v6_1.length,.own 100001 2 (Z4s l v5).length] 61
def Z4L (name:ByteArray) (v6_1:List Ay) (l:(List Int)) (v5:AD):Blk:=.cells [.s name,.own 100000 7 v6_1.length,.own 100002 2 ((Xi l v5).length)] 61
def Z4M (name:ByteArray) (v6_1:List Ay) (l:(List Int)) (v5:AD):Blk:=.cells [.s name,.own 100000 7 v6_1.length,.own 100002 2 (Z4A l v5).length] 61
def Z4N (name:ByteArray) (v6_1:List Ay) (l:(List Int)) (v5:AD):Blk:=.cells [.s name,.own 100000 7 v6_1.length,.own 100003 2 ((Z4A l v5)++(Xl l v5)).length] 61
def Cp (l:(List Int)) (name:ByteArray):Nat->List Ay->AD->Int->AL
 | 0,_,_,_=>default
 | n0+1,v6_1,v5,v8=>bif decide ((v8:Int)<(W64 (2+(AA (AD.mk l 0) 5).1))) then ((Cp l name n0) (v6_1++[Ay.mk (Aj v8) (AW.mk (bif decide (((AA (AA v5 2).2 3).1:Int)=0) then (Z4d v8 v5).Kind else (bif decide (((AA (AA v5 2).2 3).1:Int)=1) then (Z4g v8 v5).Kind else 1)) (Z4i v5 v8) (bif decide (((AA (AA v5 2).2 3).1:Int)=0) then (Z4d v8 v5).R else (bif decide (((AA (AA v5 2).2 3).1:Int)=1) then (Z4g v8 v5).R else 4))) (AB.mk (W64 (30*v8)) (W64 (10*(AA v5 2).1))) (W64 ((W64 (2*(AA (Z4h v5) 4).1))*(AA (AA (Z4h v5) 4).2 2).1))]) (Z4l v5) (v8+1)) else (AL.mk name v6_1 (Z4G l v5))
def A1 (l:(List Int)) (name:ByteArray):AL:=Cp l name (((W64 (2+(AA (AD.mk l 0) 5).1))-0).toNat+1) ([]:List Ay) (AA (AD.mk l 0) 5).2 0
def Gv (l:(List Int)) (name:ByteArray):FuncId×List Av×Ef:=(46,[.one (lst 1 (fun x=>[.i x]) l),.one (.s name)],.val [] (.av (.agg (AL.c (A1 l name)))))
abbrev Fw (l:List Int):Bool:=(decide (((W64 (2+(En l).1)):Int)=6))
abbrev Bp (t_:List (Nat×Tv)):List (Nat×Tv):=(4,tP 4 0)::(5,tP 14 0)::(6,tP 6 0)::t_
abbrev Ia (l:List Int):List (Nat×Tv):=(Bp [(7,Z3X l)])
abbrev PW (l:List Int) (v8:Int):List (Nat×Tv):=(Bp [(7,Z3X l),(8,tI v8),(9,tP 9 0)])
abbrev KI (v8:Int) (v5:AD):=AB.mk (W64 (30*v8)) (W64 (10*(AA v5 2).1))
abbrev KG (v6_1:List Ay):Nat×Blk:=(100000,.row 7 v6_1.length (Ak Ay.c v6_1) 120)
abbrev Qj (l:List Int):List (Nat×Tv):=(Bp [(7,Z3X l),(8,tI 0)])
abbrev Ng:List (Nat×Tv):=[(4,tP 4 0),(6,tP 6 0)]
abbrev NW (l:List Int):Nat×Tv:=(7,tI (W64 (2+(En l).1)))
abbrev QU (v5:AD):Nat×Blk:=(14,.cells (AD.c (Z4l v5)) 146)
abbrev NT (v5:AD):Nat×Blk:=(14,.cells (AD.c v5) 146)
set_option maxHeartbeats 2000000 in
theorem cJ (l:(List Int)) (name:ByteArray) (hl:(l.length:Int)<=9223372036854775807):BH Tryz.prog 46 (Gv l name).2.1 (.av (.agg (AL.c (A1 l name)))):=by
 refine AO Tryz.func46 rfl kr kr fun W0 M0 => ?_
 have hd0:=CX hl
 refine AC<|rn ⟨[(0,tO (lst 1 (fun x=>[.i x]) l)),(1,tO (.s name)),(4,tP 4 0)],[(4,Z3V)]⟩<|AC ?_
 refine rn ⟨[(1,tO (.s name)),(4,tP 4 0),(5,tP 14 0)],[(4,Z3V),(14,.cells [lst 1 (fun x=>[.i x]) l,.i 0] 146)]⟩<|AC ?_
 refine rn ⟨(Bp []),[(4,Z3V),(6,.cells [.s name,vN,vN] 61),(14,.cells [lst 1 (fun x=>[.i x]) l,.i 0] 146)]⟩<|AC ?_
 refine rb 18 (Z3W l) (.cells [lst 1 (fun x=>[.i x]) l,.i 0] 146) ⟨(Ia l),[(4,Z3V),(6,.cells [.s name,vN,vN] 61),(14,Z3Y l)]⟩ (Ag (fun _ _=>kr) kr kr (BJ (AD.mk l 0) 5 au5 au8))<|AH ?_
 refine AC<|AC ?_
 refine rn ⟨(Qj l),[(4,Z3V),(6,.cells [.s name,vN,vN] 61),(14,Z3Y l)]⟩<|Af ?_
 refine Bq (Cv.trans (wg (⟨(Qj l),[(100000,.row 7 0 (fun _ _=>default) 120),(4,Z3V),(6,.cells [.s name,.own 100000 7 0,vN] 61),(14,Z3Y l)]⟩) 100000 7 (fun _ _=>default) 120 [] [(6,[1])] (K:=[]) (fun k x h=>by cases h)) (Cv.trans (BS (⟨(Qj l),[(100000,Z44),(4,Z3V),(6,Z45 name),(14,Z3Y l)]⟩) lr (.cons ⟨rfl,Aw 120 (C3 7 (fun _ _=>default) Ay.c)⟩ (.cons ⟨rfl,.refl _⟩ (.cons ⟨rfl,.cells _ (rr (.cons (.own _ _ au2) (rr .nil)))⟩ lr)))) (Cv.trans (ck (⟨(Qj l),[(4,Z3V),(6,Z45 name),(14,Z3Y l),(100000,Z44)]⟩)) (Cv.refl _)))) ?_
 refine BL (ι:=Nat×List Ay×AD×Int) (fun x=>⟨(Bp [(7,Z3X l),(8,tI x.2.2.2)]),[(4,Z3V),(6,.cells [.s name,.own 100000 7 x.2.1.length,vN] 61),(14,.cells (AD.c x.2.2.1) 146),(100000,.row 7 x.2.1.length (Ak Ay.c x.2.1) 120)]⟩) (fun x=>((W64 (2+(AA (AD.mk l 0) 5).1))-x.2.2.2).toNat<x.1/\(Ba x.2.2.1/\0<=x.2.2.2/\(x.2.2.2<=(W64 (2+(AA (AD.mk l 0) 5).1))\/x.2.2.2=0)/\(x.2.1.length:Int)<=0+1*(x.2.2.2-0))/\Cp l name x.1 x.2.1 x.2.2.1 x.2.2.2=A1 l name) (fun x=>x.1) ?_ (((W64 (2+(AA (AD.mk l 0) 5).1))-0).toNat+1,([]:List Ay),(AA (AD.mk l 0) 5).2,0) ⟨Nat.lt_succ_self _,⟨(by show Ba ((AA (AD.mk l 0) 5).2);repeat (first | with_reducible assumption | exact CX (DH hll _) | with_reducible refine BI ?_ | with_reducible refine EU ?_ | with_reducible refine DY ?_ | with_reducible refine C5 ?_  | with_reducible refine Ce ?_ ?_)),ax0,ax0,ax0⟩,(by simp only [A1,cond_true,cond_false])⟩
 rintro ⟨n0,v6_1,v5,v8⟩ ⟨hn,hinv,hF⟩
 have hm0:=hn;have hinv0:=hinv;have hF0:=hF;try dsimp only at hm0 hinv0 hF0
 clear hn hinv hF
 cases n0 with
 | zero=>exact absurd hm0 (Nat.not_lt_zero _)
 | succ n0 =>
  have hi0_0:=hinv0.1
  refine AC<|AC ?_
  refine rn ⟨(Bp [(7,Z3X l),(8,tI v8),(22,tB (decide ((v8:Int)<(W64 (2+(AA (AD.mk l 0) 5).1)))))]),[(4,Z3V),(6,Z46 name v6_1),(NT v5),(100000,Z47 v6_1)]⟩ ?_
  refine AY _ rfl (fun h1 => ?_) (fun h1 => ?_)
  ·have g1:=oT h1
   have k1:=RS g1 (by decide) (by decide) (by decide) (by decide)
   have kk1:=OV g1 (by decide) (by decide) (by decide) (by decide)
   refine Ae<|AH ?_
   refine AC<|Af<|AC ?_
   refine rc [(26,CB v8),(30,(Z48 v5))] [Ap (CB v8).2.1,Ap (Z48 v5).2.1,Bo (La v5)] ⟨(PW l v8),[(4,Z3V),(6,Z46 name v6_1),(9,Z49 v8 v5),(14,.cells (AD.c (AA v5 2).2) 146),(100000,Z47 v6_1)]⟩ (.cons (EK v8 au6) (.cons (Ag (fun _ _=>kr) kr kr (BJ v5 2 au5 au8)) .nil)) (.cons rfl (.cons rfl (.cons rfl .nil)))<|AH<|AC ?_
   refine rn ⟨(Bp [(7,Z3X l),(8,tI v8),(9,tP 9 0),(10,tP 10 0)]),[(4,Z3V),(6,Z46 name v6_1),(9,Z49 v8 v5),(10,Z4a v8 v5),(14,.cells (AD.c (AA v5 2).2) 146),(100000,Z47 v6_1)]⟩ ?_
   refine AC<|AC ?_
   refine rb 37 (Z4b v5) (Lk v5) ⟨(Bp [(7,Z3X l),(8,tI v8),(9,tP 9 0),(10,tP 10 0),(37,tI (CA v5).1)]),[(4,Z3V),(6,Z46 name v6_1),(9,Z49 v8 v5),(10,Z4a v8 v5),(14,Z4c v5),(100000,Z47 v6_1)]⟩ (Ag (fun _ _=>kr) kr kr (BJ (AA v5 2).2 3 au5 au8))<|AH ?_
   refine Bc (⟨(Bp [(NW l),(8,tI v8),(9,tP 9 0)]),[Cg,(6,.cells [.s name,.own 100000 7 v6_1.length,vN] 61),(9,.cells [.s (Aj v8),.i (bif decide (((CA v5).1:Int)=0) then (Z4d v8 v5).Kind else (bif decide (((CA v5).1:Int)=1) then (Z4g v8 v5).Kind else 1)),lst 7 AE.c (Z4i v5 v8),.i (bif decide (((CA v5).1:Int)=0) then (Z4d v8 v5).R else (bif decide (((CA v5).1:Int)=1) then (Z4g v8 v5).R else 4)),.i (W64 (30*v8)),.i (W64 (10*(AA v5 2).1)),.i 0] 120),(14,.cells (AD.c (Z4h v5)) 146),(KG v6_1)]⟩) ?_ ?_
   ·refine Af<|AC ?_
    refine rn ⟨(Bp [(7,Z3X l),(8,tI v8),(9,tP 9 0),(10,tP 10 0),(37,tI (CA v5).1),(54,tB (decide (((AA (AA v5 2).2 3).1:Int)=0)))]),[(4,Z3V),(6,Z46 name v6_1),(9,Z49 v8 v5),(10,Z4a v8 v5),(14,Z4c v5),(100000,Z47 v6_1)]⟩ ?_
    refine AY _ rfl (fun h2 => ?_) (fun h2 => ?_)
    ·have g2:=oT h2
     refine rs 69 (Ga (An.mk (W64 ((W64 (30*v8))-6)) (W64 ((W64 (10*(AA v5 2).1))-6)) (W64 ((W64 (30*v8))+6)) (W64 ((W64 (10*(AA v5 2).1))+6)))) ⟨(PW l v8),[(4,Z3V),(6,Z46 name v6_1),(9,.cells [.s (Aj v8),.i (Z4d v8 v5).Kind,lst 7 AE.c (Z4d v8 v5).Edges,.i (Z4d v8 v5).R,.i (W64 (30*v8)),.i (W64 (10*(AA v5 2).1)),.i 0] 120),(14,Z4c v5),(100000,Z47 v6_1)]⟩ (M7 (An.mk (W64 ((W64 (30*v8))-6)) (W64 ((W64 (10*(AA v5 2).1))-6)) (W64 ((W64 (30*v8))+6)) (W64 ((W64 (10*(AA v5 2).1))+6))))<|BZ<|AH ?_
     refine A4 ?_
     first | rfl | (simp only [h2,Z4h,Z4i,cond_true,cond_false] <;> rfl)
    ·have g2:=oF h2
     refine AC<|rn ⟨(Bp [(7,Z3X l),(8,tI v8),(9,tP 9 0),(10,tP 10 0),(71,tB (decide (((AA (AA v5 2).2 3).1:Int)=1)))]),[(4,Z3V),(6,Z46 name v6_1),(9,Z49 v8 v5),(10,Z4a v8 v5),(14,Z4c v5),(100000,Z47 v6_1)]⟩ ?_
     refine AY _ rfl (fun h3 => ?_) (fun h3 => ?_)
     ·have g3:=oT h3
      refine dw [] [(75,(Z4e v5)),(77,I4 (KI v8 v5) (W64 (4+(AA (CA v5).2 3).1)))] [Ap (Z4e v5).2.1,Bo (.cells (AD.c (AA (AA v5 2).2 3).2) 146),Ap (I4 (AB.mk (W64 (30*v8)) (W64 (10*(AA v5 2).1))) (W64 (4+(AA (AA (AA v5 2).2 3).2 3).1))).2.1] ⟨(PW l v8),[(4,Z3V),(6,Z46 name v6_1),(9,.cells [.s (Aj v8),.i (Z4g v8 v5).Kind,lst 7 AE.c (Z4g v8 v5).Edges,.i (Z4g v8 v5).R,.i (W64 (30*v8)),.i (W64 (10*(AA v5 2).1)),.i 0] 120),(14,.cells (AD.c (Z4f v5)) 146),(100000,Z47 v6_1)]⟩ (.cons (Ag (fun _ _=>kr) kr kr (BJ (AA (AA v5 2).2 3).2 3 au5 au8)) (.cons (Vj (AB.mk (W64 (30*v8)) (W64 (10*(AA v5 2).1))) (W64 (4+(AA (AA (AA v5 2).2 3).2 3).1))) .nil)) (.cons rfl (.cons rfl (.cons rfl .nil)))<|BZ<|AH ?_
      refine A4 ?_
      first | rfl | (simp only [h2,h3,Z4h,Z4i,cond_true,cond_false] <;> rfl)
     ·have g3:=oF h3
      refine rg ⟨(PW l v8),[(4,Z3V),(6,Z46 name v6_1),(9,.cells [.s (Aj v8),.i 1,.list true 7 1 (A8 7 1 [.i 1,.i (W64 ((W64 (30*v8))-2)),.i (W64 (10*(AA v5 2).1)),.i (W64 ((W64 (30*v8))+2)),.i (W64 (10*(AA v5 2).1)),.i 0,.i 0]),.i 4,.i (W64 (30*v8)),.i (W64 (10*(AA v5 2).1)),.i 0] 120),(14,Z4c v5),(100000,Z47 v6_1)]⟩<|BZ<|AH ?_
      refine Cv.trans (BS (⟨(PW l v8),[(4,Z3V),(6,Z46 name v6_1),(9,.cells [.s (Aj v8),.i 1,lst 7 AE.c [AE.mk 1 (AB.mk (W64 ((W64 (30*v8))-2)) (W64 (10*(AA v5 2).1))) (AB.mk (W64 ((W64 (30*v8))+2)) (W64 (10*(AA v5 2).1))) (AB.mk 0 0)],.i 4,.i (W64 (30*v8)),.i (W64 (10*(AA v5 2).1)),.i 0] 120),(14,Z4c v5),(100000,Z47 v6_1)]⟩) lr (.cons ⟨rfl,.refl _⟩ (.cons ⟨rfl,.refl _⟩ (.cons ⟨rfl,.cells _ (rr (rr (.cons (Bj true (A3 (c:=AE.c) (xs:=([AE.mk 1 (AB.mk (W64 ((W64 (30*v8))-2)) (W64 (10*(AA v5 2).1))) (AB.mk (W64 ((W64 (30*v8))+2)) (W64 (10*(AA v5 2).1))) (AB.mk 0 0)]:List AE)) rfl kr)) (rr (rr (rr (rr .nil)))))))⟩ lr)))) (A4 ?_)
      first | rfl | (simp only [h2,h3,Z4h,Z4i,cond_true,cond_false] <;> rfl)
   refine AC<|rc [(80,(Z4j v5)),(83,(Z4k v5))] [Ap (Z4j v5).2.1,Bo (.cells (AD.c (Z4h v5)) 146),Ap (Z4k v5).2.1,Bo (.cells (AD.c (AA (Z4h v5) 4).2) 146)] ⟨(PW l v8),[(4,Z3V),(6,Z46 name v6_1),(9,.cells [.s (Aj v8),.i (bif decide (((CA v5).1:Int)=0) then (Z4d v8 v5).Kind else (bif decide (((CA v5).1:Int)=1) then (Z4g v8 v5).Kind else 1)),lst 7 AE.c (Z4i v5 v8),.i (bif decide (((CA v5).1:Int)=0) then (Z4d v8 v5).R else (bif decide (((CA v5).1:Int)=1) then (Z4g v8 v5).R else 4)),.i (W64 (30*v8)),.i (W64 (10*(AA v5 2).1)),.i (W64 ((W64 (2*(AA (Z4h v5) 4).1))*(AA (AA (Z4h v5) 4).2 2).1))] 120),(QU v5),(100000,Z47 v6_1)]⟩ (.cons (Ag (fun _ _=>kr) kr kr (BJ (Z4h v5) 4 au5 au8)) (.cons (Ag (fun _ _=>kr) kr kr (BJ (AA (Z4h v5) 4).2 2 au5 au8)) .nil)) (.cons rfl (.cons rfl (.cons rfl (.cons rfl .nil))))<|AH ?_
   refine rc [] [v6_1.length=v6_1.length,v6_1.length+1<=maxLen,(v6_1.length+1)*80<=140737488355328] ⟨(Bp [(7,Z3X l),(8,tI v8)]),[(4,Z3V),(6,.cells [.s name,.own 90 7 (v6_1.length+1),vN] 61),(QU v5),(90,.row 7 (v6_1.length+1) (fun i_ j_=>if i_<v6_1.length then (Ak Ay.c v6_1) i_ j_ else (A8 7 1 [.s (Aj v8),.i (bif decide (((CA v5).1:Int)=0) then (Z4d v8 v5).Kind else (bif decide (((CA v5).1:Int)=1) then (Z4g v8 v5).Kind else 1)),lst 7 AE.c (Z4i v5 v8),.i (bif decide (((CA v5).1:Int)=0) then (Z4d v8 v5).R else (bif decide (((CA v5).1:Int)=1) then (Z4g v8 v5).R else 4)),.i (W64 (30*v8)),.i (W64 (10*(AA v5 2).1)),.i (W64 ((W64 (2*(AA (Z4h v5) 4).1))*(AA (AA (Z4h v5) 4).2 2).1))]) (i_-v6_1.length) j_) 120)]⟩ .nil (.cons rfl (.cons au3 (.cons au3 .nil)))<|BZ<|AH ?_
   refine Bq (Cv.trans (BS (⟨(Bp [(7,Z3X l),(8,tI v8)]),[(4,Z3V),(6,.cells [.s name,.own 90 7 (v6_1++[Ay.mk (Aj v8) (AW.mk (bif decide (((CA v5).1:Int)=0) then (Z4d v8 v5).Kind else (bif decide (((CA v5).1:Int)=1) then (Z4g v8 v5).Kind else 1)) (Z4i v5 v8) (bif decide (((CA v5).1:Int)=0) then (Z4d v8 v5).R else (bif decide (((CA v5).1:Int)=1) then (Z4g v8 v5).R else 4))) (KI v8 v5) (W64 ((W64 (2*(AA (Z4h v5) 4).1))*(AA (AA (Z4h v5) 4).2 2).1))]).length,vN] 61),(QU v5),(90,.row 7 (v6_1++[Ay.mk (Aj v8) (AW.mk (bif decide (((CA v5).1:Int)=0) then (Z4d v8 v5).Kind else (bif decide (((CA v5).1:Int)=1) then (Z4g v8 v5).Kind else 1)) (Z4i v5 v8) (bif decide (((CA v5).1:Int)=0) then (Z4d v8 v5).R else (bif decide (((CA v5).1:Int)=1) then (Z4g v8 v5).R else 4))) (KI v8 v5) (W64 ((W64 (2*(AA (Z4h v5) 4).1))*(AA (AA (Z4h v5) 4).2 2).1))]).length (Ak Ay.c (v6_1++[Ay.mk (Aj v8) (AW.mk (bif decide (((CA v5).1:Int)=0) then (Z4d v8 v5).Kind else (bif decide (((CA v5).1:Int)=1) then (Z4g v8 v5).Kind else 1)) (Z4i v5 v8) (bif decide (((CA v5).1:Int)=0) then (Z4d v8 v5).R else (bif decide (((CA v5).1:Int)=1) then (Z4g v8 v5).R else 4))) (KI v8 v5) (W64 ((W64 (2*(AA (Z4h v5) 4).1))*(AA (AA (Z4h v5) 4).2 2).1))])) 120)]⟩) lr (.cons ⟨rfl,.refl _⟩ (.cons ⟨rfl,.cells _ (rr (.cons (.own _ _ au2) (rr .nil)))⟩ (.cons ⟨rfl,.refl _⟩ (.cons ⟨rfl,Aw 120 (Bi (BR 7 Ay.c v6_1) (A3 (c:=Ay.c) (xs:=([Ay.mk (Aj v8) (AW.mk (bif decide (((AA (AA v5 2).2 3).1:Int)=0) then (Z4d v8 v5).Kind else (bif decide (((AA (AA v5 2).2 3).1:Int)=1) then (Z4g v8 v5).Kind else 1)) (Z4i v5 v8) (bif decide (((AA (AA v5 2).2 3).1:Int)=0) then (Z4d v8 v5).R else (bif decide (((AA (AA v5 2).2 3).1:Int)=1) then (Z4g v8 v5).R else 4))) (AB.mk (W64 (30*v8)) (W64 (10*(AA v5 2).1))) (W64 ((W64 (2*(AA (Z4h v5) 4).1))*(AA (AA (Z4h v5) 4).2 2).1))]:List Ay)) rfl kr))⟩ .nil))))) (Cv.refl _)) ?_
   refine rg ⟨(Bp [(7,Z3X l),(8,tI (W64 (v8+1)))]),[(4,Z3V),(6,.cells [.s name,.own 90 7 (v6_1++[Ay.mk (Aj v8) (AW.mk (bif decide (((CA v5).1:Int)=0) then (Z4d v8 v5).Kind else (bif decide (((CA v5).1:Int)=1) then (Z4g v8 v5).Kind else 1)) (Z4i v5 v8) (bif decide (((CA v5).1:Int)=0) then (Z4d v8 v5).R else (bif decide (((CA v5).1:Int)=1) then (Z4g v8 v5).R else 4))) (KI v8 v5) (W64 ((W64 (2*(AA (Z4h v5) 4).1))*(AA (AA (Z4h v5) 4).2 2).1))]).length,vN] 61),(QU v5),(90,.row 7 (v6_1++[Ay.mk (Aj v8) (AW.mk (bif decide (((CA v5).1:Int)=0) then (Z4d v8 v5).Kind else (bif decide (((CA v5).1:Int)=1) then (Z4g v8 v5).Kind else 1)) (Z4i v5 v8) (bif decide (((CA v5).1:Int)=0) then (Z4d v8 v5).R else (bif decide (((CA v5).1:Int)=1) then (Z4g v8 v5).R else 4))) (KI v8 v5) (W64 ((W64 (2*(AA (Z4h v5) 4).1))*(AA (AA (Z4h v5) 4).2 2).1))]).length (Ak Ay.c (v6_1++[Ay.mk (Aj v8) (AW.mk (bif decide (((CA v5).1:Int)=0) then (Z4d v8 v5).Kind else (bif decide (((CA v5).1:Int)=1) then (Z4g v8 v5).Kind else 1)) (Z4i v5 v8) (bif decide (((CA v5).1:Int)=0) then (Z4d v8 v5).R else (bif decide (((CA v5).1:Int)=1) then (Z4g v8 v5).R else 4))) (KI v8 v5) (W64 ((W64 (2*(AA (Z4h v5) 4).1))*(AA (AA (Z4h v5) 4).2 2).1))])) 120)]⟩ ?_
   (try rw [(show W64 (v8+1)=v8+1 from Al (by omega) au9)])
   refine AH ?_
   refine ⟨(n0,v6_1++[Ay.mk (Aj v8) (AW.mk (bif decide (((AA (AA v5 2).2 3).1:Int)=0) then (Z4d v8 v5).Kind else (bif decide (((AA (AA v5 2).2 3).1:Int)=1) then (Z4g v8 v5).Kind else 1)) (Z4i v5 v8) (bif decide (((AA (AA v5 2).2 3).1:Int)=0) then (Z4d v8 v5).R else (bif decide (((AA (AA v5 2).2 3).1:Int)=1) then (Z4g v8 v5).R else 4))) (AB.mk (W64 (30*v8)) (W64 (10*(AA v5 2).1))) (W64 ((W64 (2*(AA (Z4h v5) 4).1))*(AA (AA (Z4h v5) 4).2 2).1))],Z4l v5,v8+1),⟨?_,?_,(by rw [<- hF0];simp only [Cp,h1,cond_true,cond_false])⟩,Nat.lt_succ_self _,Cv.trans (vr 90 100000 (K:=[]) (fun k x h=>by cases h)) (A4 kr)⟩
   ·show ((W64 (2+(AA (AD.mk l 0) 5).1))-(v8+1)).toNat<n0;omega
   ·exact ⟨(by show Ba (Z4l v5);repeat (first | with_reducible assumption | exact CX (DH hll _) | with_reducible refine BI ?_ | with_reducible refine EU ?_ | with_reducible refine DY ?_ | with_reducible refine C5 ?_  | with_reducible refine Ce ?_ ?_)),ax0,ax0,ax0⟩
  ·have g1:=oF h1
   have k1:=Rc g1 (by decide) (by decide) (by decide) (by decide)
   refine BP<|BE ?_
   refine BE<|BQ ?_
   refine AH<|AC<|AC ?_
   refine Bc (⟨(Bp [(NW l),(98,tB (bif decide (((W64 (2+(AA (AD.mk l 0) 5).1)):Int)<4) then (bif decide (((W64 (2+(AA (AD.mk l 0) 5).1)):Int)<4) then decide ((0:Int)<(AA v5 3).1) else false) else (bif decide (((W64 (2+(AA (AD.mk l 0) 5).1)):Int)<4) then false else false)))]),[Cg,(6,.cells [.s name,.own 100000 7 v6_1.length,vN] 61),(14,.cells (AD.c (Z4n l v5)) 146),(KG v6_1)]⟩) ?_ ?_
   ·refine TY (HD l) (fun h2 => ?_) (fun h2 => ?_)
    ·have g2:=oT h2
     refine FH ?_
     refine JT D3 4 [] [] [] [4,5,6,7,94,95] [4,6,14,100000] [] ⟨(Bp [(7,Z3X l),(94,Z3Z l),(95,Z40 l)]),[(4,Z3V),(6,Z46 name v6_1),(NT v5),(100000,Z47 v6_1)]⟩ .nil kr .nil ?_
     refine O0 D3 2 true ((HD l)=true) [] [(96,(Z4m v5))] [((HD l)=true)->((HD l)=true),Ap (Z4m v5).2.1,Bo (La v5)] ⟨(Bp [(7,Z3X l),(94,Z3Z l),(95,Z40 l),(96,tI (AA v5 3).1)]),[(4,Z3V),(6,Z46 name v6_1),(14,.cells (AD.c (AA v5 3).2) 146),(100000,Z47 v6_1)]⟩ rfl kr h2 (.cons (Ag (fun _ _=>kr) kr kr (BJ v5 3 au5 au8)) .nil) kr (.cons id (.cons rfl (.cons rfl .nil))) ?_
     refine HZ D3 [] [] [] [4,5,6,7,98] [4,6,14,100000] [(HD l)=true->((HD l)=true)] ⟨(Bp [(7,Z3X l),(98,tB (bif decide (((W64 (2+(En l).1)):Int)<4) then decide ((0:Int)<(AA v5 3).1) else false))]),[(4,Z3V),(6,Z46 name v6_1),(14,.cells (AD.c (AA v5 3).2) 146),(100000,Z47 v6_1)]⟩ .nil kr (.cons id .nil)<|AH ?_
     refine A4 ?_
     first | rfl | (simp only [h2,Z4n,cond_true,cond_false] <;> rfl)
    ·have g2:=oF h2
     refine FH ?_
     refine JT D3 4 [] [] [] [4,5,6,7,94,95] [4,6,14,100000] [] ⟨(Bp [(7,Z3X l),(94,Z3Z l),(95,Z40 l)]),[(4,Z3V),(6,Z46 name v6_1),(NT v5),(100000,Z47 v6_1)]⟩ .nil kr .nil ?_
     refine O1 2 true ((HD l)=true) ⟨(Bp [(7,Z3X l),(94,Z3Z l),(95,Z40 l),(96,.grd ((HD l)=true) (.one (.b false)))]),[(4,Z3V),(6,Z46 name v6_1),(NT v5),(100000,Z47 v6_1)]⟩ rfl kr (fun e=>by rw [h2] at e;cases e) kr kr ?_
     refine HZ D3 [] [] [] [4,5,6,7,98] [4,6,14,100000] [¬ ((HD l)=true),(HD l)=true->((HD l)=true)] ⟨(Bp [(7,Z3X l),(98,tB (bif decide (((W64 (2+(En l).1)):Int)<4) then false else false))]),[(4,Z3V),(6,Z46 name v6_1),(NT v5),(100000,Z47 v6_1)]⟩ .nil kr (.cons (fun e=>by rw [h2] at e;cases e) (.cons id .nil))<|AH ?_
     refine A4 ?_
     first | rfl | (simp only [h2,Z4n,cond_true,cond_false] <;> rfl)
   refine Bc (⟨(Bp [(NW l)]),[Cg,(6,.cells [.s name,.own 100000 7 v6_1.length,.own 100001 2 (Z4s l v5).length] 61),(14,.cells (AD.c (Z4r l v5)) 146),(KG v6_1),(100001,.row 2 (Z4s l v5).length (Ak A0.c (Z4s l v5)) 166)]⟩) ?_ ?_
   ·refine AY (bif decide (((W64 (2+(AA (AD.mk l 0) 5).1)):Int)<4) then (bif decide (((W64 (2+(AA (AD.mk l 0) 5).1)):Int)<4) then decide ((0:Int)<(AA v5 3).1) else false) else (bif decide (((W64 (2+(AA (AD.mk l 0) 5).1)):Int)<4) then false else false)) kr (fun h2 => ?_) (fun h2 => ?_)
    ·refine DF D3 [107] [] [(99,CB 0),(101,CB 1),(103,(Z4o l v5))] [4,5,6,7] [4,6,14,107,100000] [Ap (CB 0).2.1,Ap (CB 1).2.1,Ap (Z4o l v5).2.1,Bo (.cells (AD.c (Z4n l v5)) 146)] ⟨(Ia l),[(4,Z3V),(6,.cells [.s name,.own 100000 7 v6_1.length,.own 107 2 1] 61),(14,Z4p l v5),(107,.row 2 1 (A8 2 1 [.i 0,.list true 2 2 (A8 2 2 [.s (Aj 0),.i 1,.s (Aj 1),.i (AA (Z4n l v5) 2).1])]) 166),(100000,Z47 v6_1)]⟩ (.cons (EK 0 au6) (.cons (EK 1 au6) (.cons (Ag (fun _ _=>kr) kr kr (BJ (Z4n l v5) 2 au5 au8)) .nil))) kr (.cons rfl (.cons rfl (.cons rfl (.cons rfl .nil))))<|AH ?_
     refine Cv.trans (BS (⟨(Ia l),[(4,Z3V),(6,.cells [.s name,.own 100000 7 v6_1.length,.own 107 2 ([A0.mk 0 [Bd.mk (Aj 0) 1,Bd.mk (Aj 1) (AA (Z4n l v5) 2).1]].length)] 61),(14,Z4p l v5),(107,Z4q l v5),(100000,Z47 v6_1)]⟩) lr (.cons ⟨rfl,.refl _⟩ (.cons ⟨rfl,.cells _ (rr (rr (.cons (.own _ _ au2) .nil)))⟩ (.cons ⟨rfl,.refl _⟩ (.cons ⟨rfl,Aw 166 (Er (c:=A0.c) (xs:=([A0.mk 0 [Bd.mk (Aj 0) 1,Bd.mk (Aj 1) (AA (Z4n l v5) 2).1]]:List A0)) (y:=[[.i 0,.list true 2 2 (A8 2 2 [.s (Aj 0),.i 1,.s (Aj 1),.i (AA (Z4n l v5) 2).1])]]) (z:=[[.i 0,lst 2 Bd.c [Bd.mk (Aj 0) 1,Bd.mk (Aj 1) (AA (Z4n l v5) 2).1]]]) rfl kr kr (.cons (rr (.cons (Bj true (A3 (c:=Bd.c) (xs:=([Bd.mk (Aj 0) 1,Bd.mk (Aj 1) (AA (Z4n l v5) 2).1]:List Bd)) rfl kr)) .nil)) .nil))⟩ lr))))) (Cv.trans (vr 107 100001 (K:=[]) (fun k x h=>by cases h)) (Cv.trans (ck (⟨(Ia l),[(4,Z3V),(6,Z4I name v6_1 l v5),(14,Z4p l v5),(100000,Z47 v6_1),(100001,Z4q l v5)]⟩)) (A4 ?_)))
     first | rfl | (simp only [h2,Z4r,Z4s,cond_true,cond_false] <;> rfl)
    ·refine Ae<|AH ?_
     refine Cv.trans (vk [4,5,6,7] [4,6,14,100000]) (Cv.trans (wg (⟨(Ia l),[(100001,.row 2 0 (fun _ _=>default) 166),(4,Z3V),(6,.cells [.s name,.own 100000 7 v6_1.length,.own 100001 2 0] 61),(14,.cells (AD.c (Z4n l v5)) 146),(100000,Z47 v6_1)]⟩) 100001 2 (fun _ _=>default) 166 [] [(6,[2])] (K:=[]) (fun k x h=>by cases h)) (Cv.trans (BS (⟨(Ia l),[(100001,Z41),(4,Z3V),(6,Z4J name v6_1),(14,.cells (AD.c (Z4n l v5)) 146),(100000,Z47 v6_1)]⟩) lr (.cons ⟨rfl,Aw 166 (C3 2 (fun _ _=>default) A0.c)⟩ (.cons ⟨rfl,.refl _⟩ (.cons ⟨rfl,.cells _ (rr (rr (.cons (.own _ _ au2) .nil)))⟩ lr)))) (Cv.trans (ck (⟨(Ia l),[(4,Z3V),(6,Z4J name v6_1),(14,.cells (AD.c (Z4n l v5)) 146),(100000,Z47 v6_1),(100001,Z41)]⟩)) (A4 ?_))))
     first | rfl | (simp only [h2,Z4r,Z4s,cond_true,cond_false] <;> rfl)
   refine AC<|AC ?_
   refine Bc (⟨(Bp [(NW l),(115,tB (bif decide ((4:Int)<=(W64 (2+(AA (AD.mk l 0) 5).1))) then (bif decide ((4:Int)<=(W64 (2+(AA (AD.mk l 0) 5).1))) then decide ((0:Int)<(AA (Z4r l v5) 3).1) else false) else (bif decide ((4:Int)<=(W64 (2+(AA (AD.mk l 0) 5).1))) then false else false)))]),[Cg,(6,.cells [.s name,.own 100000 7 v6_1.length,.own 100001 2 (Z4s l v5).length] 61),(14,.cells (AD.c (Z4v l v5)) 146),(KG v6_1),(100001,.row 2 (Z4s l v5).length (Ak A0.c (Z4s l v5)) 166)]⟩) ?_ ?_
   ·refine TY (HG l) (fun h2 => ?_) (fun h2 => ?_)
    ·have g2:=oT h2
     refine FH ?_
     refine JT D3 4 [] [] [] [4,5,6,7,111,112] [4,6,14,100000,100001] [] ⟨(Bp [(7,Z3X l),(111,Z42 l),(112,Z43 l)]),[(4,Z3V),(6,Z4K name v6_1 l v5),(14,.cells (AD.c (Z4r l v5)) 146),(100000,Z47 v6_1),(100001,Z4u l v5)]⟩ .nil kr .nil ?_
     refine O0 D3 2 true ((HG l)=true) [] [(113,(Z4t l v5))] [((HG l)=true)->((HG l)=true),Ap (Z4t l v5).2.1,Bo (.cells (AD.c (Z4r l v5)) 146)] ⟨(Bp [(7,Z3X l),(111,Z42 l),(112,Z43 l),(113,tI (AA (Z4r l v5) 3).1)]),[(4,Z3V),(6,Z4K name v6_1 l v5),(14,.cells (AD.c (AA (Z4r l v5) 3).2) 146),(100000,Z47 v6_1),(100001,Z4u l v5)]⟩ rfl kr h2 (.cons (Ag (fun _ _=>kr) kr kr (BJ (Z4r l v5) 3 au5 au8)) .nil) kr (.cons id (.cons rfl (.cons rfl .nil))) ?_
     refine HZ D3 [] [] [] [4,5,6,7,115] [4,6,14,100000,100001] [(HG l)=true->((HG l)=true)] ⟨(Bp [(7,Z3X l),(115,tB (bif decide ((4:Int)<=(W64 (2+(En l).1))) then decide ((0:Int)<(AA (Z4r l v5) 3).1) else false))]),[(4,Z3V),(6,Z4K name v6_1 l v5),(14,.cells (AD.c (AA (Z4r l v5) 3).2) 146),(100000,Z47 v6_1),(100001,Z4u l v5)]⟩ .nil kr (.cons id .nil)<|AH ?_
     refine A4 ?_
     first | rfl | (simp only [h2,Z4v,cond_true,cond_false] <;> rfl)
    ·have g2:=oF h2
     refine FH ?_
     refine JT D3 4 [] [] [] [4,5,6,7,111,112] [4,6,14,100000,100001] [] ⟨(Bp [(7,Z3X l),(111,Z42 l),(112,Z43 l)]),[(4,Z3V),(6,Z4K name v6_1 l v5),(14,.cells (AD.c (Z4r l v5)) 146),(100000,Z47 v6_1),(100001,Z4u l v5)]⟩ .nil kr .nil ?_
     refine O1 2 true ((HG l)=true) ⟨(Bp [(7,Z3X l),(111,Z42 l),(112,Z43 l),(113,.grd ((HG l)=true) (.one (.b false)))]),[(4,Z3V),(6,Z4K name v6_1 l v5),(14,.cells (AD.c (Z4r l v5)) 146),(100000,Z47 v6_1),(100001,Z4u l v5)]⟩ rfl kr (fun e=>by rw [h2] at e;cases e) kr kr ?_
     refine HZ D3 [] [] [] [4,5,6,7,115] [4,6,14,100000,100001] [¬ ((HG l)=true),(HG l)=true->((HG l)=true)] ⟨(Bp [(7,Z3X l),(115,tB (bif decide ((4:Int)<=(W64 (2+(En l).1))) then false else false))]),[(4,Z3V),(6,Z4K name v6_1 l v5),(14,.cells (AD.c (Z4r l v5)) 146),(100000,Z47 v6_1),(100001,Z4u l v5)]⟩ .nil kr (.cons (fun e=>by rw [h2] at e;cases e) (.cons id .nil))<|AH ?_
     refine A4 ?_
     first | rfl | (simp only [h2,Z4v,cond_true,cond_false] <;> rfl)
   refine Bc (⟨(Bp [(NW l)]),[Cg,(6,.cells [.s name,.own 100000 7 v6_1.length,.own 100002 2 (Z4A l v5).length] 61),(14,.cells (AD.c (Z4z l v5)) 146),(KG v6_1),(100002,.row 2 (Z4A l v5).length (Ak A0.c (Z4A l v5)) 166)]⟩) ?_ ?_
   ·refine AY (bif decide ((4:Int)<=(W64 (2+(AA (AD.mk l 0) 5).1))) then (bif decide ((4:Int)<=(W64 (2+(AA (AD.mk l 0) 5).1))) then decide ((0:Int)<(AA (Z4r l v5) 3).1) else false) else (bif decide ((4:Int)<=(W64 (2+(AA (AD.mk l 0) 5).1))) then false else false)) kr (fun h2 => ?_) (fun h2 => ?_)
    ·refine AC<|rb 117 (Z4w l v5) (.cells (AD.c (Z4v l v5)) 146) ⟨(Bp [(7,Z3X l),(11,tI (AA (Z4v l v5) 2).1)]),[(4,Z3V),(6,Z4K name v6_1 l v5),(14,Z4x l v5),(100000,Z47 v6_1),(100001,Z4u l v5)]⟩ (Ag (fun _ _=>kr) kr kr (BJ (Z4v l v5) 2 au5 au8))<|AH ?_
     refine DF D3 [134] [] [(118,CB 0),(121,CB 1),(126,CB 2),(129,CB 3)] [4,5,6,7] [4,6,14,134,100000] [Ap (CB 0).2.1,Ap (CB 1).2.1,Ap (CB 2).2.1,Ap (CB 3).2.1] ⟨(Ia l),[(4,Z3V),(6,.cells [.s name,.own 100000 7 v6_1.length,.own 134 2 2] 61),(14,Z4x l v5),(134,.row 2 2 (A8 2 2 [.i 1,.list true 2 2 (A8 2 2 [.s (Aj 0),.i (AA (Z4v l v5) 2).1,.s (Aj 1),.i (AA (Z4v l v5) 2).1]),.i 1,.list true 2 2 (A8 2 2 [.s (Aj 2),.i (AA (Z4v l v5) 2).1,.s (Aj 3),.i (AA (Z4v l v5) 2).1])]) 166),(100000,Z47 v6_1)]⟩ (.cons (EK 0 au6) (.cons (EK 1 au6) (.cons (EK 2 au6) (.cons (EK 3 au6) .nil)))) kr (.cons rfl (.cons rfl (.cons rfl (.cons rfl .nil))))<|AH ?_
     refine Cv.trans (BS (⟨(Ia l),[(4,Z3V),(6,.cells [.s name,.own 100000 7 v6_1.length,.own 134 2 ([A0.mk 1 [Bd.mk (Aj 0) (AA (Z4v l v5) 2).1,Bd.mk (Aj 1) (AA (Z4v l v5) 2).1],A0.mk 1 [Bd.mk (Aj 2) (AA (Z4v l v5) 2).1,Bd.mk (Aj 3) (AA (Z4v l v5) 2).1]].length)] 61),(14,Z4x l v5),(134,Z4y l v5),(100000,Z47 v6_1)]⟩) lr (.cons ⟨rfl,.refl _⟩ (.cons ⟨rfl,.cells _ (rr (rr (.cons (.own _ _ au2) .nil)))⟩ (.cons ⟨rfl,.refl _⟩ (.cons ⟨rfl,Aw 166 (Er (c:=A0.c) (xs:=([A0.mk 1 [Bd.mk (Aj 0) (AA (Z4v l v5) 2).1,Bd.mk (Aj 1) (AA (Z4v l v5) 2).1],A0.mk 1 [Bd.mk (Aj 2) (AA (Z4v l v5) 2).1,Bd.mk (Aj 3) (AA (Z4v l v5) 2).1]]:List A0)) (y:=[[.i 1,.list true 2 2 (A8 2 2 [.s (Aj 0),.i (AA (Z4v l v5) 2).1,.s (Aj 1),.i (AA (Z4v l v5) 2).1])],[.i 1,.list true 2 2 (A8 2 2 [.s (Aj 2),.i (AA (Z4v l v5) 2).1,.s (Aj 3),.i (AA (Z4v l v5) 2).1])]]) (z:=[[.i 1,lst 2 Bd.c [Bd.mk (Aj 0) (AA (Z4v l v5) 2).1,Bd.mk (Aj 1) (AA (Z4v l v5) 2).1]],[.i 1,lst 2 Bd.c [Bd.mk (Aj 2) (AA (Z4v l v5) 2).1,Bd.mk (Aj 3) (AA (Z4v l v5) 2).1]]]) rfl kr kr (.cons (rr (.cons (Bj true (A3 (c:=Bd.c) (xs:=([Bd.mk (Aj 0) (AA (Z4v l v5) 2).1,Bd.mk (Aj 1) (AA (Z4v l v5) 2).1]:List Bd)) rfl kr)) .nil)) (.cons (rr (.cons (Bj true (A3 (c:=Bd.c) (xs:=([Bd.mk (Aj 2) (AA (Z4v l v5) 2).1,Bd.mk (Aj 3) (AA (Z4v l v5) 2).1]:List Bd)) rfl kr)) .nil)) .nil)))⟩ lr))))) (Cv.trans (vr 134 100002 (K:=[]) (fun k x h=>by cases h)) (Cv.trans (ck (⟨(Ia l),[(4,Z3V),(6,Z4L name v6_1 l v5),(14,Z4x l v5),(100000,Z47 v6_1),(100002,Z4y l v5)]⟩)) (A4 ?_)))
     first | rfl | (simp only [h2,Z4z,Z4A,cond_true,cond_false] <;> rfl)
    ·refine Ae<|AH ?_
     refine Cv.trans (vk [4,5,6,7] [4,6,14,100000,100001]) (Cv.trans (wr (⟨(Ia l),[(4,Z3V),(6,.cells [.s name,.own 100000 7 v6_1.length,.own 100002 2 (Z4s l v5).length] 61),(14,.cells (AD.c (Z4v l v5)) 146),(100000,Z47 v6_1),(100002,Z4u l v5)]⟩) 100001 100002 (K:=[]) (fun k x h=>by cases h)) (A4 ?_))
     first | rfl | (simp only [h2,Z4z,Z4A,cond_true,cond_false] <;> rfl)
   refine AC<|AC ?_
   refine Bc (⟨(Bp [(148,tB (bif bif decide (((W64 (2+(AA (AD.mk l 0) 5).1)):Int)=6) then decide ((0:Int)<(((Z4A l v5).length:Nat):Int)) else false then (bif bif decide (((W64 (2+(AA (AD.mk l 0) 5).1)):Int)=6) then decide ((0:Int)<(((Z4A l v5).length:Nat):Int)) else false then decide (((AA (Z4z l v5) 2).1:Int)=1) else false) else (bif bif decide (((W64 (2+(AA (AD.mk l 0) 5).1)):Int)=6) then decide ((0:Int)<(((Z4A l v5).length:Nat):Int)) else false then false else false)))]),[Cg,(6,.cells [.s name,.own 100000 7 v6_1.length,.own 100002 2 (Z4A l v5).length] 61),(14,.cells (AD.c (Z4D l v5)) 146),(KG v6_1),(100002,.row 2 (Z4A l v5).length (Ak A0.c (Z4A l v5)) 166)]⟩) ?_ ?_
   ·refine TY (bif decide (((W64 (2+(AA (AD.mk l 0) 5).1)):Int)=6) then decide ((0:Int)<(((Z4A l v5).length:Nat):Int)) else false) (fun h2 => ?_) (fun h2 => ?_)
    ·have g2:=Rq h2
     refine FH ?_
     refine JT D3 10 [] [] [] [4,5,6,144,145] [4,6,14,100000,100002] [((Fw l)=true)->((Fw l)=true),((Fw l)=true)->((Fw l)=true),((Fw l)=true)->((Fw l)=true),(Fw l)=true->((Fw l)=true)] ⟨(Bp [(144,tB (bif decide (((W64 (2+(En l).1)):Int)=6) then decide ((0:Int)<(((Z4A l v5).length:Nat):Int)) else false)),(145,.grd ((bif decide (((W64 (2+(En l).1)):Int)=6) then decide ((0:Int)<(((Z4A l v5).length:Nat):Int)) else false)=true) Lh)]),[(4,Z3V),(6,Z4M name v6_1 l v5),(14,.cells (AD.c (Z4z l v5)) 146),(100000,Z47 v6_1),(100002,Z4C l v5)]⟩ .nil kr (.cons id (.cons id (.cons id (.cons id .nil)))) ?_
     refine O0 D3 8 true ((bif decide (((W64 (2+(AA (AD.mk l 0) 5).1)):Int)=6) then decide ((0:Int)<(((Z4A l v5).length:Nat):Int)) else false)=true) [] [(146,(Z4B l v5))] [((bif decide (((W64 (2+(AA (AD.mk l 0) 5).1)):Int)=6) then decide ((0:Int)<(((Z4A l v5).length:Nat):Int)) else false)=true)->((bif decide (((W64 (2+(AA (AD.mk l 0) 5).1)):Int)=6) then decide ((0:Int)<(((Z4A l v5).length:Nat):Int)) else false)=true),Ap (Z4B l v5).2.1,Bo (.cells (AD.c (Z4z l v5)) 146)] ⟨(Bp [(144,tB (bif decide (((W64 (2+(En l).1)):Int)=6) then decide ((0:Int)<(((Z4A l v5).length:Nat):Int)) else false)),(145,.grd ((bif decide (((W64 (2+(En l).1)):Int)=6) then decide ((0:Int)<(((Z4A l v5).length:Nat):Int)) else false)=true) Lh),(146,tI (AA (Z4z l v5) 2).1)]),[(4,Z3V),(6,Z4M name v6_1 l v5),(14,.cells (AD.c (AA (Z4z l v5) 2).2) 146),(100000,Z47 v6_1),(100002,Z4C l v5)]⟩ rfl kr h2 (.cons (Ag (fun _ _=>kr) kr kr (BJ (Z4z l v5) 2 au5 au8)) .nil) kr (.cons id (.cons rfl (.cons rfl .nil))) ?_
     refine HZ D3 [] [] [] [4,5,6,148] [4,6,14,100000,100002] [(bif decide (((W64 (2+(AA (AD.mk l 0) 5).1)):Int)=6) then decide ((0:Int)<(((Z4A l v5).length:Nat):Int)) else false)=true->((bif decide (((W64 (2+(AA (AD.mk l 0) 5).1)):Int)=6) then decide ((0:Int)<(((Z4A l v5).length:Nat):Int)) else false)=true)] ⟨(Bp [(148,tB (bif bif decide (((W64 (2+(En l).1)):Int)=6) then decide ((0:Int)<(((Z4A l v5).length:Nat):Int)) else false then decide (((AA (Z4z l v5) 2).1:Int)=1) else false))]),[(4,Z3V),(6,Z4M name v6_1 l v5),(14,.cells (AD.c (AA (Z4z l v5) 2).2) 146),(100000,Z47 v6_1),(100002,Z4C l v5)]⟩ .nil kr (.cons id .nil)<|AH ?_
     refine A4 ?_
     first | rfl | (simp only [h2,Z4D,cond_true,cond_false] <;> rfl)
    ·refine FH ?_
     refine JT D3 10 [] [] [] [4,5,6,144,145] [4,6,14,100000,100002] [((Fw l)=true)->((Fw l)=true),((Fw l)=true)->((Fw l)=true),((Fw l)=true)->((Fw l)=true),(Fw l)=true->((Fw l)=true)] ⟨(Bp [(144,tB (bif decide (((W64 (2+(En l).1)):Int)=6) then decide ((0:Int)<(((Z4A l v5).length:Nat):Int)) else false)),(145,.grd ((bif decide (((W64 (2+(En l).1)):Int)=6) then decide ((0:Int)<(((Z4A l v5).length:Nat):Int)) else false)=true) Lh)]),[(4,Z3V),(6,Z4M name v6_1 l v5),(14,.cells (AD.c (Z4z l v5)) 146),(100000,Z47 v6_1),(100002,Z4C l v5)]⟩ .nil kr (.cons id (.cons id (.cons id (.cons id .nil)))) ?_
     refine O1 8 true ((bif decide (((W64 (2+(AA (AD.mk l 0) 5).1)):Int)=6) then decide ((0:Int)<(((Z4A l v5).length:Nat):Int)) else false)=true) ⟨(Bp [(144,tB (bif decide (((W64 (2+(En l).1)):Int)=6) then decide ((0:Int)<(((Z4A l v5).length:Nat):Int)) else false)),(145,.grd ((bif decide (((W64 (2+(En l).1)):Int)=6) then decide ((0:Int)<(((Z4A l v5).length:Nat):Int)) else false)=true) Lh),(146,.grd ((bif decide (((W64 (2+(En l).1)):Int)=6) then decide ((0:Int)<(((Z4A l v5).length:Nat):Int)) else false)=true) (.one (.b false)))]),[(4,Z3V),(6,Z4M name v6_1 l v5),(14,.cells (AD.c (Z4z l v5)) 146),(100000,Z47 v6_1),(100002,Z4C l v5)]⟩ rfl kr (fun e=>by rw [h2] at e;cases e) kr kr ?_
     refine HZ D3 [] [] [] [4,5,6,148] [4,6,14,100000,100002] [¬ ((bif decide (((W64 (2+(AA (AD.mk l 0) 5).1)):Int)=6) then decide ((0:Int)<(((Z4A l v5).length:Nat):Int)) else false)=true),(bif decide (((W64 (2+(AA (AD.mk l 0) 5).1)):Int)=6) then decide ((0:Int)<(((Z4A l v5).length:Nat):Int)) else false)=true->((bif decide (((W64 (2+(AA (AD.mk l 0) 5).1)):Int)=6) then decide ((0:Int)<(((Z4A l v5).length:Nat):Int)) else false)=true)] ⟨(Bp [(148,tB (bif bif decide (((W64 (2+(En l).1)):Int)=6) then decide ((0:Int)<(((Z4A l v5).length:Nat):Int)) else false then false else false))]),[(4,Z3V),(6,Z4M name v6_1 l v5),(14,.cells (AD.c (Z4z l v5)) 146),(100000,Z47 v6_1),(100002,Z4C l v5)]⟩ .nil kr (.cons (fun e=>by rw [h2] at e;cases e) (.cons id .nil))<|AH ?_
     refine A4 ?_
     first | rfl | (simp only [h2,Z4D,cond_true,cond_false] <;> rfl)
   refine Bc (⟨Ng,[Cg,(6,.cells [.s name,.own 100000 7 v6_1.length,.own 100003 2 (Z4G l v5).length] 61),(KG v6_1),(100003,.row 2 (Z4G l v5).length (Ak A0.c (Z4G l v5)) 166)]⟩) ?_ ?_
   ·refine AY (bif bif decide (((W64 (2+(AA (AD.mk l 0) 5).1)):Int)=6) then decide ((0:Int)<(((Z4A l v5).length:Nat):Int)) else false then (bif bif decide (((W64 (2+(AA (AD.mk l 0) 5).1)):Int)=6) then decide ((0:Int)<(((Z4A l v5).length:Nat):Int)) else false then decide (((AA (Z4z l v5) 2).1:Int)=1) else false) else (bif bif decide (((W64 (2+(AA (AD.mk l 0) 5).1)):Int)=6) then decide ((0:Int)<(((Z4A l v5).length:Nat):Int)) else false then false else false)) kr (fun h2 => ?_) (fun h2 => ?_)
    ·refine dw [] [(152,(Z4E l v5)),(153,CB 5),(163,CB 4)] [Ap (Z4E l v5).2.1,Bo (.cells (AD.c (Z4D l v5)) 146),Ap (CB 5).2.1,0<=(0:Int)/\(0:Int)<(((Z4A l v5).length:Nat):Int),0<(Z4A l v5).length,0<=(0:Int)/\(0:Int)<((((Z4A l v5).getD 0 default).Legs.length:Nat):Int),Ap (CB 4).2.1,0<=(0:Int)/\(0:Int)<(((Z4A l v5).length:Nat):Int),0<(Z4A l v5).length,0<=(1:Int)/\(1:Int)<((((Z4A l v5).getD 0 default).Legs.length:Nat):Int),(Z4A l v5).length=(Z4A l v5).length,(Z4A l v5).length+1<=maxLen,((Z4A l v5).length+1)*32<=140737488355328] ⟨Ng,[(4,Z3V),(6,.cells [.s name,.own 100000 7 v6_1.length,.own 176 2 ((Z4A l v5).length+1)] 61),(176,.row 2 ((Z4A l v5).length+1) (fun i_ j_=>if i_<(Z4A l v5).length then (Ak A0.c (Z4A l v5)) i_ j_ else (A8 2 1 [.i (AA (Z4D l v5) 3).1,.list true 2 2 (A8 2 2 [.s (Aj 5),.i (((Z4A l v5).getD 0 default).Legs.getD 0 default).Group,.s (Aj 4),.i (((Z4A l v5).getD 0 default).Legs.getD 1 default).Group])]) (i_-(Z4A l v5).length) j_) 166),(100000,Z47 v6_1)]⟩ (.cons (Ag (fun _ _=>kr) kr kr (BJ (Z4D l v5) 3 au5 au8)) (.cons (EK 5 au6) (.cons (EK 4 au6) .nil))) (.cons rfl (.cons rfl (.cons rfl (.cons ⟨by decide,(Ha (by with_reducible assumption))⟩ (.cons (Vp (Ha (by with_reducible assumption))) (.cons (WA (by decide) rfl rfl rfl (Ha (by with_reducible assumption))) (.cons rfl (.cons ⟨by decide,(Ha (by with_reducible assumption))⟩ (.cons (Vp (Ha (by with_reducible assumption))) (.cons (WA (by decide) rfl rfl rfl (Ha (by with_reducible assumption))) (.cons rfl (.cons (Zl (Pz rfl)) (.cons (Zm (Pz rfl)) .nil)))))))))))))<|AH ?_
     refine Cv.trans (BS (⟨Ng,[(4,Z3V),(6,.cells [.s name,.own 100000 7 v6_1.length,.own 176 2 ((Z4A l v5)++[A0.mk (AA (Z4D l v5) 3).1 [Bd.mk (Aj 5) (((Z4A l v5).getD 0 default).Legs.getD 0 default).Group,Bd.mk (Aj 4) (((Z4A l v5).getD 0 default).Legs.getD 1 default).Group]]).length] 61),(176,Z4F l v5),(100000,Z47 v6_1)]⟩) lr (.cons ⟨rfl,.refl _⟩ (.cons ⟨rfl,.cells _ (rr (rr (.cons (.own _ _ au2) .nil)))⟩ (.cons ⟨rfl,Aw 166 (Bi (BR 2 A0.c (Z4A l v5)) (Er (c:=A0.c) (xs:=([A0.mk (AA (Z4D l v5) 3).1 [Bd.mk (Aj 5) (((Z4A l v5).getD 0 default).Legs.getD 0 default).Group,Bd.mk (Aj 4) (((Z4A l v5).getD 0 default).Legs.getD 1 default).Group]]:List A0)) (y:=[[.i (AA (Z4D l v5) 3).1,.list true 2 2 (A8 2 2 [.s (Aj 5),.i (((Z4A l v5).getD 0 default).Legs.getD 0 default).Group,.s (Aj 4),.i (((Z4A l v5).getD 0 default).Legs.getD 1 default).Group])]]) (z:=[[.i (AA (Z4D l v5) 3).1,lst 2 Bd.c [Bd.mk (Aj 5) (((Z4A l v5).getD 0 default).Legs.getD 0 default).Group,Bd.mk (Aj 4) (((Z4A l v5).getD 0 default).Legs.getD 1 default).Group]]]) rfl kr kr (.cons (rr (.cons (Bj true (A3 (c:=Bd.c) (xs:=([Bd.mk (Aj 5) (((Z4A l v5).getD 0 default).Legs.getD 0 default).Group,Bd.mk (Aj 4) (((Z4A l v5).getD 0 default).Legs.getD 1 default).Group]:List Bd)) rfl kr)) .nil)) .nil)))⟩ lr)))) (Cv.trans (vr 176 100003 (K:=[]) (fun k x h=>by cases h)) (Cv.trans (ck (⟨Ng,[(4,Z3V),(6,Z4N name v6_1 l v5),(100000,Z47 v6_1),(100003,Z4F l v5)]⟩)) (A4 ?_)))
     first | rfl | (simp only [h2,Z4G,cond_true,cond_false] <;> rfl)
    ·refine Ae<|AH ?_
     refine Cv.trans (vk [4,6] [4,6,100000,100002]) (Cv.trans (wr (⟨Ng,[(4,Z3V),(6,.cells [.s name,.own 100000 7 v6_1.length,.own 100003 2 (Z4A l v5).length] 61),(100000,Z47 v6_1),(100003,Z4C l v5)]⟩) 100002 100003 (K:=[]) (fun k x h=>by cases h)) (A4 ?_))
     first | rfl | (simp only [h2,Z4G,cond_true,cond_false] <;> rfl)
   refine AC<|rn ⟨[(4,tP 4 0)],[(4,.cells [.s name,.own 100000 7 v6_1.length,.own 100003 2 (Z4G l v5).length] 61),(100000,Z47 v6_1),(100003,Z4H l v5)]⟩<|AZ ?_
   exact ⟨_,Cv.trans (vf 100000 7 v6_1.length (Ak Ay.c v6_1) 120 (K:=[]) (fun k x h=>by cases h) (.cons ⟨rfl,rfl⟩ .nil)) (Cv.trans (vf 100003 2 (Z4G l v5).length (Ak A0.c (Z4G l v5)) 166 (K:=[]) (fun k x h=>by cases h) (.cons ⟨rfl,rfl⟩ .nil)) (Cv.refl _)),.inl rfl,.av (.agg [.s name,lst 7 Ay.c v6_1,lst 2 A0.c (Z4G l v5)]),by kernel_rfl,Ad (by rw [<- hF0];first | (simp only [Cp,h1,cond_true,cond_false] <;> rfl))⟩
theorem Sb (l:(List Int)) (name:ByteArray) (hl:(l.length:Int)<=9223372036854775807):Aq Tryz.prog (Gv l name).1 (Gv l name).2.1 (Gv l name).2.2:=AR (fun _ _=>kr) fun _=>cJ l name hl
def JX (x0:AB) (x1:AB):AE:=AE.mk 1 x0 x1 (AB.mk 0 0)
def Ee (x0:AB) (x1:AB):FuncId×List Av×Ef:=(89,[.agg (AB.c x0),.agg (AB.c x1)],.val [] (.av (.agg (AE.c (JX x0 x1)))))
theorem bZ (x0:AB) (x1:AB):BH Tryz.prog 89 (Ee x0 x1).2.1 (.av (.agg (AE.c (JX x0 x1)))):=by
 refine AO Tryz.func89 rfl kr kr fun W0 M0 => ?_
 refine AC<|rn ⟨Lp,(X3 x0 x1)⟩<|AC ?_
 refine rn ⟨[(4,tP 4 0)],[(4,.cells (Qa x0 x1) 136)]⟩<|AZ ?_
 exact ⟨_,Cv.refl _,.inl rfl,.av (.agg (Qa x0 x1)),by kernel_rfl,Ad (by rfl)⟩
theorem Kw (x0:AB) (x1:AB):Aq Tryz.prog (Ee x0 x1).1 (Ee x0 x1).2.1 (Ee x0 x1).2.2:=AR (fun _ _=>kr) fun _=>bZ x0 x1
def Z4O:Blk:=.cells [.i 0,vN,.i 0] 27
def Z4P:Blk:=.cells [.i 2,vN,.i 0] 27
def Z4Q (r:An) (radius:Int):Blk:=.cells [.i (W64 (r.X1-radius)),.i (W64 (r.Y0+radius)),.i (W64 (r.X1-radius)),.i (W64 (r.Y1-radius)),.i (W64 (r.X0+radius)),.i (W64 (r.Y1-radius)),.i (W64 (r.X0+radius)),.i (W64 (r.Y0+radius))] 194
def Z4R (r:An) (radius:Int):AE:=Ev (AB.mk (W64 (r.X1-radius)) (W64 (r.Y0+radius))) radius 3 2
def Z4S (r:An) (radius:Int):AE:=Ev (AB.mk (W64 (r.X1-radius)) (W64 (r.Y1-radius))) radius 4 2
def Z4T (r:An) (radius:Int):Blk:=.cells (AE.c (Z4S r radius)) 136
def Z4U (r:An) (radius:Int):AE:=JX (Z4R r radius).B (Z4S r radius).A
def Z4V (r:An) (radius:Int):Blk:=.cells [.i 2,.own 77 7 ([Z4R r radius,Z4U r radius].length),.i 0] 27
def Z4W (r:An) (radius:Int):Blk:=.row 7 ([Z4R r radius,Z4U r radius].length) (Ak AE.c [Z4R r radius,Z4U r radius]) 136
def Z4X (r:An) (radius:Int):Blk:=.cells [.i 2,.own 100000 7 ([Z4R r radius,Z4U r radius].length),.i 0] 27
def Z4Y (r:An) (radius:Int):AE:=Ev (AB.mk (W64 (r.X0+radius)) (W64 (r.Y1-radius))) radius 5 2
def Z4Z (r:An) (radius:Int):Blk:=.cells (AE.c (Z4Y r radius)) 136
def Z50 (r:An) (radius:Int):AE:=JX (Z4S r radius).B (Z4Y r radius).A
def Z51 (r:An) (radius:Int):Blk:=.cells [.i 2,.own 77 7 ([Z4R r radius,Z4U r radius]++[Z4S r radius,Z50 r radius]).length,.i 0] 27
def Z52 (r:An) (radius:Int):Blk:=.row 7 ([Z4R r radius,Z4U r radius]++[Z4S r radius,Z50 r radius]).length (Ak AE.c ([Z4R r radius,Z4U r radius]++[Z4S r radius,Z50 r radius])) 136
def Z53 (r:An) (radius:Int):Blk:=.cells [.i 2,.own 100001 7 ([Z4R r radius,Z4U r radius]++[Z4S r radius,Z50 r radius]).length,.i 0] 27
def Z54 (r:An) (radius:Int):AE:=Ev (AB.mk (W64 (r.X0+radius)) (W64 (r.Y0+radius))) radius 6 2
def Z55 (r:An) (radius:Int):Blk:=.cells (AE.c (Z54 r radius)) 136
def Z56 (r:An) (radius:Int):AE:=JX (Z4Y r radius).B (Z54 r radius).A
def Z57 (r:An) (radius:Int):Blk:=.cells [.i 2,.own 77 7 (([Z4R r radius,Z4U r radius]++[Z4S r radius,Z50 r radius])++[Z4Y r radius,Z56 r radius]).length,.i 0] 27
abbrev X4 (r:An) (radius:Int):=Ak AE.c (([Z4R r radius,Z4U r radius]++[Z4S r radius,Z50 r radius])++[Z4Y r radius,Z56 r radius])
def Z58 (r:An) (radius:Int):Blk:=.row 7 (([Z4R r radius,Z4U r radius]++[Z4S r radius,Z50 r radius])++[Z4Y r radius,Z56 r radius]).length (X4 r radius) 136
def Z59 (r:An) (radius:Int):Blk:=.cells [.i 2,.own 100002 7 (([Z4R r radius,Z4U r radius]++[Z4S r radius,Z50 r radius])++[Z4Y r radius,Z56 r radius]).length,.i 0] 27
def Z5a (r:An) (radius:Int):AE:=Ev (AB.mk (W64 (r.X1-radius)) (W64 (r.Y0+radius))) radius 7 2
def Z5b (r:An) (radius:Int):AE:=JX (Z54 r radius).B (Z5a r radius).A
def Z5c (r:An) (radius:Int):Blk:=.cells [.i 2,.own 77 7 ((([Z4R r radius,Z4U r radius]++[Z4S r radius,Z50 r radius])++[Z4Y r radius,Z56 r radius])++[Z54 r radius,Z5b r radius]).length,.i 0] 27
def Z5d (r:An) (radius:Int):Blk:=.row 7 ((([Z4R r radius,Z4U r radius]++[Z4S r radius,Z50 r radius])++[Z4Y r radius,Z56 r radius])++[Z54 r radius,Z5b r radius]).length (Ak AE.c ((([Z4R r radius,Z4U r radius]++[Z4S r radius,Z50 r radius])++[Z4Y r radius,Z56 r radius])++[Z54 r radius,Z5b r radius])) 136
def Z5e (r:An) (radius:Int):Blk:=.cells [.i 2,.own 100003 7 ((([Z4R r radius,Z4U r radius]++[Z4S r radius,Z50 r radius])++[Z4Y r radius,Z56 r radius])++[Z54 r radius,Z5b r radius]).length,.i 0] 27
def GB (r:An) (radius:Int):AW:=AW.mk 2 ((([Z4R r radius,Z4U r radius]++[Z4S r radius,Z50 r radius])++[Z4Y r radius,Z56 r radius])++[Z54 r radius,Z5b r radius]) 0
def HX (r:An) (radius:Int):FuncId×List Av×Ef:=(49,[.agg (An.c r),.one (.i radius)],.val [] (.av (.agg (AW.c (GB r radius)))))
abbrev Db (radius:Int) (t_:List (Nat×Tv)):List (Nat×Tv):=(1,tI radius)::(4,tP 4 0)::(5,tP 5 0)::(6,tP 6 0)::t_
abbrev Qg (radius:Int):List (Nat×Tv):=(Db radius [(7,tI 1)])
abbrev Qf (radius:Int):List (Nat×Tv):=(Db radius [(7,tI 2)])
abbrev Qe (radius:Int):List (Nat×Tv):=(Db radius [(7,tI 3)])
abbrev Tp (radius:Int):List (Nat×Tv):=(Db radius [(7,tI 0)])
theorem Wq (r:An) (radius:Int):BH Tryz.prog 49 (HX r radius).2.1 (.av (.agg (AW.c (GB r radius)))):=by
 refine AO Tryz.func49 rfl kr kr fun W0 M0 => ?_
 refine AC<|rn ⟨[(1,tI radius),(2,tP 2 0),(4,tP 4 0)],[(2,.cells (An.c r) 74),(4,Z4O)]⟩<|AC ?_
 refine rn ⟨[(1,tI radius),(2,tP 2 0),(4,tP 4 0),(5,tP 5 0)],[(2,.cells (An.c r) 74),(4,Z4O),(5,Z4P)]⟩<|AC ?_
 refine rn ⟨(Db radius []),[(4,Z4O),(5,Z4P),(6,Z4Q r radius)]⟩ ?_
 refine AC<|AC ?_
 refine rn ⟨(Tp radius),[(4,Z4O),(5,Z4P),(6,Z4Q r radius)]⟩<|Af ?_
 refine ME 5 ?_
 refine Gb<|AC<|AC ?_
 refine rn ⟨(Db radius [(7,tI 0),(49,tB true)]),[(4,Z4O),(5,Z4P),(6,Z4Q r radius)]⟩ ?_
 refine Dz kr<|Ae ?_
 refine AH<|AC ?_
 refine Af<|AC ?_
 refine rc [(58,Bu (AB.mk (W64 (r.X1-radius)) (W64 (r.Y0+radius))) radius 3 2)] [0<=(0:Int)/\(0:Int)<(4:Int),Ap (Bu (AB.mk (W64 (r.X1-radius)) (W64 (r.Y0+radius))) radius 3 2).2.1] ⟨(Db radius [(7,tI 0),(8,tP 8 0)]),[(4,Z4O),(5,Z4P),(6,Z4Q r radius),(8,.cells (AE.c (Z4R r radius)) 136)]⟩ (.cons (Dt (AB.mk (W64 (r.X1-radius)) (W64 (r.Y0+radius))) radius 3 2) .nil) (.cons (by decide) (.cons rfl .nil))<|AH<|AC ?_
 refine rc [(67,Bu (AB.mk (W64 (r.X1-radius)) (W64 (r.Y1-radius))) radius 4 2)] [(4:Int)≠0,0<=(1:Int)/\(1:Int)<(4:Int),Ap (Bu (AB.mk (W64 (r.X1-radius)) (W64 (r.Y1-radius))) radius 4 2).2.1] ⟨(Db radius [(7,tI 0),(8,tP 8 0),(9,tP 9 0)]),[(4,Z4O),(5,Z4P),(6,Z4Q r radius),(8,.cells (AE.c (Z4R r radius)) 136),(9,Z4T r radius)]⟩ (.cons (Dt (AB.mk (W64 (r.X1-radius)) (W64 (r.Y1-radius))) radius 4 2) .nil) (.cons au14 (.cons (by decide) (.cons rfl .nil)))<|AH ?_
 refine dw [] [(75,Ee (Z4R r radius).B (Z4S r radius).A)] [Ap (Ee (Z4R r radius).B (Z4S r radius).A).2.1,2<=maxLen,2*56<=140737488355328] ⟨(Tp radius),[(4,Z4O),(5,.cells [.i 2,.own 77 7 2,.i 0] 27),(6,Z4Q r radius),(77,.row 7 2 (A8 7 2 [.i (Z4R r radius).Kind,.i (Z4R r radius).A.X,.i (Z4R r radius).A.Y,.i (Z4R r radius).B.X,.i (Z4R r radius).B.Y,.i (Z4R r radius).C.X,.i (Z4R r radius).C.Y,.i (Z4U r radius).Kind,.i (Z4U r radius).A.X,.i (Z4U r radius).A.Y,.i (Z4U r radius).B.X,.i (Z4U r radius).B.Y,.i (Z4U r radius).C.X,.i (Z4U r radius).C.Y]) 136)]⟩ (.cons (Kw (Z4R r radius).B (Z4S r radius).A) .nil) (.cons rfl (.cons au3 (.cons au3 .nil)))<|BZ<|AH ?_
 refine Bq (Cv.trans (BS (⟨(Tp radius),[(4,Z4O),(5,Z4V r radius),(6,Z4Q r radius),(77,Z4W r radius)]⟩) lr (.cons ⟨rfl,.refl _⟩ (.cons ⟨rfl,.cells _ (rr (.cons (.own _ _ au2) (rr .nil)))⟩ (.cons ⟨rfl,.refl _⟩ (.cons ⟨rfl,Aw 136 (A3 (c:=AE.c) (xs:=([Z4R r radius,Z4U r radius]:List AE)) rfl kr)⟩ .nil))))) (Cv.refl _)) ?_
 refine rn ⟨(Qg radius),[(4,Z4O),(5,Z4V r radius),(6,Z4Q r radius),(77,Z4W r radius)]⟩ ?_
 refine Gb ?_
 refine Bq (Cv.trans (wr (⟨(Qg radius),[(4,Z4O),(5,Z4X r radius),(6,Z4Q r radius),(100000,Z4W r radius)]⟩) 77 100000 (K:=[]) (fun k x h=>by cases h)) (Cv.refl _))<|AC<|AC ?_
 refine rn ⟨(Db radius [(7,tI 1),(49,tB true)]),[(4,Z4O),(5,Z4X r radius),(6,Z4Q r radius),(100000,Z4W r radius)]⟩ ?_
 refine Dz kr<|Ae ?_
 refine AH<|AC ?_
 refine Af<|AC ?_
 refine rc [(58,Bu (AB.mk (W64 (r.X1-radius)) (W64 (r.Y1-radius))) radius 4 2)] [0<=(1:Int)/\(1:Int)<(4:Int),Ap (Bu (AB.mk (W64 (r.X1-radius)) (W64 (r.Y1-radius))) radius 4 2).2.1] ⟨(Db radius [(7,tI 1),(8,tP 8 0)]),[(4,Z4O),(5,Z4X r radius),(6,Z4Q r radius),(8,Z4T r radius),(100000,Z4W r radius)]⟩ (.cons (Dt (AB.mk (W64 (r.X1-radius)) (W64 (r.Y1-radius))) radius 4 2) .nil) (.cons (by decide) (.cons rfl .nil))<|AH<|AC ?_
 refine rc [(67,Bu (AB.mk (W64 (r.X0+radius)) (W64 (r.Y1-radius))) radius 5 2)] [(4:Int)≠0,0<=(2:Int)/\(2:Int)<(4:Int),Ap (Bu (AB.mk (W64 (r.X0+radius)) (W64 (r.Y1-radius))) radius 5 2).2.1] ⟨(Db radius [(7,tI 1),(8,tP 8 0),(9,tP 9 0)]),[(4,Z4O),(5,Z4X r radius),(6,Z4Q r radius),(8,Z4T r radius),(9,Z4Z r radius),(100000,Z4W r radius)]⟩ (.cons (Dt (AB.mk (W64 (r.X0+radius)) (W64 (r.Y1-radius))) radius 5 2) .nil) (.cons au14 (.cons (by decide) (.cons rfl .nil)))<|AH ?_
 refine dw [] [(75,Ee (Z4S r radius).B (Z4Y r radius).A)] [Ap (Ee (Z4S r radius).B (Z4Y r radius).A).2.1,[Z4R r radius,Z4U r radius].length=[Z4R r radius,Z4U r radius].length,([Z4R r radius,Z4U r radius].length)+2<=maxLen,(([Z4R r radius,Z4U r radius].length)+2)*56<=140737488355328] ⟨(Qg radius),[(4,Z4O),(5,.cells [.i 2,.own 77 7 (([Z4R r radius,Z4U r radius].length)+2),.i 0] 27),(6,Z4Q r radius),(77,.row 7 (([Z4R r radius,Z4U r radius].length)+2) (fun i_ j_=>if i_<([Z4R r radius,Z4U r radius].length) then (Ak AE.c [Z4R r radius,Z4U r radius]) i_ j_ else (A8 7 2 [.i (Z4S r radius).Kind,.i (Z4S r radius).A.X,.i (Z4S r radius).A.Y,.i (Z4S r radius).B.X,.i (Z4S r radius).B.Y,.i (Z4S r radius).C.X,.i (Z4S r radius).C.Y,.i (Z50 r radius).Kind,.i (Z50 r radius).A.X,.i (Z50 r radius).A.Y,.i (Z50 r radius).B.X,.i (Z50 r radius).B.Y,.i (Z50 r radius).C.X,.i (Z50 r radius).C.Y]) (i_-([Z4R r radius,Z4U r radius].length)) j_) 136)]⟩ (.cons (Kw (Z4S r radius).B (Z4Y r radius).A) .nil) (.cons rfl (.cons rfl (.cons au3 (.cons au3 .nil))))<|BZ<|AH ?_
 refine Bq (Cv.trans (BS (⟨(Qg radius),[(4,Z4O),(5,Z51 r radius),(6,Z4Q r radius),(77,Z52 r radius)]⟩) lr (.cons ⟨rfl,.refl _⟩ (.cons ⟨rfl,.cells _ (rr (.cons (.own _ _ au2) (rr .nil)))⟩ (.cons ⟨rfl,.refl _⟩ (.cons ⟨rfl,Aw 136 (Bi (BR 7 AE.c [Z4R r radius,Z4U r radius]) (A3 (c:=AE.c) (xs:=([Z4S r radius,Z50 r radius]:List AE)) rfl kr))⟩ .nil))))) (Cv.refl _)) ?_
 refine rn ⟨(Qf radius),[(4,Z4O),(5,Z51 r radius),(6,Z4Q r radius),(77,Z52 r radius)]⟩ ?_
 refine Gb ?_
 refine Bq (Cv.trans (wr (⟨(Qf radius),[(4,Z4O),(5,Z53 r radius),(6,Z4Q r radius),(100001,Z52 r radius)]⟩) 77 100001 (K:=[]) (fun k x h=>by cases h)) (Cv.refl _))<|AC<|AC ?_
 refine rn ⟨(Db radius [(7,tI 2),(49,tB true)]),[(4,Z4O),(5,Z53 r radius),(6,Z4Q r radius),(100001,Z52 r radius)]⟩ ?_
 refine Dz kr<|Ae ?_
 refine AH<|AC ?_
 refine Af<|AC ?_
 refine rc [(58,Bu (AB.mk (W64 (r.X0+radius)) (W64 (r.Y1-radius))) radius 5 2)] [0<=(2:Int)/\(2:Int)<(4:Int),Ap (Bu (AB.mk (W64 (r.X0+radius)) (W64 (r.Y1-radius))) radius 5 2).2.1] ⟨(Db radius [(7,tI 2),(8,tP 8 0)]),[(4,Z4O),(5,Z53 r radius),(6,Z4Q r radius),(8,Z4Z r radius),(100001,Z52 r radius)]⟩ (.cons (Dt (AB.mk (W64 (r.X0+radius)) (W64 (r.Y1-radius))) radius 5 2) .nil) (.cons (by decide) (.cons rfl .nil))<|AH<|AC ?_
 refine rc [(67,Bu (AB.mk (W64 (r.X0+radius)) (W64 (r.Y0+radius))) radius 6 2)] [(4:Int)≠0,0<=(3:Int)/\(3:Int)<(4:Int),Ap (Bu (AB.mk (W64 (r.X0+radius)) (W64 (r.Y0+radius))) radius 6 2).2.1] ⟨(Db radius [(7,tI 2),(8,tP 8 0),(9,tP 9 0)]),[(4,Z4O),(5,Z53 r radius),(6,Z4Q r radius),(8,Z4Z r radius),(9,Z55 r radius),(100001,Z52 r radius)]⟩ (.cons (Dt (AB.mk (W64 (r.X0+radius)) (W64 (r.Y0+radius))) radius 6 2) .nil) (.cons au14 (.cons (by decide) (.cons rfl .nil)))<|AH ?_
 refine dw [] [(75,Ee (Z4Y r radius).B (Z54 r radius).A)] [Ap (Ee (Z4Y r radius).B (Z54 r radius).A).2.1,([Z4R r radius,Z4U r radius]++[Z4S r radius,Z50 r radius]).length=([Z4R r radius,Z4U r radius]++[Z4S r radius,Z50 r radius]).length,([Z4R r radius,Z4U r radius]++[Z4S r radius,Z50 r radius]).length+2<=maxLen,(([Z4R r radius,Z4U r radius]++[Z4S r radius,Z50 r radius]).length+2)*56<=140737488355328] ⟨(Qf radius),[(4,Z4O),(5,.cells [.i 2,.own 77 7 (([Z4R r radius,Z4U r radius]++[Z4S r radius,Z50 r radius]).length+2),.i 0] 27),(6,Z4Q r radius),(77,.row 7 (([Z4R r radius,Z4U r radius]++[Z4S r radius,Z50 r radius]).length+2) (fun i_ j_=>if i_<([Z4R r radius,Z4U r radius]++[Z4S r radius,Z50 r radius]).length then (Ak AE.c ([Z4R r radius,Z4U r radius]++[Z4S r radius,Z50 r radius])) i_ j_ else (A8 7 2 [.i (Z4Y r radius).Kind,.i (Z4Y r radius).A.X,.i (Z4Y r radius).A.Y,.i (Z4Y r radius).B.X,.i (Z4Y r radius).B.Y,.i (Z4Y r radius).C.X,.i (Z4Y r radius).C.Y,.i (Z56 r radius).Kind,.i (Z56 r radius).A.X,.i (Z56 r radius).A.Y,.i (Z56 r radius).B.X,.i (Z56 r radius).B.Y,.i (Z56 r radius).C.X,.i (Z56 r radius).C.Y]) (i_-([Z4R r radius,Z4U r radius]++[Z4S r radius,Z50 r radius]).length) j_) 136)]⟩ (.cons (Kw (Z4Y r radius).B (Z54 r radius).A) .nil) (.cons rfl (.cons rfl (.cons au3 (.cons au3 .nil))))<|BZ<|AH ?_
 refine Bq (Cv.trans (BS (⟨(Qf radius),[(4,Z4O),(5,Z57 r radius),(6,Z4Q r radius),(77,Z58 r radius)]⟩) lr (.cons ⟨rfl,.refl _⟩ (.cons ⟨rfl,.cells _ (rr (.cons (.own _ _ au2) (rr .nil)))⟩ (.cons ⟨rfl,.refl _⟩ (.cons ⟨rfl,Aw 136 (Bi (BR 7 AE.c ([Z4R r radius,Z4U r radius]++[Z4S r radius,Z50 r radius])) (A3 (c:=AE.c) (xs:=([Z4Y r radius,Z56 r radius]:List AE)) rfl kr))⟩ .nil))))) (Cv.refl _)) ?_
 refine rn ⟨(Qe radius),[(4,Z4O),(5,Z57 r radius),(6,Z4Q r radius),(77,Z58 r radius)]⟩ ?_
 refine Gb ?_
 refine Bq (Cv.trans (wr (⟨(Qe radius),[(4,Z4O),(5,Z59 r radius),(6,Z4Q r radius),(100002,Z58 r radius)]⟩) 77 100002 (K:=[]) (fun k x h=>by cases h)) (Cv.refl _))<|AC<|AC ?_
 refine rn ⟨(Db radius [(7,tI 3),(49,tB true)]),[(4,Z4O),(5,Z59 r radius),(6,Z4Q r radius),(100002,Z58 r radius)]⟩ ?_
 refine Dz kr<|Ae ?_
 refine AH<|AC ?_
 refine Af<|AC ?_
 refine rc [(58,Bu (AB.mk (W64 (r.X0+radius)) (W64 (r.Y0+radius))) radius 6 2)] [0<=(3:Int)/\(3:Int)<(4:Int),Ap (Bu (AB.mk (W64 (r.X0+radius)) (W64 (r.Y0+radius))) radius 6 2).2.1] ⟨(Db radius [(7,tI 3),(8,tP 8 0)]),[(4,Z4O),(5,Z59 r radius),(6,Z4Q r radius),(8,Z55 r radius),(100002,Z58 r radius)]⟩ (.cons (Dt (AB.mk (W64 (r.X0+radius)) (W64 (r.Y0+radius))) radius 6 2) .nil) (.cons (by decide) (.cons rfl .nil))<|AH<|AC ?_
 refine rc [(67,Bu (AB.mk (W64 (r.X1-radius)) (W64 (r.Y0+radius))) radius 7 2)] [(4:Int)≠0,0<=(0:Int)/\(0:Int)<(4:Int),Ap (Bu (AB.mk (W64 (r.X1-radius)) (W64 (r.Y0+radius))) radius 7 2).2.1] ⟨(Db radius [(7,tI 3),(8,tP 8 0),(9,tP 9 0)]),[(4,Z4O),(5,Z59 r radius),(6,Z4Q r radius),(8,Z55 r radius),(9,.cells (AE.c (Z5a r radius)) 136),(100002,Z58 r radius)]⟩ (.cons (Dt (AB.mk (W64 (r.X1-radius)) (W64 (r.Y0+radius))) radius 7 2) .nil) (.cons au14 (.cons (by decide) (.cons rfl .nil)))<|AH ?_
 refine dw [] [(75,Ee (Z54 r radius).B (Z5a r radius).A)] [Ap (Ee (Z54 r radius).B (Z5a r radius).A).2.1,(([Z4R r radius,Z4U r radius]++[Z4S r radius,Z50 r radius])++[Z4Y r radius,Z56 r radius]).length=(([Z4R r radius,Z4U r radius]++[Z4S r radius,Z50 r radius])++[Z4Y r radius,Z56 r radius]).length,(([Z4R r radius,Z4U r radius]++[Z4S r radius,Z50 r radius])++[Z4Y r radius,Z56 r radius]).length+2<=maxLen,((([Z4R r radius,Z4U r radius]++[Z4S r radius,Z50 r radius])++[Z4Y r radius,Z56 r radius]).length+2)*56<=140737488355328] ⟨(Qe radius),[(4,Z4O),(5,.cells [.i 2,.own 77 7 ((([Z4R r radius,Z4U r radius]++[Z4S r radius,Z50 r radius])++[Z4Y r radius,Z56 r radius]).length+2),.i 0] 27),(6,Z4Q r radius),(77,.row 7 ((([Z4R r radius,Z4U r radius]++[Z4S r radius,Z50 r radius])++[Z4Y r radius,Z56 r radius]).length+2) (fun i_ j_=>if i_<(([Z4R r radius,Z4U r radius]++[Z4S r radius,Z50 r radius])++[Z4Y r radius,Z56 r radius]).length then (X4 r radius) i_ j_ else (A8 7 2 [.i (Z54 r radius).Kind,.i (Z54 r radius).A.X,.i (Z54 r radius).A.Y,.i (Z54 r radius).B.X,.i (Z54 r radius).B.Y,.i (Z54 r radius).C.X,.i (Z54 r radius).C.Y,.i (Z5b r radius).Kind,.i (Z5b r radius).A.X,.i (Z5b r radius).A.Y,.i (Z5b r radius).B.X,.i (Z5b r radius).B.Y,.i (Z5b r radius).C.X,.i (Z5b r radius).C.Y]) (i_-(([Z4R r radius,Z4U r radius]++[Z4S r radius,Z50 r radius])++[Z4Y r radius,Z56 r radius]).length) j_) 136)]⟩ (.cons (Kw (Z54 r radius).B (Z5a r radius).A) .nil) (.cons rfl (.cons rfl (.cons au3 (.cons au3 .nil))))<|BZ<|AH ?_
 refine Bq (Cv.trans (BS (⟨(Qe radius),[(4,Z4O),(5,Z5c r radius),(6,Z4Q r radius),(77,Z5d r radius)]⟩) lr (.cons ⟨rfl,.refl _⟩ (.cons ⟨rfl,.cells _ (rr (.cons (.own _ _ au2) (rr .nil)))⟩ (.cons ⟨rfl,.refl _⟩ (.cons ⟨rfl,Aw 136 (Bi (BR 7 AE.c (([Z4R r radius,Z4U r radius]++[Z4S r radius,Z50 r radius])++[Z4Y r radius,Z56 r radius])) (A3 (c:=AE.c) (xs:=([Z54 r radius,Z5b r radius]:List AE)) rfl kr))⟩ .nil))))) (Cv.refl _)) ?_
 refine rn ⟨(Db radius [(7,tI 4)]),[(4,Z4O),(5,Z5c r radius),(6,Z4Q r radius),(77,Z5d r radius)]⟩ ?_
 refine Gb ?_
 refine Bq (Cv.trans (wr (⟨(Db radius [(7,tI 4)]),[(4,Z4O),(5,Z5e r radius),(6,Z4Q r radius),(100003,Z5d r radius)]⟩) 77 100003 (K:=[]) (fun k x h=>by cases h)) (Cv.refl _))<|AC<|AC ?_
 refine rn ⟨(Db radius [(7,tI 4),(49,tB false)]),[(4,Z4O),(5,Z5e r radius),(6,Z4Q r radius),(100003,Z5d r radius)]⟩ ?_
 refine FI kr<|BP ?_
 refine BE<|BE ?_
 refine BQ<|AH<|AC ?_
 refine rn ⟨[(4,tP 4 0)],[(4,Z5e r radius),(100003,Z5d r radius)]⟩<|AZ ?_
 exact ⟨_,Cv.trans (vf 100003 7 ((([Z4R r radius,Z4U r radius]++[Z4S r radius,Z50 r radius])++[Z4Y r radius,Z56 r radius])++[Z54 r radius,Z5b r radius]).length (Ak AE.c ((([Z4R r radius,Z4U r radius]++[Z4S r radius,Z50 r radius])++[Z4Y r radius,Z56 r radius])++[Z54 r radius,Z5b r radius])) 136 (K:=[]) (fun k x h=>by cases h) (.cons ⟨rfl,rfl⟩ .nil)) (Cv.refl _),.inl rfl,.av (.agg [.i 2,lst 7 AE.c ((([Z4R r radius,Z4U r radius]++[Z4S r radius,Z50 r radius])++[Z4Y r radius,Z56 r radius])++[Z54 r radius,Z5b r radius]),.i 0]),by kernel_rfl,Ad (by rfl)⟩
theorem UY (r:An) (radius:Int):Aq Tryz.prog (HX r radius).1 (HX r radius).2.1 (HX r radius).2.2:=AR (fun _ _=>kr) fun _=>Wq r radius
end
end Go.Proofs.YtdbampcfmjbgmaaGreat
